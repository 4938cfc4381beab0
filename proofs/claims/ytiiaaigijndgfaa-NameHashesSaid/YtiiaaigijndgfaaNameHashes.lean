/- NameHashes holds for every input: no condition. -/
import Derived.Test.YtiiaaigijndgfaaName6
namespace Go.Proofs.Ytiiaaigijndgfaa.nameHashes
open Go.ChangeShapes Go.WideShapes Go.ChangeAt Go.RowKit
open Go.Proofs.Ytiiaaigijndgfaa.nm

/-- The text that is gathered. -/
def cat (l : List ByteArray) : ByteArray := l.foldl (· ++ ·) ⟨#[]⟩
theorem cat_snoc (l : List ByteArray) (k : Nat) (hk : k < l.length) : cat (l.take (k + 1)) = cat (l.take k) ++ l.getD k ByteArray.empty := by
  rw [List.take_succ_eq_append_getElem hk]; unfold cat; rw [List.foldl_append]; simp [List.getD_eq_getElem?_getD, List.getElem?_eq_getElem hk]
theorem cat_data (l : List ByteArray) : (cat l).data.toList = flatS l := by
  have key : ∀ (l : List ByteArray) (a : ByteArray), (l.foldl (· ++ ·) a).data.toList = a.data.toList ++ flatS l := by
    intro l
    induction l with
    | nil => intro a; simp [flatS]
    | cons x l ih => intro a; rw [List.foldl_cons, ih, append_toList]; simp [flatS]
  have := key l ⟨#[]⟩
  simpa [cat] using this

set_option maxHeartbeats 8000000 in
theorem walk (W : World) (v : Value) (l : List ByteArray) (hv : StrsAt W v l) (z : ∀ s ∈ l, s.size ≤ reachBytes) (n : l.length ≤ maxLen) :
    Calls Try.prog 7 #[v] W fun e w' => e = .returned (.bool true) ∧ Calm W w' := by
  unfold maxLen at n
  unfold reachBytes at z
  have Hv := box hv
  have Z := box z
  clear z
  obtain ⟨a, cap, rfl, hc⟩ := hv.uni
  have Hc := box hc
  clear hc hv
  go_enter Try.func7, Try.ntmps7
  go_wp2_with (first | (go_at_call 12; refine (awake_any _).mono ?_; rintro e w' ⟨rfl, hb⟩))
  go_loop [11, 3, 4] (fun i s p => ∃ k : Nat, k ≤ l.length ∧ i = .int .i64 k ∧ s = .string (cat (l.take k)) ∧ (cat (l.take k)).size ≤ 1000 ∧ p = .bool ((l.take k).all plainB)) (fun i _ _ => l.length - (intOf i).toNat)
  case atStart => exact ⟨0, Nat.zero_le _, rfl, rfl, Nat.zero_le _, rfl⟩
  case round =>
    obtain ⟨k, hk, rfl, rfl, hsz, rfl⟩ := hrel
    by_cases hlt : k < l.length
    · obtain ⟨b, off, rfl, hbl, hc1⟩ := Hc.out k hlt
      have hcell : w'.cell? ⟨b, off + k, none⟩ = some (.string (l.getD k ByteArray.empty)) := by
        rw [hb.cell (p := ⟨b, off + k, none⟩) hbl]; exact hc1
      clear hc1
      have hs1 := Z.out _ (show l.getD k ByteArray.empty ∈ l by rw [List.getD_eq_getElem?_getD, List.getElem?_eq_getElem hlt]; exact List.getElem_mem _)
      have h1 := box (cat_snoc l k hlt)
      have h2 := box (allP_snoc l k hlt plainB)
      obtain ⟨s, hs⟩ : ∃ s, l.getD k ByteArray.empty = s := ⟨_, rfl⟩
      rw [hs] at hcell hs1 h1 h2
      clear hs
      obtain ⟨c, hcc⟩ : ∃ c, cat (l.take k) = c := ⟨_, rfl⟩
      rw [hcc] at hsz h1 ⊢
      clear hcc
      have hz : s.size ≤ maxLen := by unfold maxLen; omega
      cases hp : (l.take k).all plainB
      all_goals
        rw [hp] at h2
        have hp' := box hp
        clear hp
        by_cases hbig : 1000 < (c.size : Int) + s.size
        · go_wp2_with (first | (go_at_call 19; refine (rPlain_any _ _ hz).mono ?_; rintro e w' ⟨rfl, rfl⟩))
          go_ret
          refine ⟨rfl, ?_⟩
          (repeat' (first | (with_reducible exact Calm.refl _) | (with_reducible assumption) | (with_reducible refine Calm.drew ?_) | (with_reducible refine Calm.alloc ?_ _) | (with_reducible refine Calm.trans ?_ (by assumption))))
        · go_wp2_with (first | (go_at_call 19; refine (rPlain_any _ _ hz).mono ?_; rintro e w' ⟨rfl, rfl⟩))
          go_round
          case rel => exact ⟨k + 1, by omega, by go_num, by rw [h1.out], by rw [h1.out, ByteArray.size_append]; omega, by rw [h2.out]; simp⟩
          case measure => simp [intOf]; omega
    · obtain rfl : k = l.length := by omega
      rw [List.take_length] at hsz ⊢
      by_cases hmany : 60 < (l.length : Int)
      · go_wp2
        go_ret
        refine ⟨rfl, ?_⟩
        (repeat' (first | (with_reducible exact Calm.refl _) | (with_reducible assumption) | (with_reducible refine Calm.drew ?_) | (with_reducible refine Calm.alloc ?_ _) | (with_reducible refine Calm.trans ?_ (by assumption))))
      · have cL := fun v W (h : StrsAt W v l) => Hash_any v l W h (by omega) (fun s hs => by have := Z.out s hs; unfold maxLen; omega)
        have c1 := fun v W (h : StrsAt W v [cat l]) => Hash_any v [cat l] W h (by simp) (by intro s hs; simp at hs; subst hs; unfold maxLen; omega)
        have cR := fun W => rHash_any (cat l) W (by unfold maxLen; omega)
        have e1 : flatS [cat l] = flatS l := by rw [← cat_data l]; simp [flatS]
        rw [e1] at c1
        rw [cat_data l] at cR
        clear e1
        obtain ⟨H, hH⟩ : ∃ H, hashL (flatS l) = H := ⟨_, rfl⟩
        simp only [hH] at cL c1 cR
        clear hH
        have CL := box cL
        have C1 := box c1
        have CR := box cR
        clear cL c1 cR
        obtain ⟨c, hcc⟩ : ∃ c, cat l = c := ⟨_, rfl⟩
        rw [hcc] at C1 CR hsz ⊢
        clear hcc
        have el : ((l.length : Int) == 0) = decide (l = []) := by
          rw [Bool.eq_iff_iff]; simp
        have cP := fun v W (h : StrsAt W v l) => AllPlain_any v l W h (by omega)
        have cN := fun v W (h : StrsAt W v l) => AllNil_any v l W h (by omega)
        obtain ⟨P, hP⟩ : ∃ P, l.all plainB = P := ⟨_, rfl⟩
        obtain ⟨E, hE⟩ : ∃ E, decide (l = []) = E := ⟨_, rfl⟩
        simp only [hP] at cP ⊢
        simp only [hE] at cN el
        clear hP hE
        have CP := box cP
        have CN := box cN
        clear cP cN
        go_wp2_with fail
        refine (CL.out _ _ (Hv.out.calm hb)).mono ?_
        rintro e w1 ⟨rfl, rfl⟩
        go_wp2_with (go_at_call 28; refine (CR.out _).mono ?_; rintro e w' ⟨rfl, rfl⟩)
        refine (C1.out _ _ (StrsAt.one ?hc)).mono ?_
        case hc => go_cell
        rintro e w1 ⟨rfl, rfl⟩
        go_wp2_with (go_at_call 28; refine (CR.out _).mono ?_; rintro e w' ⟨rfl, rfl⟩)
        refine (CP.out _ _ (Hv.out.calm ?hcalm)).mono ?_
        case hcalm => (repeat' (first | (with_reducible exact Calm.refl _) | (with_reducible assumption) | (with_reducible refine Calm.drew ?_) | (with_reducible refine Calm.alloc ?_ _) | (with_reducible refine Calm.trans ?_ (by assumption))))
        rintro e w1 ⟨rfl, hb1⟩
        go_wp2_with fail
        refine (CN.out _ _ (Hv.out.calm ?hcalm)).mono ?_
        case hcalm => (repeat' (first | (with_reducible exact Calm.refl _) | (with_reducible assumption) | (with_reducible refine Calm.drew ?_) | (with_reducible refine Calm.alloc ?_ _) | (with_reducible refine Calm.trans ?_ (by assumption))))
        rintro e w1 ⟨rfl, rfl⟩
        go_wp2
        go_ret
        refine ⟨ret_bool (by simp), ?_⟩
        (repeat' (first | (with_reducible exact Calm.refl _) | (with_reducible assumption) | (with_reducible refine Calm.drew ?_) | (with_reducible refine Calm.alloc ?_ _) | (with_reducible refine Calm.trans ?_ (by assumption))))

theorem own : ownKnob Try.prog.godebug = none := by kernel_rfl
theorem laidOut : laidOutB Try.prog = true := by kernel_rfl
set_option maxRecDepth 100000 in
set_option linter.unusedVariables false in
theorem lifted (os : Os) (started : os.Started) (H : Type) (enc : TypeId × Value → H) :
    ReturnsInHanded {} Try.checked os 7 .any (Rows.nameHashesSpec.pre6 enc Try.prog Try.f7 Rows.nameHashesRow.domain false) (Rows.nameHashesSpec.post enc Try.prog Try.f7 false true false false) := by
  refine returnsInHanded_of_change_sized (C := Try.checked) own started (by kernel_rfl) Try.func7
    (ChangeSpec.witness6 (enc := enc) (C := Try.checked) false ⟨#[], #[.slice none 0 0], []⟩ 8 (by kernel_rfl) (by kernel_rfl) (by kernel_rfl) (by kernel_rfl)) ?_
  intro W base args ds gs before hval0 hW hcnd hsz0 _
  have hsz : (DataW.weightsEach Try.prog (Try.f7.params.toList ++ []) (ds ++ gs)).all (· ≤ reachBytes) = true := hsz0
  clear hsz0
  have hval : ∀ (j : Nat) t v, Try.f7.params[j]? = some t → args[j]? = some v → Value.okWide Try.prog W .any base t v := hval0
  have hW' := hW
  obtain ⟨p, q, hA0, hV, rfl, hfz, hnd⟩ := hW
  have hA : DataW.TrodAll enc Try.prog W 0 (fun _ => true) true Try.f7.params.toList args.toList ds p := hA0
  rw [Try.params7] at hA hval hsz
  obtain ⟨v0, vs0, d0, ds0, p0, q0, hargs, rfl, rfl, h0, r0'⟩ := trodAll_cons hA
  obtain ⟨rfl, rfl, rfl⟩ := trodAll_nil r0'
  obtain rfl : args = #[v0] := by cases args; simp_all
  obtain ⟨rfl, rfl⟩ := trodVars_none hV
  clear hA0 hval0
  have wt0 := fun n hn => (by simpa using List.all_eq_true.1 hsz n (DataW.weights_mem_each (j := 0) rfl rfl n hn) : n ≤ reachBytes)
  have hlt : ∀ x ∈ p0 ++ [], x.block < W.heap.size := fun x hx => by have := hW'.lt x (by simpa using hx); simpa using this
  obtain ⟨l0, r0, z0, n0⟩ := strs_of_trod Try.underlying35 Try.underlying9 (by kernel_rfl) (hval 0 35 v0 rfl rfl) h0 wt0
  refine (walk W v0 l0 r0 z0 n0).mono fun e W' ⟨he, hg⟩ => ?_
  subst he
  refine ⟨_, rfl, _, _, _, [] ++ [], p0 ++ [], [], hW', ?_, ?_, ?_, hg.frame _, fun h => by cases h⟩
  · exact trodAll_mk1 (shut_bool Try.underlying4 true)
  · exact trodAll_cons_mk (Below.trod laidOut (by kernel_rfl) (of_decide_eq_true (by kernel_rfl)) h0 hg (fun x hx => hlt x (by simp [hx]))) (trodAll_mk0)
  · exact rfl

theorem over : Rows.nameHashesRow.holds Try.pinned (OpenSpec.ofChange Rows.nameHashesSpec) :=
  OpenClaim.holds_of_wide 7 Try.f7 rfl rfl rfl rfl rfl rfl rfl ⟨rfl, rfl, rfl, rfl, rfl⟩ rfl rfl rfl rfl rfl (by kernel_rfl) Try.func7 (by kernel_rfl)
    (of_decide_eq_true (by kernel_rfl)) (by unfold Func.isWrapper; first | (rw [if_pos (by decide +kernel)]; kernel_rfl) | (rw [if_neg (by decide +kernel)]; exact ⟨rfl, rfl⟩))
    (fun os started H enc _ => lifted os started H enc)

theorem proved : Rows.NameHashesSaid := over
#print axioms proved
end Go.Proofs.Ytiiaaigijndgfaa.nameHashes
