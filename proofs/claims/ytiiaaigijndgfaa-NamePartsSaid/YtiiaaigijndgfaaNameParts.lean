/- NameParts holds for every input: no condition. -/
import Derived.Test.YtiiaaigijndgfaaName6
namespace Go.Proofs.Ytiiaaigijndgfaa.nameParts
open Go.ChangeShapes Go.WideShapes Go.ChangeAt Go.RowKit
open Go.Proofs.Ytiiaaigijndgfaa.nm

theorem hash_snoc (h : Nat) (l : List UInt8) (c : UInt8) : hashFrom h (l ++ [c]) = (31 * hashFrom h l + c.toNat) % 4294967296 := by
  rw [hashFrom_append]; rfl
theorem hash_split_rev (h : Nat) (l : List UInt8) (hl : l ≠ []) : hashFrom h l = (31 ^ l.length * h + hashFrom 0 l) % 4294967296 := by
  obtain ⟨r, rfl⟩ : ∃ r : List UInt8, l = r.reverse := ⟨l.reverse, by simp⟩
  induction r with
  | nil => simp at hl
  | cons c r ih =>
    rw [List.reverse_cons, hash_snoc, hash_snoc]
    have e : 31 ^ (r.reverse ++ [c]).length * h = 31 * (31 ^ r.reverse.length * h) := by
      rw [List.length_append, List.length_singleton, Nat.pow_succ, Nat.mul_comm (31 ^ _) 31, Nat.mul_assoc]
    rw [e]
    by_cases hr : r.reverse = []
    · rw [hr]; simp [hashFrom]
    · have := ih hr
      rw [this]
      generalize 31 ^ r.reverse.length * h = x
      generalize hashFrom 0 r.reverse = g
      omega
theorem hash_split (h : Nat) (hh : h < 4294967296) (l : List UInt8) : hashFrom h l = (31 ^ l.length * h + hashFrom 0 l) % 4294967296 := by
  by_cases hl : l = []
  · subst hl; simp [hashFrom]; omega
  · exact hash_split_rev h l hl

def mulH (A k : Nat) : Nat := 31 ^ k * A % 4294967296
theorem mulH_zero (A : Nat) (h : A < 4294967296) : mulH A 0 = A := by simp [mulH]; omega
theorem mulH_succ (A k : Nat) : mulH A (k + 1) = mulH A k * 31 % 4294967296 := by
  unfold mulH
  rw [Nat.pow_succ, Nat.mul_comm (31 ^ k) 31, Nat.mul_assoc]
  generalize 31 ^ k * A = x
  omega
theorem flat_one (s : ByteArray) : flatS [s] = s.data.toList := by simp [flatS]
theorem flat_two (s t : ByteArray) : flatS [s, t] = s.data.toList ++ t.data.toList := by simp [flatS]
theorem parts (s t : ByteArray) : hashL (flatS [s, t]) = (mulH (hashL (flatS [s])) t.size + hashL (flatS [t])) % 4294967296 := by
  rw [flat_one, flat_one, flat_two]
  unfold hashL
  rw [hashFrom_append, hash_split _ (hashFrom_lt 0 (by omega) _), size_toList]
  unfold mulH
  generalize 31 ^ t.size * hashFrom 0 s.data.toList = x
  omega

set_option maxHeartbeats 1000000 in
theorem walk_no (W : World) (s0 : ByteArray) (s1 : ByteArray) (h : 500 < (s0.size : Int) ∨ ¬ 500 < (s0.size : Int) ∧ 500 < (s1.size : Int)) :
    Calls Try.prog 5 #[.string s0, .string s1] W fun e w' => e = .returned (.bool true) ∧ Calm W w' := by
  rcases h with h1 | ⟨h1, h2⟩
  all_goals
    go_enter Try.func5, Try.ntmps5
    go_wp2_with (first | (go_at_call 12; refine (awake_any _).mono ?_; rintro e w' ⟨rfl, hb⟩))
    go_ret
    refine ⟨rfl, ?_⟩
    (repeat' (first | (with_reducible exact Calm.refl _) | (with_reducible assumption) | (with_reducible refine Calm.drew ?_) | (with_reducible refine Calm.alloc ?_ _) | (with_reducible refine Calm.trans ?_ (by assumption))))

set_option maxHeartbeats 4000000 in
theorem walk_yes (W : World) (s0 : ByteArray) (s1 : ByteArray) (h1 : ¬ 500 < (s0.size : Int)) (h2 : ¬ 500 < (s1.size : Int)) :
    Calls Try.prog 5 #[.string s0, .string s1] W fun e w' => e = .returned (.bool true) ∧ Calm W w' := by
  have p := parts s0 s1
  have cA := fun v W (h : StrsAt W v [s0]) => Hash_any v [s0] W h (by simp) (by intro s hs; simp at hs; subst hs; unfold maxLen; omega)
  have cB := fun v W (h : StrsAt W v [s1]) => Hash_any v [s1] W h (by simp) (by intro s hs; simp at hs; subst hs; unfold maxLen; omega)
  have cC := fun v W (h : StrsAt W v [s0, s1]) => Hash_any v [s0, s1] W h (by simp) (by intro s hs; simp at hs; rcases hs with rfl | rfl <;> unfold maxLen <;> omega)
  have bA : hashL (flatS [s0]) < 4294967296 := hashFrom_lt 0 (by omega) _
  have bB : hashL (flatS [s1]) < 4294967296 := hashFrom_lt 0 (by omega) _
  have bC : hashL (flatS [s0, s1]) < 4294967296 := hashFrom_lt 0 (by omega) _
  obtain ⟨A, hA⟩ : ∃ A, hashL (flatS [s0]) = A := ⟨_, rfl⟩
  obtain ⟨B, hB⟩ : ∃ B, hashL (flatS [s1]) = B := ⟨_, rfl⟩
  obtain ⟨C, hC⟩ : ∃ C, hashL (flatS [s0, s1]) = C := ⟨_, rfl⟩
  simp only [hA, hB, hC] at cA cB cC bA bB bC p
  clear hA hB hC
  have CA := box cA
  have CB := box cB
  have CC := box cC
  have m0 := box (mulH_zero A bA)
  have E := box (show ((C : Int) == ((mulH A s1.size : Int) + B) % 4294967296) = true by rw [beq_iff_eq, p]; omega)
  clear cA cB cC p
  have bm : ∀ k, mulH A k < 4294967296 := fun k => Nat.mod_lt (31 ^ k * A) (by omega : 4294967296 > 0)
  have Bm := box bm
  clear bm
  have bA' := box bA
  have bB' := box bB
  have bC' := box bC
  clear bA bB bC
  go_enter Try.func5, Try.ntmps5
  go_wp2_with (first | (go_at_call 12; refine (awake_any _).mono ?_; rintro e w' ⟨rfl, hb⟩))
  have bA := bA'.out
  refine (CA.out _ _ (StrsAt.one ?hc)).mono ?_
  case hc => go_cell
  rintro e w' ⟨rfl, rfl⟩
  go_wp2_with fail
  go_loop [5, 23] (fun h i => ∃ k : Nat, k ≤ s1.size ∧ i = .int .i64 k ∧ h = .int .u32 (mulH A k)) (fun _ i => s1.size - (intOf i).toNat)
  case atStart => exact ⟨0, Nat.zero_le _, rfl, by rw [m0.out]⟩
  case round =>
    obtain ⟨k, hk, rfl, rfl⟩ := hrel
    have bk := Bm.out k
    by_cases hlt : k < s1.size
    · have hs := box (mulH_succ A k)
      obtain ⟨m, hm⟩ : ∃ m, mulH A k = m := ⟨_, rfl⟩
      rw [hm] at hs bk ⊢
      clear hm
      go_wp2
      go_round
      case rel => exact ⟨k + 1, by omega, by go_num, by rw [hs.out]; exact val_int (by omega)⟩
      case measure => simp [intOf]; omega
    · obtain rfl : k = s1.size := by omega
      have bB := bB'.out
      have bC := bC'.out
      go_wp2_with fail
      refine (CC.out _ _ (StrsAt.two ?hc0 ?hc1)).mono ?_
      case hc0 => go_cell
      case hc1 => go_cell
      rintro e w' ⟨rfl, rfl⟩
      go_wp2_with fail
      refine (CB.out _ _ (StrsAt.one ?hc)).mono ?_
      case hc => go_cell
      rintro e w' ⟨rfl, rfl⟩
      go_wp2_with fail
      · go_ret
        refine ⟨ret_bool (by simp; omega), ?_⟩
        (repeat' (first | (with_reducible exact Calm.refl _) | (with_reducible assumption) | (with_reducible refine Calm.drew ?_) | (with_reducible refine Calm.alloc ?_ _) | (with_reducible refine Calm.trans ?_ (by assumption))))
      · exfalso
        have := E.out
        rw [beq_iff_eq] at this
        contradiction

theorem walk (W : World) (s0 : ByteArray) (z0 : s0.size ≤ maxLen) (s1 : ByteArray) (z1 : s1.size ≤ maxLen) :
    Calls Try.prog 5 #[.string s0, .string s1] W fun e w' => e = .returned (.bool true) ∧ Calm W w' := by
  by_cases h1 : 500 < (s0.size : Int)
  · exact walk_no W s0 s1 (.inl h1)
  by_cases h2 : 500 < (s1.size : Int)
  · exact walk_no W s0 s1 (.inr ⟨h1, h2⟩)
  exact walk_yes W s0 s1 h1 h2

theorem own : ownKnob Try.prog.godebug = none := by kernel_rfl
theorem laidOut : laidOutB Try.prog = true := by kernel_rfl
set_option maxRecDepth 100000 in
set_option linter.unusedVariables false in
theorem lifted (os : Os) (started : os.Started) (H : Type) (enc : TypeId × Value → H) :
    ReturnsInHanded {} Try.checked os 5 .any (Rows.namePartsSpec.pre6 enc Try.prog Try.f5 Rows.namePartsRow.domain false) (Rows.namePartsSpec.post enc Try.prog Try.f5 false true false false) := by
  refine returnsInHanded_of_change_sized (C := Try.checked) own started (by kernel_rfl) Try.func5
    (ChangeSpec.witness6 (enc := enc) (C := Try.checked) false ⟨#[], #[.string ⟨#[]⟩, .string ⟨#[]⟩], []⟩ 8 (by kernel_rfl) (by kernel_rfl) (by kernel_rfl) (by kernel_rfl)) ?_
  intro W base args ds gs before hval0 hW hcnd hsz0 _
  have hsz : (DataW.weightsEach Try.prog (Try.f5.params.toList ++ []) (ds ++ gs)).all (· ≤ reachBytes) = true := hsz0
  clear hsz0
  have hval : ∀ (j : Nat) t v, Try.f5.params[j]? = some t → args[j]? = some v → Value.okWide Try.prog W .any base t v := hval0
  have hW' := hW
  obtain ⟨p, q, hA0, hV, rfl, hfz, hnd⟩ := hW
  have hA : DataW.TrodAll enc Try.prog W 0 (fun _ => true) true Try.f5.params.toList args.toList ds p := hA0
  rw [Try.params5] at hA hval hsz
  obtain ⟨v0, vs0, d0, ds0, p0, q0, hargs, rfl, rfl, h0, r0'⟩ := trodAll_cons hA
  obtain ⟨v1, vs1, d1, ds1, p1, q1, rfl, rfl, rfl, h1, r1'⟩ := trodAll_cons r0'
  obtain ⟨rfl, rfl, rfl⟩ := trodAll_nil r1'
  obtain rfl : args = #[v0, v1] := by cases args; simp_all
  obtain ⟨rfl, rfl⟩ := trodVars_none hV
  clear hA0 hval0
  have wt0 := fun n hn => (by simpa using List.all_eq_true.1 hsz n (DataW.weights_mem_each (j := 0) rfl rfl n hn) : n ≤ reachBytes)
  have wt1 := fun n hn => (by simpa using List.all_eq_true.1 hsz n (DataW.weights_mem_each (j := 1) rfl rfl n hn) : n ≤ reachBytes)
  have hlt : ∀ x ∈ p0 ++ (p1 ++ []), x.block < W.heap.size := fun x hx => by have := hW'.lt x (by simpa using hx); simpa using this
  obtain ⟨s0, e0, _, _, z0⟩ := Go.ChangeMaps.open_string Try.underlying9 (hval 0 9 v0 rfl rfl) h0
  subst e0
  obtain ⟨s1, e1, _, _, z1⟩ := Go.ChangeMaps.open_string Try.underlying9 (hval 1 9 v1 rfl rfl) h1
  subst e1
  refine (walk W s0 z0 s1 z1).mono fun e W' ⟨he, hg⟩ => ?_
  subst he
  refine ⟨_, rfl, _, _, _, [] ++ [], p0 ++ (p1 ++ []), [], hW', ?_, ?_, ?_, hg.frame _, fun h => by cases h⟩
  · exact trodAll_mk1 (shut_bool Try.underlying4 true)
  · exact trodAll_cons_mk (Below.trod laidOut (by kernel_rfl) (of_decide_eq_true (by kernel_rfl)) h0 hg (fun x hx => hlt x (by simp [hx]))) (trodAll_cons_mk (Below.trod laidOut (by kernel_rfl) (of_decide_eq_true (by kernel_rfl)) h1 hg (fun x hx => hlt x (by simp [hx]))) (trodAll_mk0))
  · exact rfl

theorem over : Rows.namePartsRow.holds Try.pinned (OpenSpec.ofChange Rows.namePartsSpec) :=
  OpenClaim.holds_of_wide 5 Try.f5 rfl rfl rfl rfl rfl rfl rfl ⟨rfl, rfl, rfl, rfl, rfl⟩ rfl rfl rfl rfl rfl (by kernel_rfl) Try.func5 (by kernel_rfl)
    (of_decide_eq_true (by kernel_rfl)) (by unfold Func.isWrapper; first | (rw [if_pos (by decide +kernel)]; kernel_rfl) | (rw [if_neg (by decide +kernel)]; exact ⟨rfl, rfl⟩))
    (fun os started H enc _ => lifted os started H enc)

theorem proved : Rows.NamePartsSaid := over
#print axioms proved
end Go.Proofs.Ytiiaaigijndgfaa.nameParts
