/- Layer 2: sums, sealed texts. -/
import Derived.Test.YtafdfmdcnniccaaGreatRows
import Derived.WalkKit
import Derived.ProofKit
import Derived.OpenShut
import Derived.Handy
import Derived.Deep.LoopGhost
import Derived.Lib.Hide
import Derived.Lib.Strings
import Derived.SizedLaws
import Derived.Maps.Own
import Derived.Maps.OwnOps
import Derived.Maps.OwnSet
import Derived.Maps.RangeWalk
import Derived.Deep.QuietTactic
import Derived.BigQuiet
import Derived.Deep.RegionHeld3
import Derived.Lib.ConvBytes
import Derived.Lib.AppendZeros
import Derived.Lib.AppendZerosOnto
import Derived.Lib.LazyBuf
import Derived.Shelf.Abstract
import Derived.LaidEql
import Derived.Lib.SliceRun
import Derived.StillTailTactics
import Derived.Deep.Slices
import Derived.Outline
import Derived.Laws.Cover1
import Derived.Deep.RegionLaw
import Derived.Deep.DeepCutAuto
import Derived.Deep.CutBlock
import Derived.Shelf.SlicesE.Clone
import Derived.Ground.SlgnProg
import Derived.Test.YtafdfmdcnniccaaGreatProg
import Derived.Shelf.Strings.Builder1
import Derived.Shelf.Small.Bits
import Derived.Shelf.Small.Wraps
import Derived.Shelf.Strings.BuilderF
import Derived.Shelf.Strings.BuilderK
import Derived.Shelf.Strconv.Itoa0
import Derived.Shelf.Sort.Plain
import Derived.Shelf.GgClosure.StringsIndexFunc
import Derived.Ground.GgwProg
import Derived.Shelf.GgClosure.StringsIndexFuncTop
import Derived.Shelf.GgClosure.StringsRunes
import Derived.Shelf.Strings.Prefix
import Derived.Shelf.Strings.BuilderCap
import Derived.Ground.Names2Prog
import Derived.Shelf.Slices.SearchI
import Derived.Shelf.Slices.In.SortNone
import Derived.Ground.SlgfProg
import Derived.Shelf.SlicesE.IndexFunc
import Derived.Shelf.SlicesE.DeleteFunc
import Derived.Lib.DecodeN
import Derived.Lib.Overlaps
import Derived.Laws.CopyOwn
import Derived.Laws.MakeOwn
import Derived.Lib.Builder
import Derived.Lib.AppendStr
import Derived.Laws.Rows
import Derived.Shelf.SlIter.Nil
import Derived.Ground.GgzProg
import Derived.Shelf.SortM.Plain
import Derived.Shelf.SortM.SortNone
import Derived.Ground.SlgmProg
import Derived.Laws.BitsLemmas
import Derived.Laws.ResultCell
import Derived.Test.YtafdfmdcnniccaaGreatPk26
namespace Go.Proofs.YtafdfmdcnniccaaGreat.cr
open Go.ChangeShapes Go.WideShapes Go.ChangeAt Go.RowKit
open Go.Proofs.YtafdfmdcnniccaaGreat.oc Go.Proofs.YtafdfmdcnniccaaGreat.rc

theorem xor_join (n a b : Nat) (h : a < 2 ^ n) : a ^^^ (2 ^ n * b) = 2 ^ n * b + a := by
  have := xor_split n (2 ^ n * b + a)
  rwa [Nat.mul_add_mod, Nat.mod_eq_of_lt h, Nat.mul_add_div (Nat.two_pow_pos n), Nat.div_eq_of_lt h, Nat.add_zero] at this
theorem or_xor (n a b : Nat) (h : a < 2 ^ n) : a ||| (2 ^ n * b) = a ^^^ (2 ^ n * b) := by
  rw [xor_join n a b h, Nat.or_comm, ← Nat.two_pow_add_eq_or_of_lt h]
set_option maxRecDepth 100000 in
set_option maxHeartbeats 8000000 in
theorem four_any (b x : Nat) (s : ByteArray) (w : World) (h : TabAt w b 1024) (hx : x < 4294967296) (hs : 4 ≤ s.size) :
    Calls Tryz.prog 90 #[.pointer (some ⟨b, 0, none⟩), .int .u32 x, .string s] w fun e w' => e = .returned (.int .u32 (crcB (crcB (crcB (crcB x s[0]) s[1]) s[2]) s[3] : Nat)) ∧ Calm w w' := by
  have hs0 : (0 : Int) < s.size := by omega
  have hs1 : (1 : Int) < s.size := by omega
  have hs2 : (2 : Int) < s.size := by omega
  have hs3 : (3 : Int) < s.size := by omega
  have g0 : 0 < s.size := by omega
  have g1 : 1 < s.size := by omega
  have g2 : 2 < s.size := by omega
  have g3 : 3 < s.size := by omega
  have l0 := s[0].toNat_lt
  have l1 := s[1].toNat_lt
  have l2 := s[2].toNat_lt
  have l3 := s[3].toNat_lt
  obtain ⟨p1, hp1⟩ : ∃ p, p = 256 * s[1].toNat := ⟨_, rfl⟩
  obtain ⟨p2, hp2⟩ : ∃ p, p = 65536 * s[2].toNat := ⟨_, rfl⟩
  obtain ⟨p3, hp3⟩ : ∃ p, p = 16777216 * s[3].toNat := ⟨_, rfl⟩
  obtain ⟨q1, hq1⟩ : ∃ q, q = s[0].toNat ^^^ p1 := ⟨_, rfl⟩
  obtain ⟨q2, hq2⟩ : ∃ q, q = q1 ^^^ p2 := ⟨_, rfl⟩
  obtain ⟨q3, hq3⟩ : ∃ q, q = q2 ^^^ p3 := ⟨_, rfl⟩
  obtain ⟨y, hy⟩ : ∃ y, y = x ^^^ q3 := ⟨_, rfl⟩
  have lq1 : q1 < 65536 := by rw [hq1]; exact Nat.xor_lt_two_pow (n := 16) (by omega) (by omega)
  have lq2 : q2 < 16777216 := by rw [hq2]; exact Nat.xor_lt_two_pow (n := 24) (by omega) (by omega)
  have lq3 : q3 < 4294967296 := by rw [hq3]; exact Nat.xor_lt_two_pow (n := 32) (by omega) (by omega)
  have ly : y < 4294967296 := by rw [hy]; exact Nat.xor_lt_two_pow (n := 32) (by omega) (by omega)
  have e0 : IntKind.u32.wrap (s[0].toNat : Int) = s[0].toNat := by rw [IntKind.wrap_u32]; omega
  have e1 : IntKind.u32.wrap (IntKind.u32.wrap (s[1].toNat : Int) * 256) = p1 := by rw [IntKind.wrap_u32, IntKind.wrap_u32]; omega
  have e2 : IntKind.u32.wrap (IntKind.u32.wrap (s[2].toNat : Int) * 65536) = p2 := by rw [IntKind.wrap_u32, IntKind.wrap_u32]; omega
  have e3 : IntKind.u32.wrap (IntKind.u32.wrap (s[3].toNat : Int) * 16777216) = p3 := by rw [IntKind.wrap_u32, IntKind.wrap_u32]; omega
  have o1 : bits .or .u32 (s[0].toNat : Int) (p1 : Int) = q1 := by rw [or32 _ _ (by omega) (by omega), hq1, hp1]; congr 1; exact or_xor 8 _ _ l0
  have o2 : bits .or .u32 (q1 : Int) (p2 : Int) = q2 := by rw [or32 _ _ (by omega) (by omega), hq2, hp2]; congr 1; exact or_xor 16 _ _ lq1
  have o3 : bits .or .u32 (q2 : Int) (p3 : Int) = q3 := by rw [or32 _ _ (by omega) (by omega), hq3, hp3]; congr 1; exact or_xor 24 _ _ lq2
  have o4 : bits .xor .u32 (x : Int) (q3 : Int) = y := by rw [xor32 _ _ hx lq3, hy]
  have hres : crcB (crcB (crcB (crcB x s[0]) s[1]) s[2]) s[3] = steps 32 y := by
    unfold crcB
    rw [four_steps, hy, hq3, hq2, hq1, hp1, hp2, hp3]
  rw [hres, steps32 y ly]
  obtain ⟨u0, hu0⟩ : ∃ u, u = y % 256 := ⟨_, rfl⟩
  obtain ⟨u1, hu1⟩ : ∃ u, u = y / 256 % 256 := ⟨_, rfl⟩
  obtain ⟨u2, hu2⟩ : ∃ u, u = y / 65536 % 256 := ⟨_, rfl⟩
  obtain ⟨u3, hu3⟩ : ∃ u, u = y / 16777216 := ⟨_, rfl⟩
  have m0 : (u0 : Int) < 256 := by omega
  have m1 : (u1 : Int) < 256 := by omega
  have m2 : (u2 : Int) < 256 := by omega
  have m3 : (u3 : Int) < 256 := by omega
  have t3 := tab_cell h (768 + u0) (by omega)
  have t2 := tab_cell h (512 + u1) (by omega)
  have t1 := tab_cell h (256 + u2) (by omega)
  have t0 := tab_cell h u3 (by omega)
  rw [show tabI 1024 (768 + u0) = steps 32 u0 by unfold tabI; rw [if_pos (by omega), show (768 + u0) / 256 = 3 by omega, show (768 + u0) % 256 = u0 by omega]] at t3
  rw [show tabI 1024 (512 + u1) = steps 24 u1 by unfold tabI; rw [if_pos (by omega), show (512 + u1) / 256 = 2 by omega, show (512 + u1) % 256 = u1 by omega]] at t2
  rw [show tabI 1024 (256 + u2) = steps 16 u2 by unfold tabI; rw [if_pos (by omega), show (256 + u2) / 256 = 1 by omega, show (256 + u2) % 256 = u2 by omega]] at t1
  rw [show tabI 1024 u3 = steps 8 u3 by unfold tabI; rw [if_pos (by omega), show u3 / 256 = 0 by omega, show u3 % 256 = u3 by omega]] at t0
  have z3 : steps 32 u0 < 4294967296 := steps_lt _ (by omega)
  have z2 : steps 24 u1 < 4294967296 := steps_lt _ (by omega)
  have z1 : steps 16 u2 < 4294967296 := steps_lt _ (by omega)
  have z0 : steps 8 u3 < 4294967296 := steps_lt _ (by omega)
  rw [← hu0, ← hu1, ← hu2, ← hu3]
  obtain ⟨a3, ha3⟩ : ∃ a, steps 32 u0 = a := ⟨_, rfl⟩
  obtain ⟨a2, ha2⟩ : ∃ a, steps 24 u1 = a := ⟨_, rfl⟩
  obtain ⟨a1, ha1⟩ : ∃ a, steps 16 u2 = a := ⟨_, rfl⟩
  obtain ⟨a0, ha0⟩ : ∃ a, steps 8 u3 = a := ⟨_, rfl⟩
  rw [ha3] at t3 z3
  rw [ha2] at t2 z2
  rw [ha1] at t1 z1
  rw [ha0] at t0 z0
  rw [ha3, ha2, ha1, ha0]
  obtain ⟨r1, hr1⟩ : ∃ r, r = a3 ^^^ a2 := ⟨_, rfl⟩
  obtain ⟨r2, hr2⟩ : ∃ r, r = r1 ^^^ a1 := ⟨_, rfl⟩
  obtain ⟨r3, hr3⟩ : ∃ r, r = r2 ^^^ a0 := ⟨_, rfl⟩
  have lr1 : r1 < 4294967296 := by rw [hr1]; exact Nat.xor_lt_two_pow (n := 32) (by omega) (by omega)
  have lr2 : r2 < 4294967296 := by rw [hr2]; exact Nat.xor_lt_two_pow (n := 32) (by omega) (by omega)
  have x1 : bits .xor .u32 (a3 : Int) (a2 : Int) = r1 := by rw [xor32 _ _ z3 z2, hr1]
  have x2 : bits .xor .u32 (r1 : Int) (a1 : Int) = r2 := by rw [xor32 _ _ lr1 z1, hr2]
  have x3 : bits .xor .u32 (r2 : Int) (a0 : Int) = r3 := by rw [xor32 _ _ lr2 z0, hr3]
  have n0 : bits .and .u32 (y : Int) 255 = u0 := by rw [and255 y ly, hu0]
  have n1 : bits .and .u32 ((y : Int) / 256) 255 = u1 := by rw [← show ((y / 256 : Nat) : Int) = (y : Int) / 256 by omega, and255 _ (by omega), hu1]
  have n2 : bits .and .u32 ((y : Int) / 65536) 255 = u2 := by rw [← show ((y / 65536 : Nat) : Int) = (y : Int) / 65536 by omega, and255 _ (by omega), hu2]
  have n3 : (y : Int) / 16777216 = u3 := by omega
  rw [← hr1, ← hr2, ← hr3]
  have hb := heap_lt h
  clear h hp1 hp2 hp3 hq1 hq2 hq3 hy hres hu0 hu1 hu2 hu3 ha0 ha1 ha2 ha3 hr1 hr2 hr3 l0 l1 l2 l3 lq1 lq2 lq3 z0 z1 z2 z3 lr1 lr2 hx ly
  go_enter Tryz.func90, Tryz.ntmps90
  go_wp2_with fail
  refine wp_region_held_drew (S := fun _ => True) (by kernel_rfl) trivial (fun hHeld => ?_)
  ((refine' wpAnyH_take (i := 0) (v := _) rfl (by kernel_rfl) (by kernel_rfl) (by kernel_rfl) (fun _ _ _ h => h) (Or.inl ⟨by rfl, ?hy176⟩) (by assumption) ?rest176; (case hy176 => (intro w hSw; (try dsimp only at hSw); go_simp <;> with_reducible rfl)); simp only [List.getElem_toArray, List.getElem_cons_succ, List.getElem_cons_zero, Act.put, List.setIfInBounds_toArray, List.set_cons_zero, List.set_cons_succ]); (refine' wpAnyH_take (i := 1) (v := _) rfl (by kernel_rfl) (by kernel_rfl) (by kernel_rfl) (fun _ _ _ h => h) (Or.inl ⟨by rfl, ?hy177⟩) (by assumption) ?rest177; (case hy177 => (intro w hSw; (try dsimp only at hSw); go_simp <;> with_reducible rfl)); simp only [List.getElem_toArray, List.getElem_cons_succ, List.getElem_cons_zero, Act.put, List.setIfInBounds_toArray, List.set_cons_zero, List.set_cons_succ]); (refine' wpAnyH_take (i := 2) (v := _) rfl (by kernel_rfl) (by kernel_rfl) (by kernel_rfl) (fun _ _ _ h => h) (Or.inl ⟨by rfl, ?hy178⟩) (by assumption) ?rest178; (case hy178 => (intro w hSw; (try dsimp only at hSw); go_simp <;> with_reducible rfl)); simp only [List.getElem_toArray, List.getElem_cons_succ, List.getElem_cons_zero, Act.put, List.setIfInBounds_toArray, List.set_cons_zero, List.set_cons_succ]); (refine' wpAnyH_take (i := 3) (v := _) rfl (by kernel_rfl) (by kernel_rfl) (by kernel_rfl) (fun _ _ _ h => h) (Or.inl ⟨by rfl, ?hy179⟩) (by assumption) ?rest179; (case hy179 => (intro w hSw; (try dsimp only at hSw); go_simp <;> with_reducible rfl)); simp only [List.getElem_toArray, List.getElem_cons_succ, List.getElem_cons_zero, Act.put, List.setIfInBounds_toArray, List.set_cons_zero, List.set_cons_succ]); (refine' wpAnyH_take (i := 4) (v := _) rfl (by kernel_rfl) (by kernel_rfl) (by kernel_rfl) (fun _ _ _ h => h) (Or.inl ⟨by rfl, ?hy180⟩) (by assumption) ?rest180; (case hy180 => (intro w hSw; (try dsimp only at hSw); go_simp <;> with_reducible rfl)); simp only [List.getElem_toArray, List.getElem_cons_succ, List.getElem_cons_zero, Act.put, List.setIfInBounds_toArray, List.set_cons_zero, List.set_cons_succ]); (refine' wpAnyH_take (i := 5) (v := _) rfl (by kernel_rfl) (by kernel_rfl) (by kernel_rfl) (fun _ _ _ h => h) (Or.inl ⟨by rfl, ?hy181⟩) (by assumption) ?rest181; (case hy181 => (intro w hSw; (try dsimp only at hSw); go_simp <;> with_reducible rfl)); simp only [List.getElem_toArray, List.getElem_cons_succ, List.getElem_cons_zero, Act.put, List.setIfInBounds_toArray, List.set_cons_zero, List.set_cons_succ]); (refine' wpAnyH_take (i := 6) (v := _) rfl (by kernel_rfl) (by kernel_rfl) (by kernel_rfl) (fun _ _ _ h => h) (Or.inl ⟨by rfl, ?hy182⟩) (by assumption) ?rest182; (case hy182 => (intro w hSw; (try dsimp only at hSw); go_simp <;> with_reducible rfl)); simp only [List.getElem_toArray, List.getElem_cons_succ, List.getElem_cons_zero, Act.put, List.setIfInBounds_toArray, List.set_cons_zero, List.set_cons_succ]); (refine' wpAnyH_take (i := 7) (v := _) rfl (by kernel_rfl) (by kernel_rfl) (by kernel_rfl) (fun _ _ _ h => h) (Or.inl ⟨by rfl, ?hy183⟩) (by assumption) ?rest183; (case hy183 => (intro w hSw; (try dsimp only at hSw); go_simp <;> with_reducible rfl)); simp only [List.getElem_toArray, List.getElem_cons_succ, List.getElem_cons_zero, Act.put, List.setIfInBounds_toArray, List.set_cons_zero, List.set_cons_succ]); (refine' wpAnyH_take (i := 8) (v := _) rfl (by kernel_rfl) (by kernel_rfl) (by kernel_rfl) (fun _ _ _ h => h) (Or.inl ⟨by rfl, ?hy184⟩) (by assumption) ?rest184; (case hy184 => (intro w hSw; (try dsimp only at hSw); go_simp <;> with_reducible rfl)); simp only [List.getElem_toArray, List.getElem_cons_succ, List.getElem_cons_zero, Act.put, List.setIfInBounds_toArray, List.set_cons_zero, List.set_cons_succ]); (refine' wpAnyH_take (i := 9) (v := _) rfl (by kernel_rfl) (by kernel_rfl) (by kernel_rfl) (fun _ _ _ h => h) (Or.inl ⟨by rfl, ?hy185⟩) (by assumption) ?rest185; (case hy185 => (intro w hSw; (try dsimp only at hSw); go_simp <;> with_reducible rfl)); simp only [List.getElem_toArray, List.getElem_cons_succ, List.getElem_cons_zero, Act.put, List.setIfInBounds_toArray, List.set_cons_zero, List.set_cons_succ]); (refine' wpAnyH_take (i := 10) (v := _) rfl (by kernel_rfl) (by kernel_rfl) (by kernel_rfl) (fun _ _ _ h => h) (Or.inl ⟨by rfl, ?hy186⟩) (by assumption) ?rest186; (case hy186 => (intro w hSw; (try dsimp only at hSw); go_simp <;> with_reducible rfl)); simp only [List.getElem_toArray, List.getElem_cons_succ, List.getElem_cons_zero, Act.put, List.setIfInBounds_toArray, List.set_cons_zero, List.set_cons_succ]); (refine' wpAnyH_take (i := 11) (v := _) rfl (by kernel_rfl) (by kernel_rfl) (by kernel_rfl) (fun _ _ _ h => h) (Or.inl ⟨by rfl, ?hy187⟩) (by assumption) ?rest187; (case hy187 => (intro w hSw; (try dsimp only at hSw); go_simp <;> with_reducible rfl)); simp only [List.getElem_toArray, List.getElem_cons_succ, List.getElem_cons_zero, Act.put, List.setIfInBounds_toArray, List.set_cons_zero, List.set_cons_succ]); (refine' wpAnyH_take (i := 12) (v := _) rfl (by kernel_rfl) (by kernel_rfl) (by kernel_rfl) (fun _ _ _ h => h) (Or.inl ⟨by rfl, ?hy188⟩) (by assumption) ?rest188; (case hy188 => (intro w hSw; (try dsimp only at hSw); go_simp <;> with_reducible rfl)); simp only [List.getElem_toArray, List.getElem_cons_succ, List.getElem_cons_zero, Act.put, List.setIfInBounds_toArray, List.set_cons_zero, List.set_cons_succ]); (refine' wpAnyH_take (i := 13) (v := _) rfl (by kernel_rfl) (by kernel_rfl) (by kernel_rfl) (fun _ _ _ h => h) (Or.inl ⟨by rfl, ?hy189⟩) (by assumption) ?rest189; (case hy189 => (intro w hSw; (try dsimp only at hSw); go_simp <;> with_reducible rfl)); simp only [List.getElem_toArray, List.getElem_cons_succ, List.getElem_cons_zero, Act.put, List.setIfInBounds_toArray, List.set_cons_zero, List.set_cons_succ]); (refine' wpAnyH_take (i := 14) (v := _) rfl (by kernel_rfl) (by kernel_rfl) (by kernel_rfl) (fun _ _ _ h => h) (Or.inl ⟨by rfl, ?hy190⟩) (by assumption) ?rest190; (case hy190 => (intro w hSw; (try dsimp only at hSw); go_simp <;> with_reducible rfl)); simp only [List.getElem_toArray, List.getElem_cons_succ, List.getElem_cons_zero, Act.put, List.setIfInBounds_toArray, List.set_cons_zero, List.set_cons_succ]); (refine' wpAnyH_take (i := 15) (v := _) rfl (by kernel_rfl) (by kernel_rfl) (by kernel_rfl) (fun _ _ _ h => h) (Or.inl ⟨by rfl, ?hy191⟩) (by assumption) ?rest191; (case hy191 => (intro w hSw; (try dsimp only at hSw); go_simp <;> with_reducible rfl)); simp only [List.getElem_toArray, List.getElem_cons_succ, List.getElem_cons_zero, Act.put, List.setIfInBounds_toArray, List.set_cons_zero, List.set_cons_succ]); (refine' wpAnyH_take (i := 16) (v := _) rfl (by kernel_rfl) (by kernel_rfl) (by kernel_rfl) (fun _ _ _ h => h) (Or.inl ⟨by rfl, ?hy192⟩) (by assumption) ?rest192; (case hy192 => (intro w hSw; (try dsimp only at hSw); go_simp <;> with_reducible rfl)); simp only [List.getElem_toArray, List.getElem_cons_succ, List.getElem_cons_zero, Act.put, List.setIfInBounds_toArray, List.set_cons_zero, List.set_cons_succ]); (refine' wpAnyH_take (i := 17) (v := _) rfl (by kernel_rfl) (by kernel_rfl) (by kernel_rfl) (fun _ _ _ h => h) (Or.inl ⟨by rfl, ?hy193⟩) (by assumption) ?rest193; (case hy193 => (intro w hSw; (try dsimp only at hSw); go_simp <;> with_reducible rfl)); simp only [List.getElem_toArray, List.getElem_cons_succ, List.getElem_cons_zero, Act.put, List.setIfInBounds_toArray, List.set_cons_zero, List.set_cons_succ]); (refine' wpAnyH_take (i := 18) (v := _) rfl (by kernel_rfl) (by kernel_rfl) (by kernel_rfl) (fun _ _ _ h => h) (Or.inl ⟨by rfl, ?hy194⟩) (by assumption) ?rest194; (case hy194 => (intro w hSw; (try dsimp only at hSw); go_simp <;> with_reducible rfl)); simp only [List.getElem_toArray, List.getElem_cons_succ, List.getElem_cons_zero, Act.put, List.setIfInBounds_toArray, List.set_cons_zero, List.set_cons_succ]); (refine' wpAnyH_take (i := 19) (v := _) rfl (by kernel_rfl) (by kernel_rfl) (by kernel_rfl) (fun _ _ _ h => h) (Or.inl ⟨by rfl, ?hy195⟩) (by assumption) ?rest195; (case hy195 => (intro w hSw; (try dsimp only at hSw); go_simp <;> with_reducible rfl)); simp only [List.getElem_toArray, List.getElem_cons_succ, List.getElem_cons_zero, Act.put, List.setIfInBounds_toArray, List.set_cons_zero, List.set_cons_succ]); (refine' wpAnyH_take (i := 20) (v := _) rfl (by kernel_rfl) (by kernel_rfl) (by kernel_rfl) (fun _ _ _ h => h) (Or.inl ⟨by rfl, ?hy196⟩) (by assumption) ?rest196; (case hy196 => (intro w hSw; (try dsimp only at hSw); go_simp <;> with_reducible rfl)); simp only [List.getElem_toArray, List.getElem_cons_succ, List.getElem_cons_zero, Act.put, List.setIfInBounds_toArray, List.set_cons_zero, List.set_cons_succ]))
  refine wpAnyH_done (by kernel_rfl) ?_ _
  go_wp2_with fail
  refine wp_region_held_drew (S := fun w' => w'.cell? ⟨b, 768 + u0, none⟩ = some (.int .u32 (a3 : Nat)) ∧ w'.cell? ⟨b, 512 + u1, none⟩ = some (.int .u32 (a2 : Nat)) ∧ w'.cell? ⟨b, 256 + u2, none⟩ = some (.int .u32 (a1 : Nat)) ∧ w'.cell? ⟨b, u3, none⟩ = some (.int .u32 (a0 : Nat))) (by kernel_rfl) ⟨t3, t2, t1, t0⟩ (fun hHeld2 => ?_)
  ((refine' wpAnyH_take (i := 0) (v := _) rfl (by kernel_rfl) (by kernel_rfl) (by kernel_rfl) (fun _ _ _ h => h) (Or.inl ⟨by rfl, ?hy197⟩) (by assumption) ?rest197; (case hy197 => (intro w hSw; (try dsimp only at hSw); go_simp <;> with_reducible rfl)); simp only [List.getElem_toArray, List.getElem_cons_succ, List.getElem_cons_zero, Act.put, List.setIfInBounds_toArray, List.set_cons_zero, List.set_cons_succ]); (refine' wpAnyH_take (i := 1) (v := _) rfl (by kernel_rfl) (by kernel_rfl) (by kernel_rfl) (fun _ _ _ h => h) (Or.inl ⟨by rfl, ?hy198⟩) (by assumption) ?rest198; (case hy198 => (intro w hSw; (try dsimp only at hSw); go_simp <;> with_reducible rfl)); simp only [List.getElem_toArray, List.getElem_cons_succ, List.getElem_cons_zero, Act.put, List.setIfInBounds_toArray, List.set_cons_zero, List.set_cons_succ]); (refine' wpAnyH_take (i := 2) (v := _) rfl (by kernel_rfl) (by kernel_rfl) (by kernel_rfl) (fun _ _ _ h => h) (Or.inl ⟨by rfl, ?hy199⟩) (by assumption) ?rest199; (case hy199 => (intro w hSw; (try dsimp only at hSw); go_simp <;> with_reducible rfl)); simp only [List.getElem_toArray, List.getElem_cons_succ, List.getElem_cons_zero, Act.put, List.setIfInBounds_toArray, List.set_cons_zero, List.set_cons_succ]); (refine' wpAnyH_take (i := 3) (v := _) rfl (by kernel_rfl) (by kernel_rfl) (by kernel_rfl) (fun _ _ _ h => h) (Or.inl ⟨by rfl, ?hy200⟩) (by assumption) ?rest200; (case hy200 => (intro w hSw; (try dsimp only at hSw); go_simp <;> with_reducible rfl)); simp only [List.getElem_toArray, List.getElem_cons_succ, List.getElem_cons_zero, Act.put, List.setIfInBounds_toArray, List.set_cons_zero, List.set_cons_succ]); (refine' wpAnyH_take (i := 4) (v := _) rfl (by kernel_rfl) (by kernel_rfl) (by kernel_rfl) (fun _ _ _ h => h) (Or.inl ⟨by rfl, ?hy201⟩) (by assumption) ?rest201; (case hy201 => (intro w hSw; (try dsimp only at hSw); go_simp <;> with_reducible rfl)); simp only [List.getElem_toArray, List.getElem_cons_succ, List.getElem_cons_zero, Act.put, List.setIfInBounds_toArray, List.set_cons_zero, List.set_cons_succ]); (refine' wpAnyH_take (i := 5) (v := _) rfl (by kernel_rfl) (by kernel_rfl) (by kernel_rfl) (fun _ _ _ h => h) (Or.inl ⟨by rfl, ?hy202⟩) (by assumption) ?rest202; (case hy202 => (intro w hSw; (try dsimp only at hSw); go_simp <;> with_reducible rfl)); simp only [List.getElem_toArray, List.getElem_cons_succ, List.getElem_cons_zero, Act.put, List.setIfInBounds_toArray, List.set_cons_zero, List.set_cons_succ]); (refine' wpAnyH_take (i := 6) (v := _) rfl (by kernel_rfl) (by kernel_rfl) (by kernel_rfl) (fun _ _ _ h => h) (Or.inl ⟨by rfl, ?hy203⟩) (by assumption) ?rest203; (case hy203 => (intro w hSw; (try dsimp only at hSw); go_simp <;> with_reducible rfl)); simp only [List.getElem_toArray, List.getElem_cons_succ, List.getElem_cons_zero, Act.put, List.setIfInBounds_toArray, List.set_cons_zero, List.set_cons_succ]); (refine' wpAnyH_take (i := 7) (v := _) rfl (by kernel_rfl) (by kernel_rfl) (by kernel_rfl) (fun _ _ _ h => h) (Or.inl ⟨by rfl, ?hy204⟩) (by assumption) ?rest204; (case hy204 => (intro w hSw; (try dsimp only at hSw); go_simp <;> with_reducible rfl)); simp only [List.getElem_toArray, List.getElem_cons_succ, List.getElem_cons_zero, Act.put, List.setIfInBounds_toArray, List.set_cons_zero, List.set_cons_succ]); (refine' wpAnyH_take (i := 8) (v := _) rfl (by kernel_rfl) (by kernel_rfl) (by kernel_rfl) (fun _ _ _ h => h) (Or.inl ⟨by rfl, ?hy205⟩) (by assumption) ?rest205; (case hy205 => (intro w hSw; (try dsimp only at hSw); go_simp <;> with_reducible rfl)); simp only [List.getElem_toArray, List.getElem_cons_succ, List.getElem_cons_zero, Act.put, List.setIfInBounds_toArray, List.set_cons_zero, List.set_cons_succ]); (refine' wpAnyH_take (i := 9) (v := _) rfl (by kernel_rfl) (by kernel_rfl) (by kernel_rfl) (fun _ _ _ h => h) (Or.inl ⟨by rfl, ?hy206⟩) (by assumption) ?rest206; (case hy206 => (intro w hSw; (try dsimp only at hSw); go_simp <;> with_reducible rfl)); simp only [List.getElem_toArray, List.getElem_cons_succ, List.getElem_cons_zero, Act.put, List.setIfInBounds_toArray, List.set_cons_zero, List.set_cons_succ]); (refine' wpAnyH_take (i := 10) (v := _) rfl (by kernel_rfl) (by kernel_rfl) (by kernel_rfl) (fun _ _ _ h => h) (Or.inl ⟨by rfl, ?hy207⟩) (by assumption) ?rest207; (case hy207 => (intro w hSw; (try dsimp only at hSw); go_simp <;> with_reducible rfl)); simp only [List.getElem_toArray, List.getElem_cons_succ, List.getElem_cons_zero, Act.put, List.setIfInBounds_toArray, List.set_cons_zero, List.set_cons_succ]); (refine' wpAnyH_take (i := 11) (v := _) rfl (by kernel_rfl) (by kernel_rfl) (by kernel_rfl) (fun _ _ _ h => h) (Or.inl ⟨by rfl, ?hy208⟩) (by assumption) ?rest208; (case hy208 => (intro w hSw; (try dsimp only at hSw); go_simp <;> with_reducible rfl)); simp only [List.getElem_toArray, List.getElem_cons_succ, List.getElem_cons_zero, Act.put, List.setIfInBounds_toArray, List.set_cons_zero, List.set_cons_succ]); (refine' wpAnyH_take (i := 12) (v := _) rfl (by kernel_rfl) (by kernel_rfl) (by kernel_rfl) (fun _ _ _ h => h) (Or.inl ⟨by rfl, ?hy209⟩) (by assumption) ?rest209; (case hy209 => (intro w hSw; (try dsimp only at hSw); go_simp <;> with_reducible rfl)); simp only [List.getElem_toArray, List.getElem_cons_succ, List.getElem_cons_zero, Act.put, List.setIfInBounds_toArray, List.set_cons_zero, List.set_cons_succ]); (refine' wpAnyH_take (i := 13) (v := _) rfl (by kernel_rfl) (by kernel_rfl) (by kernel_rfl) (fun _ _ _ h => h) (Or.inl ⟨by rfl, ?hy210⟩) (by assumption) ?rest210; (case hy210 => (intro w hSw; (try dsimp only at hSw); go_simp <;> with_reducible rfl)); simp only [List.getElem_toArray, List.getElem_cons_succ, List.getElem_cons_zero, Act.put, List.setIfInBounds_toArray, List.set_cons_zero, List.set_cons_succ]); (refine' wpAnyH_take (i := 14) (v := _) rfl (by kernel_rfl) (by kernel_rfl) (by kernel_rfl) (fun _ _ _ h => h) (Or.inl ⟨by rfl, ?hy211⟩) (by assumption) ?rest211; (case hy211 => (intro w hSw; (try dsimp only at hSw); go_simp <;> with_reducible rfl)); simp only [List.getElem_toArray, List.getElem_cons_succ, List.getElem_cons_zero, Act.put, List.setIfInBounds_toArray, List.set_cons_zero, List.set_cons_succ]); (refine' wpAnyH_take (i := 15) (v := _) rfl (by kernel_rfl) (by kernel_rfl) (by kernel_rfl) (fun _ _ _ h => h) (Or.inl ⟨by rfl, ?hy212⟩) (by assumption) ?rest212; (case hy212 => (intro w hSw; (try dsimp only at hSw); go_simp <;> with_reducible rfl)); simp only [List.getElem_toArray, List.getElem_cons_succ, List.getElem_cons_zero, Act.put, List.setIfInBounds_toArray, List.set_cons_zero, List.set_cons_succ]); (refine' wpAnyH_take (i := 16) (v := _) rfl (by kernel_rfl) (by kernel_rfl) (by kernel_rfl) (fun _ _ _ h => h) (Or.inl ⟨by rfl, ?hy213⟩) (by assumption) ?rest213; (case hy213 => (intro w hSw; (try dsimp only at hSw); go_simp <;> with_reducible rfl)); simp only [List.getElem_toArray, List.getElem_cons_succ, List.getElem_cons_zero, Act.put, List.setIfInBounds_toArray, List.set_cons_zero, List.set_cons_succ]); (refine' wpAnyH_take (i := 17) (v := _) rfl (by kernel_rfl) (by kernel_rfl) (by kernel_rfl) (fun _ _ _ h => h) (Or.inl ⟨by rfl, ?hy214⟩) (by assumption) ?rest214; (case hy214 => (intro w hSw; (try dsimp only at hSw); go_simp <;> with_reducible rfl)); simp only [List.getElem_toArray, List.getElem_cons_succ, List.getElem_cons_zero, Act.put, List.setIfInBounds_toArray, List.set_cons_zero, List.set_cons_succ]); (refine' wpAnyH_take (i := 18) (v := _) rfl (by kernel_rfl) (by kernel_rfl) (by kernel_rfl) (fun _ _ _ h => h) (Or.inl ⟨by rfl, ?hy215⟩) (by assumption) ?rest215; (case hy215 => (intro w hSw; (try dsimp only at hSw); go_simp <;> with_reducible rfl)); simp only [List.getElem_toArray, List.getElem_cons_succ, List.getElem_cons_zero, Act.put, List.setIfInBounds_toArray, List.set_cons_zero, List.set_cons_succ]); (refine' wpAnyH_take (i := 19) (v := _) rfl (by kernel_rfl) (by kernel_rfl) (by kernel_rfl) (fun _ _ _ h => h) (Or.inl ⟨by rfl, ?hy216⟩) (by assumption) ?rest216; (case hy216 => (intro w hSw; (try dsimp only at hSw); go_simp <;> with_reducible rfl)); simp only [List.getElem_toArray, List.getElem_cons_succ, List.getElem_cons_zero, Act.put, List.setIfInBounds_toArray, List.set_cons_zero, List.set_cons_succ]); (refine' wpAnyH_take (i := 20) (v := _) rfl (by kernel_rfl) (by kernel_rfl) (by kernel_rfl) (fun _ _ _ h => h) (Or.inl ⟨by rfl, ?hy217⟩) (by assumption) ?rest217; (case hy217 => (intro w hSw; (try dsimp only at hSw); go_simp <;> with_reducible rfl)); simp only [List.getElem_toArray, List.getElem_cons_succ, List.getElem_cons_zero, Act.put, List.setIfInBounds_toArray, List.set_cons_zero, List.set_cons_succ]); (refine' wpAnyH_take (i := 21) (v := _) rfl (by kernel_rfl) (by kernel_rfl) (by kernel_rfl) (fun _ _ _ h => h) (Or.inl ⟨by rfl, ?hy218⟩) (by assumption) ?rest218; (case hy218 => (intro w hSw; (try dsimp only at hSw); go_simp <;> with_reducible rfl)); simp only [List.getElem_toArray, List.getElem_cons_succ, List.getElem_cons_zero, Act.put, List.setIfInBounds_toArray, List.set_cons_zero, List.set_cons_succ]); (refine' wpAnyH_take (i := 22) (v := _) rfl (by kernel_rfl) (by kernel_rfl) (by kernel_rfl) (fun _ _ _ h => h) (Or.inl ⟨by rfl, ?hy219⟩) (by assumption) ?rest219; (case hy219 => (intro w hSw; (try dsimp only at hSw); go_simp <;> with_reducible rfl)); simp only [List.getElem_toArray, List.getElem_cons_succ, List.getElem_cons_zero, Act.put, List.setIfInBounds_toArray, List.set_cons_zero, List.set_cons_succ]); (refine' wpAnyH_take (i := 23) (v := _) rfl (by kernel_rfl) (by kernel_rfl) (by kernel_rfl) (fun _ _ _ h => h) (Or.inl ⟨by rfl, ?hy220⟩) (by assumption) ?rest220; (case hy220 => (intro w hSw; (try dsimp only at hSw); go_simp <;> with_reducible rfl)); simp only [List.getElem_toArray, List.getElem_cons_succ, List.getElem_cons_zero, Act.put, List.setIfInBounds_toArray, List.set_cons_zero, List.set_cons_succ]); (refine' wpAnyH_take (i := 24) (v := _) rfl (by kernel_rfl) (by kernel_rfl) (by kernel_rfl) (fun _ _ _ h => h) (Or.inl ⟨by rfl, ?hy221⟩) (by assumption) ?rest221; (case hy221 => (intro w hSw; (try dsimp only at hSw); go_simp <;> with_reducible rfl)); simp only [List.getElem_toArray, List.getElem_cons_succ, List.getElem_cons_zero, Act.put, List.setIfInBounds_toArray, List.set_cons_zero, List.set_cons_succ]); (refine' wpAnyH_take (i := 25) (v := _) rfl (by kernel_rfl) (by kernel_rfl) (by kernel_rfl) (fun _ _ _ h => h) (Or.inl ⟨by rfl, ?hy222⟩) (by assumption) ?rest222; (case hy222 => (intro w hSw; (try dsimp only at hSw); go_simp <;> with_reducible rfl)); simp only [List.getElem_toArray, List.getElem_cons_succ, List.getElem_cons_zero, Act.put, List.setIfInBounds_toArray, List.set_cons_zero, List.set_cons_succ]); (refine' wpAnyH_take (i := 26) (v := _) rfl (by kernel_rfl) (by kernel_rfl) (by kernel_rfl) (fun _ _ _ h => h) (Or.inl ⟨by rfl, ?hy223⟩) (by assumption) ?rest223; (case hy223 => (intro w hSw; (try dsimp only at hSw); go_simp <;> with_reducible rfl)); simp only [List.getElem_toArray, List.getElem_cons_succ, List.getElem_cons_zero, Act.put, List.setIfInBounds_toArray, List.set_cons_zero, List.set_cons_succ]); (refine' wpAnyH_take (i := 27) (v := _) rfl (by kernel_rfl) (by kernel_rfl) (by kernel_rfl) (fun _ _ _ h => h) (Or.inl ⟨by rfl, ?hy224⟩) (by assumption) ?rest224; (case hy224 => (intro w hSw; (try dsimp only at hSw); go_simp <;> with_reducible rfl)); simp only [List.getElem_toArray, List.getElem_cons_succ, List.getElem_cons_zero, Act.put, List.setIfInBounds_toArray, List.set_cons_zero, List.set_cons_succ]); (refine' wpAnyH_take (i := 28) (v := _) rfl (by kernel_rfl) (by kernel_rfl) (by kernel_rfl) (fun _ _ _ h => h) (Or.inl ⟨by rfl, ?hy225⟩) (by assumption) ?rest225; (case hy225 => (intro w hSw; (try dsimp only at hSw); go_simp <;> with_reducible rfl)); simp only [List.getElem_toArray, List.getElem_cons_succ, List.getElem_cons_zero, Act.put, List.setIfInBounds_toArray, List.set_cons_zero, List.set_cons_succ]); (refine' wpAnyH_take (i := 29) (v := _) rfl (by kernel_rfl) (by kernel_rfl) (by kernel_rfl) (fun _ _ _ h => h) (Or.inl ⟨by rfl, ?hy226⟩) (by assumption) ?rest226; (case hy226 => (intro w hSw; (try dsimp only at hSw); go_simp <;> with_reducible rfl)); simp only [List.getElem_toArray, List.getElem_cons_succ, List.getElem_cons_zero, Act.put, List.setIfInBounds_toArray, List.set_cons_zero, List.set_cons_succ]); (refine' wpAnyH_take (i := 30) (v := _) rfl (by kernel_rfl) (by kernel_rfl) (by kernel_rfl) (fun _ _ _ h => h) (Or.inl ⟨by rfl, ?hy227⟩) (by assumption) ?rest227; (case hy227 => (intro w hSw; (try dsimp only at hSw); go_simp <;> with_reducible rfl)); simp only [List.getElem_toArray, List.getElem_cons_succ, List.getElem_cons_zero, Act.put, List.setIfInBounds_toArray, List.set_cons_zero, List.set_cons_succ]); (refine' wpAnyH_take (i := 31) (v := _) rfl (by kernel_rfl) (by kernel_rfl) (by kernel_rfl) (fun _ _ _ h => h) (Or.inl ⟨by rfl, ?hy228⟩) (by assumption) ?rest228; (case hy228 => (intro w hSw; (try dsimp only at hSw); go_simp <;> with_reducible rfl)); simp only [List.getElem_toArray, List.getElem_cons_succ, List.getElem_cons_zero, Act.put, List.setIfInBounds_toArray, List.set_cons_zero, List.set_cons_succ]); (refine' wpAnyH_take (i := 32) (v := _) rfl (by kernel_rfl) (by kernel_rfl) (by kernel_rfl) (fun _ _ _ h => h) (Or.inl ⟨by rfl, ?hy229⟩) (by assumption) ?rest229; (case hy229 => (intro w hSw; (try dsimp only at hSw); go_simp <;> with_reducible rfl)); simp only [List.getElem_toArray, List.getElem_cons_succ, List.getElem_cons_zero, Act.put, List.setIfInBounds_toArray, List.set_cons_zero, List.set_cons_succ]); (refine' wpAnyH_take (i := 33) (v := _) rfl (by kernel_rfl) (by kernel_rfl) (by kernel_rfl) (fun _ _ _ h => h) (Or.inl ⟨by rfl, ?hy230⟩) (by assumption) ?rest230; (case hy230 => (intro w hSw; (try dsimp only at hSw); go_simp <;> with_reducible rfl)); simp only [List.getElem_toArray, List.getElem_cons_succ, List.getElem_cons_zero, Act.put, List.setIfInBounds_toArray, List.set_cons_zero, List.set_cons_succ]))
  refine wpAnyH_done (by kernel_rfl) ?_ _
  go_wp2_with fail
  go_ret
  exact ⟨rfl, (Calm.refl w).drewN 2⟩
/-- A sum's four bytes. -/
abbrev wordA (n : Nat) : Array Value := #[.int .u8 ((n : Int) / 16777216), .int .u8 ((n : Int) / 65536 % 256), .int .u8 ((n : Int) / 256 % 256), .int .u8 ((n : Int) % 256)]
set_option maxRecDepth 100000 in
set_option maxHeartbeats 4000000 in
theorem word_any (n : Nat) (w : World) (hn : n < 4294967296) : Calls Tryz.prog 64 #[.int .i64 n] w fun e w' => e = .returned (.agg (wordA n)) ∧ Calm w w' := by
  have Hn := box (heap_new w (.cells (wordA n) 111))
  have Hc := box ((Calm.refl w).alloc (.cells (wordA n) 111))
  go_enter Tryz.func64, Tryz.ntmps64
  go_wp2_with fail
  refine bodyPost_ret (results_cell_row rfl _ _ w.heap.size _ _ _ _ rfl Hn.out Tryz.underlying111 rfl (by kernel_rfl)) rfl ?_
  exact ⟨rfl, Hc.out⟩
end Go.Proofs.YtafdfmdcnniccaaGreat.cr

/- Layer 2: texts' sum; sealed texts. -/
namespace Go.Proofs.YtafdfmdcnniccaaGreat.cr
open Go.ChangeShapes Go.WideShapes Go.ChangeAt Go.RowKit
open Go.Proofs.YtafdfmdcnniccaaGreat.oc Go.Proofs.YtafdfmdcnniccaaGreat.rc

/-- A text value's size. -/
def strLen : Value → Nat
  | .string s => s.size
  | _ => 0
/-- On by a text's bytes. -/
def foldS (x : Nat) (s : ByteArray) : Nat := s.data.toList.foldl crcB x
theorem foldS_lt {x : Nat} (h : x < 4294967296) (s : ByteArray) : foldS x s < 4294967296 := fold_lt _ h
theorem four_cut (s : ByteArray) (h : 4 ≤ s.size) : s.data.toList = s[0] :: s[1] :: s[2] :: s[3] :: (s.extract 4 s.size).data.toList := by
  have e : (s.extract 4 s.size).data.toList = s.data.toList.drop 4 := by
    simp only [ByteArray.data_extract, Array.toList_extract, List.extract_eq_take_drop]
    exact List.take_of_length_le (by rw [List.length_drop, size_toList]; exact Nat.le_refl _)
  rw [e]
  apply List.ext_getElem?
  intro i
  have g : ∀ k (hk : k < s.size), s.data.toList[k]? = some s[k] := fun k hk => by
    rw [List.getElem?_eq_getElem (by rw [size_toList]; exact hk)]; rfl
  match i with
  | 0 => rw [g 0 (by omega)]; rfl
  | 1 => rw [g 1 (by omega)]; rfl
  | 2 => rw [g 2 (by omega)]; rfl
  | 3 => rw [g 3 (by omega)]; rfl
  | i + 4 => simp [List.getElem?_drop, Nat.add_comm]
theorem foldS_four (x : Nat) (s : ByteArray) (h : 4 ≤ s.size) : foldS x s = foldS (crcB (crcB (crcB (crcB x s[0]) s[1]) s[2]) s[3]) (s.extract 4 s.size) := by
  unfold foldS
  rw [four_cut s h]; rfl
theorem drop_one (s : ByteArray) (k : Nat) (h : k < s.size) : s.data.toList.drop k = s[k] :: s.data.toList.drop (k + 1) := by
  rw [List.drop_eq_getElem_cons (by rw [size_toList]; exact h)]; rfl
/-- Texts' sum. -/
def crcL (l : List ByteArray) : Nat := 4294967295 ^^^ l.foldl foldS 4294967295
theorem crcL_one (s : ByteArray) : crcL [s] = crcN s.data.toList := rfl
theorem crcL_lt (l : List ByteArray) : crcL l < 4294967296 := by
  have : ∀ (l : List ByteArray) {x : Nat}, x < 4294967296 → l.foldl foldS x < 4294967296 := by
    intro l
    induction l with
    | nil => exact fun h => h
    | cons s l ih => exact fun h => ih (foldS_lt h s)
  exact Nat.xor_lt_two_pow (n := 32) (by decide) (this l (by decide))
set_option maxRecDepth 100000 in
set_option maxHeartbeats 8000000 in
theorem Sum_any (b : Nat) (v : Value) (l : List ByteArray) (w : World) (h : TabAt w b 1024) (hv : StrsAt w v l) (hl : l.length ≤ 1000000) (hs : ∀ s ∈ l, s.size ≤ 140737488355328) :
    Calls Tryz.prog 65 #[.pointer (some ⟨b, 0, none⟩), v] w fun e w' => e = .returned (.int .i64 (crcL l)) ∧ Calm w w' := by
  obtain ⟨a, cap, rfl, hcells⟩ := hv.uni
  have H := box hcells
  have Hs := box hs
  have HT := box (fun W (hW : Calm w W) => (show TabAt W b 1024 from heap_calm hW h))
  obtain ⟨fin, hfin⟩ : ∃ y, l.foldl foldS 4294967295 = y := ⟨_, rfl⟩
  have hr := box (show crcL l = 4294967295 ^^^ fin by unfold crcL; rw [hfin])
  have Hfin := box hfin
  rw [hr.out]
  obtain ⟨z, hz⟩ : ∃ z, 4294967295 ^^^ fin = z := ⟨_, rfl⟩
  rw [hz]
  have Hz := box hz
  clear hz
  clear h hv hcells hs hfin hr
  go_enter Tryz.func65, Tryz.ntmps65
  go_wp2_with fail
  go_loopw [5, 13] (fun x i wr => ∃ k y : Nat, k ≤ l.length ∧ y < 4294967296 ∧ x = .int .u32 y ∧ i = .int .i64 k ∧ (l.drop k).foldl foldS y = fin ∧ Calm w wr) (fun _ i _ => l.length - (intOf i).toNat)
  case atStart => exact ⟨0, 4294967295, Nat.zero_le _, by decide, rfl, rfl, Hfin.out, Calm.refl w⟩
  case round =>
    clear Hfin
    obtain ⟨k, y, hk, hy, rfl, rfl, hf, hC⟩ := hrel
    have HF := box hf
    have HC := box hC
    clear hf hC
    by_cases hlt : k < l.length
    · obtain ⟨b2, off, rfl, hb, hcell0⟩ := H.out k hlt
      have hcell := (HC.out.cell (p := ⟨b2, off + k, none⟩) hb).trans hcell0
      have hblt := Nat.lt_of_lt_of_le hb HC.out.size
      rw [List.getD_eq_getElem?_getD, List.getElem?_eq_getElem hlt] at hcell
      simp only [Option.getD_some] at hcell
      have hsz := Hs.out l[k] (List.getElem_mem hlt)
      have HF := box (show (l.drop (k + 1)).foldl foldS (foldS y l[k]) = fin by rw [← HF.out, List.drop_eq_getElem_cons hlt]; rfl)
      obtain ⟨s, hss⟩ : ∃ s, l[k] = s := ⟨_, rfl⟩
      rw [hss] at hcell hsz HF
      clear hss hcell0
      obtain ⟨f2, hf2⟩ : ∃ f, foldS y s = f := ⟨_, rfl⟩
      rw [hf2] at HF
      have Hf2 := box hf2
      have Hy := box hy
      clear hf2 hy
      obtain ⟨wo, hwo⟩ : ∃ wo : World, wo = wr := ⟨_, rfl⟩
      subst hwo
      go_wp2_with fail
      go_loopw [5, 7] (fun x t wr => ∃ (y : Nat) (u : ByteArray), y < 4294967296 ∧ x = .int .u32 y ∧ t = .string u ∧ foldS y u = f2 ∧ u.size ≤ 140737488355328 ∧ Calm w wr) (fun _ t _ => strLen t)
      case atStart => exact ⟨y, s, Hy.out, rfl, rfl, Hf2.out, hsz, HC.out⟩
      case round =>
        clear Hy Hf2 HC
        obtain ⟨y, u, hy, rfl, rfl, hf2, husz, hC⟩ := hrel
        have Hf2 := box hf2
        have HC := box hC
        clear hf2 hC
        by_cases h4 : 4 ≤ u.size
        · have hfour := box (fun W hW => four_any b y u W (HT.out W hW) hy h4)
          have hz4 : (u.extract 4 u.size).size = u.size - 4 := by simp
          have Hf2 := box ((foldS_four y u h4).symm.trans Hf2.out)
          have hlt' := crcB_lt (crcB_lt (crcB_lt (crcB_lt hy u[0]) u[1]) u[2]) u[3]
          obtain ⟨y', hy'⟩ : ∃ y', crcB (crcB (crcB (crcB y u[0]) u[1]) u[2]) u[3] = y' := ⟨_, rfl⟩
          rw [hy'] at hfour hlt' Hf2
          have Hlt' := box hlt'
          clear hy' hlt'
          go_wp2_with fail
          refine (hfour.out _ HC.out).mono ?_
          rintro e w2 ⟨rfl, hc2⟩
          have HC2 := box (HC.out.trans hc2)
          clear hc2
          go_wp2_with fail
          go_roundw
          case rel => exact ⟨y', u.extract 4 u.size, Hlt'.out, rfl, rfl, Hf2.out, by omega, HC2.out⟩
          case measure => simp [strLen]; omega
        · have Hy := box hy
          clear hy
          obtain ⟨wo, hwo⟩ : ∃ wo : World, wo = wr := ⟨_, rfl⟩
          subst hwo
          go_wp2_with fail
          go_loopw [5, 30] (fun x i wr => ∃ (y j : Nat), y < 4294967296 ∧ j ≤ u.size ∧ x = .int .u32 y ∧ i = .int .i64 j ∧ (u.data.toList.drop j).foldl crcB y = f2 ∧ Calm w wr) (fun _ i _ => u.size - (intOf i).toNat)
          case atStart => exact ⟨y, 0, Hy.out, Nat.zero_le _, rfl, rfl, Hf2.out, HC.out⟩
          case round =>
            clear Hy Hf2 HC
            obtain ⟨y, j, hy, hj, rfl, rfl, hf2, hC⟩ := hrel
            have HC := box hC
            clear hC
            by_cases hjlt : j < u.size
            · have hone := box (fun W hW => one_any b y u[j] W (HT.out W hW) hy)
              have Hf2 := box (show (u.data.toList.drop (j + 1)).foldl crcB (crcB y u[j]) = f2 by rw [← hf2, drop_one u j hjlt]; rfl)
              have hlt' := crcB_lt hy u[j]
              obtain ⟨y', hy'⟩ : ∃ y', crcB y u[j] = y' := ⟨_, rfl⟩
              rw [hy'] at hone hlt' Hf2
              have Hlt' := box hlt'
              clear hy' hlt' hf2
              have hjI : (j : Int) < u.size := by omega
              go_wp2_with fail
              go_region_held3 (fun _ => True) (trivial) ((go_at_call 91; refine (hone.out _ (by have := HC.out; (repeat' (first | (with_reducible exact Calm.refl _) | (with_reducible assumption) | (with_reducible refine Calm.drew ?_) | (with_reducible refine Calm.alloc ?_ _) | (with_reducible refine Calm.trans ?_ (by assumption)))))).mono ?_; rintro e w' ⟨rfl, rfl⟩))
              go_wp2_with fail
              go_roundw
              case rel => exact ⟨y', j + 1, Hlt'.out, by omega, rfl, by go_num, Hf2.out, by have := HC.out; (repeat' (first | (with_reducible exact Calm.refl _) | (with_reducible assumption) | (with_reducible refine Calm.drew ?_) | (with_reducible refine Calm.alloc ?_ _) | (with_reducible refine Calm.trans ?_ (by assumption))))⟩
              case measure => simp [intOf]; omega
            · obtain rfl : j = u.size := by omega
              have hfe : y = f2 := by rw [← hf2, List.drop_of_length_le (by rw [size_toList]; exact Nat.le_refl _)]; rfl
              subst hfe
              have Hy := box hy
              clear hf2 hy
              go_wp2_with fail
              go_roundw
              case rel => exact ⟨k + 1, y, by omega, Hy.out, rfl, by go_num, HF.out, HC.out⟩
              case measure => simp [intOf]; omega
    · obtain rfl : k = l.length := by omega
      have hfe : y = fin := by rw [← HF.out, List.drop_of_length_le (Nat.le_refl _)]; rfl
      subst hfe
      have hz := Hz.out
      have hx : bits .xor .u32 IntKind.u32.max (y : Int) = ((4294967295 ^^^ y : Nat) : Int) := xor32 4294967295 y (by decide) hy
      have hlt' : 4294967295 ^^^ y < 4294967296 := Nat.xor_lt_two_pow (n := 32) (by decide) hy
      rw [hz] at hx hlt'
      clear hz HF hy
      go_wp2_with fail
      have hw : wrap64 (z : Int) = z := by unfold wrap64; omega
      rw [hw]
      go_ret
      exact ⟨rfl, HC.out⟩
end Go.Proofs.YtafdfmdcnniccaaGreat.cr

/- Layer 2: sealed texts. -/
namespace Go.Proofs.YtafdfmdcnniccaaGreat.cr
open Go.ChangeShapes Go.WideShapes Go.ChangeAt Go.RowKit
open Go.Proofs.YtafdfmdcnniccaaGreat.oc Go.Proofs.YtafdfmdcnniccaaGreat.rc

theorem low4 (n : Nat) : low 4 n = [UInt8.ofNat (n / 16777216), UInt8.ofNat (n / 65536), UInt8.ofNat (n / 256), UInt8.ofNat n] := by
  simp [low]
theorem word_buf {w : World} {g : Nat} {n : Nat} (hn : n < 4294967296) (h : w.heap[g]? = some (.cells (wordA n) 111 (0, 0))) : BufIs w g 4 (low 4 n) := by
  refine ⟨fun j hj => ?_, fun j hj => ?_, fun j hj => free_of h j, by rw [low_length]; exact Nat.le_refl _, heap_lt h⟩
  · rw [low_length] at hj
    rw [cell_of h j, low4]
    match j, hj with
    | 0, _ => show some _ = some (Value.int .u8 ((UInt8.ofNat (n / 16777216)).toNat : Int)); rw [u8_ofNat]; exact congrArg some (val_int (by omega))
    | 1, _ => show some _ = some (Value.int .u8 ((UInt8.ofNat (n / 65536)).toNat : Int)); rw [u8_ofNat]; exact congrArg some (val_int (by omega))
    | 2, _ => show some _ = some (Value.int .u8 ((UInt8.ofNat (n / 256)).toNat : Int)); rw [u8_ofNat]; exact congrArg some (val_int (by omega))
    | 3, _ => show some _ = some (Value.int .u8 ((UInt8.ofNat n).toNat : Int)); rw [u8_ofNat]; exact congrArg some (val_int (by omega))
  · rw [cell_of h j]
    match j, hj with
    | 0, _ => rfl
    | 1, _ => rfl
    | 2, _ => rfl
    | 3, _ => rfl
set_option maxRecDepth 100000 in
set_option maxHeartbeats 4000000 in
theorem Seal_any (b : Nat) (s : ByteArray) (w : World) (h : TabAt w b 1024) (hs : s.size ≤ 1000000) :
    Calls Tryz.prog 55 #[.pointer (some ⟨b, 0, none⟩), .string s] w fun e w' => e = .returned (.string ⟨(sealL s.data.toList).toArray⟩) ∧ Calm w w' := by
  have hc0 := (Calm.refl w).alloc (.cells #[.string s] 9)
  have hsum := box (Sum_any b (.slice (some ⟨w.heap.size, 0, none⟩) 1 1) [s] (w.alloc (.cells #[.string s] 9)) (heap_calm hc0 h) (StrsAt.one (by rw [cell_of (heap_new w _)]; rfl)) (by simp) (fun t ht => by rw [List.mem_singleton] at ht; subst ht; omega))
  rw [crcL_one] at hsum
  have hlt := crcN_lt s.data.toList
  have hcat := box (show (⟨(low 4 (crcN s.data.toList)).toArray⟩ : ByteArray) ++ s = ⟨(sealL s.data.toList).toArray⟩ from ba_ext (by rw [append_toList]; rfl))
  have C0 := box hc0
  obtain ⟨n, hn⟩ : ∃ n, crcN s.data.toList = n := ⟨_, rfl⟩
  rw [hn] at hsum hlt hcat
  have hword := box (fun W => word_any n W hlt)
  have Hlt := box hlt
  have hsz : (⟨(low 4 n).toArray⟩ : ByteArray).size = 4 := low_size 4 n
  rw [← hcat.out]
  obtain ⟨u, hu⟩ : ∃ u : ByteArray, ⟨(low 4 n).toArray⟩ = u := ⟨_, rfl⟩
  have Hu := box hu
  rw [hu] at hsz ⊢
  clear hn h hcat hlt hc0 hu
  go_enter Tryz.func55, Tryz.ntmps55
  go_wp2_with fail
  refine hsum.out.mono ?_
  rintro e w1 ⟨rfl, hc1⟩
  have C1 := box (C0.out.trans hc1)
  clear hc1
  go_wp2_with fail
  refine (hword.out _).mono ?_
  rintro e w2 ⟨rfl, hc2⟩
  have C2 := box (C1.out.trans hc2)
  clear hc2
  have Hn := box (heap_new w2 (.cells (wordA n) 111))
  have hconv := conv_string (P := Tryz.prog) (w2.alloc (.cells (wordA n) 111)) 102 9 5 Tryz.underlying102 Tryz.underlying5 Tryz.underlying9 (word_buf Hlt.out Hn.out) 4
  rw [low_length, Hu.out] at hconv
  go_wp2_with fail
  go_ret
  exact ⟨rfl, C2.out.alloc _⟩
end Go.Proofs.YtafdfmdcnniccaaGreat.cr
