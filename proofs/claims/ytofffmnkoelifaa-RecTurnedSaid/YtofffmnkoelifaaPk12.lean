/- Plain: records that may be fit into their bytes. -/
import Derived.Test.YtofffmnkoelifaaRows
import Derived.WalkKit
import Derived.ProofKit
import Derived.OpenShut
import Derived.Handy
import Derived.Deep.LoopGhost
import Derived.Lib.Hide
import Derived.Lib.Strings
import Derived.SizedLaws
import Derived.Deep.Slices
import Derived.Shelf.SlIter.Nil
import Derived.Ground.GgzProg
import Derived.Shelf.SortM.Plain
import Derived.Shelf.SortM.SortNone
import Derived.Ground.SlgmProg
import Derived.Test.YtofffmnkoelifaaProg
import Derived.Shelf.Strings.Builder1
import Derived.Shelf.Strings.Builder2
import Derived.Shelf.Small.Bits
import Derived.Shelf.Small.Wraps
import Derived.Shelf.Strings.BuilderF
import Derived.Shelf.Strings.BuilderK
import Derived.Shelf.Strings.Builder2Cap
import Derived.Shelf.Strconv.Itoa0
import Derived.Shelf.Sort.Plain
import Derived.Shelf.GgClosure.StringsIndexFunc
import Derived.Ground.GgwProg
import Derived.Shelf.GgClosure.StringsIndexFuncTop
import Derived.Shelf.GgClosure.StringsRunes
import Derived.Shelf.Strings.Prefix
import Derived.Shelf.Bits.Mul64
import Derived.Shelf.Strings.Repeat
import Derived.Shelf.Strings.BuilderCap
import Derived.Shelf.Slices.Equal
import Derived.Ground.Names2Prog
import Derived.Shelf.Slices.Clone
import Derived.Shelf.Slices.CompactS
import Derived.Shelf.Slices.SearchI
import Derived.Shelf.Slices.Cells
import Derived.Shelf.Slices.In.SortNone
import Derived.Shelf.Slices.Empties2
import Derived.Ground.SlgnProg
import Derived.Shelf.SlicesE.Equal
import Derived.Shelf.SlicesE.Compact
import Derived.Ground.SlgfProg
import Derived.Shelf.SlicesE.IndexFunc
import Derived.Shelf.SlicesE.DeleteFunc
import Derived.RangeFuncBox
import Derived.RangeFuncLeaves
import Derived.Shelf.Abstract
import Derived.OwnWalkIn
import Derived.TacticsInMore
import Derived.LoopNIn
import Derived.LoopIn
import Derived.Maps.AppendAt
import Derived.Lib.SlicesCompact
import Derived.Deep.QuietTactic
import Derived.BigQuiet
import Derived.Laws.ResultCell
import Derived.Laws.Rows
import Derived.Lib.ConvBytes
import Derived.Lib.AppendZeros
import Derived.Lib.AppendZerosOnto
import Derived.Lib.LazyBuf
import Derived.Laws.MakeOwn
import Derived.Lib.Builder
import Derived.Lib.AppendStr
import Derived.Test.YtofffmnkoelifaaPk11
namespace Go.Proofs.Ytofffmnkoelifaa.rc
open Go.RowKit
open Go.Proofs.Ytofffmnkoelifaa.nm Go.Proofs.Ytofffmnkoelifaa.vs

theorem plain_size {s : ByteArray} (h : plainB s = true) : s.size ≤ 16 := by
  unfold plainB plainL at h
  simp only [Bool.and_eq_true, decide_eq_true_eq, size_toList] at h
  exact h.1.2
theorem hit_size {s hd : ByteArray} (h : hitS s hd = true) : s.size ≤ hd.size + 8 := by
  unfold hitS groupB groupL at h
  simp only [Bool.and_eq_true, decide_eq_true_eq, size_toList] at h
  obtain ⟨h1, _, h3⟩ := h
  unfold cutS Lib.trimPrefix at h3
  unfold hasS at h1
  rw [if_pos h1] at h3
  have : ((⟨(s.data.toList.drop hd.data.toList.length).toArray⟩ : ByteArray)).size = s.size - hd.size := by show (_ : List UInt8).toArray.size = _; simp
  rw [this] at h3
  omega
theorem topic_size {s : ByteArray} (h : topicB s = true) : s.size ≤ 16 := by
  unfold topicB ofOk at h
  simp only [Bool.or_eq_true] at h
  rcases h with (h | h) | h
  · have := hit_size h; have e : retryC.size = 7 := rfl; omega
  · have := hit_size h; have e : deadC.size = 6 := rfl; omega
  · exact plain_size h
theorem tag_size {s : ByteArray} (h : tagB s = true) : s.size ≤ 16 := by
  unfold tagB at h
  simp only [Bool.or_eq_true, decide_eq_true_eq] at h
  rcases h with h | h
  · omega
  · exact plain_size h
theorem key_size {s : ByteArray} (h : nm.keyB s = true) : s.size ≤ 16 := by
  unfold nm.keyB keyL at h
  simp only [Bool.and_eq_true, decide_eq_true_eq, size_toList] at h
  exact h.1.2
theorem right_fits : ∀ m, RightP m → m.kind ≠ 0 → Fits m := fun m h hk => by
  obtain ⟨hn, h⟩ := h
  unfold numsB at hn
  simp only [Bool.and_eq_true, numB_iff] at hn
  have car : ∀ (_ : m.kind = 1 ∨ m.kind = 2 ∨ m.kind = 3), Carries m → Fits m := fun hk3 hc => by
    obtain ⟨a1, a2, a3, a4, a5, a6, a7, a8, a9, a10⟩ := hc
    exact ⟨by omega, by omega, by omega, by omega, by omega, by omega, topic_size a1, tag_size a6, a10, a7, fun s hs => key_size (List.all_eq_true.1 a8 s hs)⟩
  rcases h with ⟨h1, hc, _⟩ | ⟨h1, hc⟩ | ⟨⟨h1, h2, h3, h4, h5, h6⟩, ⟨h7, h8⟩ | ⟨h7, _⟩⟩
  · exact car (.inl h1) hc
  · exact car (.inr h1) hc
  · exact ⟨by omega, by omega, by omega, by omega, by omega, by omega, by omega, by omega, by omega, by omega, fun s hs => by rw [List.eq_nil_of_length_eq_zero h6] at hs; cases hs⟩
  · exact absurd h7 hk
theorem right_zero : ∀ m, RightP m → m.kind = 0 → m = fillM m.body.size := fun m h hk => by
  obtain ⟨_, h⟩ := h
  have hz : ∀ b : ByteArray, b.size = 0 → b = ⟨#[]⟩ := fun b h => ba_ext (List.eq_nil_of_length_eq_zero (by rw [size_toList]; exact h))
  rcases h with ⟨h1, _⟩ | ⟨h1, _⟩ | ⟨⟨h1, h2, h3, h4, h5, h6⟩, ⟨h7, _⟩ | ⟨_, h7, h8, h9, h10⟩⟩
  · omega
  · omega
  · omega
  · obtain ⟨kd, q, du, rt, rf, bn, tp, tg, bd, ks⟩ := m
    simp only at *
    rw [hk, h1, h3, h2, h7, h8, hz tp h4, hz tg h5, List.eq_nil_of_length_eq_zero h6]
    have := (zeros_iff bd).2 h10
    show (⟨0, 0, 0, 0, 0, 0, ⟨#[]⟩, ⟨#[]⟩, bd, []⟩ : MsgS) = ⟨0, 0, 0, 0, 0, 0, ⟨#[]⟩, ⟨#[]⟩, zerosB bd.size, []⟩
    rw [← this]
theorem right_fill : ∀ n, n ≤ 1024 → RightP (fillM n) := fun n h =>
  ⟨by simp [numsB, numB], .inr (.inr ⟨⟨rfl, rfl, rfl, rfl, rfl, rfl⟩, .inr ⟨rfl, rfl, rfl, by rw [zerosB_size]; exact h, (zeros_iff (zerosB n)).1 (by rw [zerosB_size])⟩⟩)⟩
end Go.Proofs.Ytofffmnkoelifaa.rc
