/- Walks of package alloc: taking and giving; a new allocator. -/
import Derived.Test.YtfpdikhdfcppeaaDoorA8
namespace Go.Proofs.YtfpdikhdfcppeaaDoor
open Go.RowKit Go.Proofs

theorem Rd.one (w : World) (t : TypeId) (x : Int) : Rd .i64 (w.alloc (.cells #[.int .i64 x] t)) (.slice (some ⟨w.heap.size, 0, none⟩) 1 1) w.heap.size [x] := by
  refine .inr ⟨0, 1, rfl, by simp, by unfold maxLen; omega, fun i hi => ?_⟩
  have : i = 0 := by simpa using hi
  subst this
  rw [World.cell?_alloc_new]
  rfl

theorem AllocIn.works {w w' : World} {a n m : Nat} {r : Int} {P Q M : Nat → Nat} (h : AllocIn w a n r P Q M) (hk : Keeps [Q 3] w w') (hS : SetAt w' (P 3) (Q 3) n m) : AllocIn w' a n r P Q (upd M 3 m) := by
  refine ⟨hk.blk h.blk (by simpa using (h.own 3 (by omega)).2), fun i hi => ?_, h.own, h.dis, h.pos⟩
  by_cases e : i = 3
  · subst e; simpa [upd] using hS
  · simp only [upd, if_neg e]
    have := h.dis i 3 hi (by omega) e
    exact (h.sets i hi).keeps hk (by simpa using this.2.1) (by simpa using this.2.2)

/-- What is given back: the error, the sets. -/
def mGive (n : Nat) (M : Nat → Nat) (at_ : Int) : Int × (Nat → Nat) := if hasBit n (M 3) at_ = true then (0, upd M 3 (dropOne n (M 3) at_)) else (2, M)

set_option maxHeartbeats 400000 in
theorem give_calls (a n : Nat) (r : Int) (M : Nat → Nat) (F : List Nat) (at_ : Int) (w : World) (h : AllocAt w a n r M F) :
    Calls Tryd.prog 55 #[.pointer (some ⟨a, 0, none⟩), .int .i64 at_] w fun e w' => e = .returned (.int .i64 (mGive n M at_).1) ∧ AllocAt w' a n r (mGive n M at_).2 F ∧ Grows w w' F F := by
  have h0 := h
  obtain ⟨P, Q, rfl, h⟩ := h
  have c3 := h.ptr (i := 3) (by omega)
  have hs3 := has_calls (P 3) (Q 3) n (M 3) at_ w (h.sets 3 (by omega))
  have HI := Lib.hid h
  have H0 := Lib.hid h0
  cases hb : hasBit n (M 3) at_ with
  | true =>
    rw [hb] at hs3
    have hg : mGive n M at_ = (0, upd M 3 (dropOne n (M 3) at_)) := by unfold mGive; rw [if_pos hb]
    rw [hg]
    have H3 := Lib.hid hs3
    clear hb hs3 h h0 hg
    have hR : Rd .i64 (w.alloc (.cells #[.int .i64 at_] 3)) (.slice (some ⟨w.heap.size, 0, none⟩) 1 1) w.heap.size [at_] := Rd.one _ _ _
    have hq := (HI.out.sets 3 (by omega)).lt.2
    have hk : Hid (Keeps [] w (w.alloc (.cells #[.int .i64 at_] 3))) := (Keeps.refl _ _).alloc _
    have hS : Hid (SetAt (w.alloc (.cells #[.int .i64 at_] 3)) (P 3) (Q 3) n (M 3)) := (HI.out.sets 3 (by omega)).keeps hk.out (by simp) (by simp)
    have HR := Lib.hid hR
    clear hR
    go_enter Tryd.func55, Tryd.ntmps55
    go_wp2_with fail
    refine H3.out.mono ?_
    rintro e w1 ⟨rfl, rfl⟩
    go_wp2_with (go_at_call 80; refine (drop_calls (P 3) (Q 3) n (M 3) w.heap.size _ [at_] _ hS.out HR.out (by omega)).mono ?_; rintro e w1 ⟨rfl, hA, hK⟩)
    go_ret
    have hK2 : Keeps [Q 3] w w1 := (hk.out.mono (S' := [Q 3]) (by simp)).trans hK (by simp)
    exact ⟨rfl, ⟨P, Q, rfl, HI.out.works hK2 (by simpa [dropAll] using hA)⟩, ⟨fun _ h => .inl h, hK2.mono (by intro k hk _; simp at hk; subst hk; exact mem_foot.2 (.inr ⟨3, by omega, .inr rfl⟩))⟩⟩
  | false =>
    rw [hb] at hs3
    have hg : mGive n M at_ = (2, M) := by unfold mGive; rw [if_neg (by simp [hb])]
    rw [hg]
    have H3 := Lib.hid hs3
    clear hb hs3 h h0 hg
    go_enter Tryd.func55, Tryd.ntmps55
    go_wp2_with fail
    refine H3.out.mono ?_
    rintro e w1 ⟨rfl, rfl⟩
    go_wp2_with fail
    go_ret
    exact ⟨rfl, H0.out, Grows.refl _ _⟩

/-- All that isn't free. -/
def orTo (M : Nat → Nat) : Nat → Nat
  | 0 => M 3
  | k + 1 => orTo M k ||| M k

set_option maxHeartbeats 1000000 in
theorem held_calls (a n : Nat) (r : Int) (M : Nat → Nat) (F : List Nat) (w : World) (h : AllocAt w a n r M F) (hT : Tab w) :
    Calls Tryd.prog 92 #[.pointer (some ⟨a, 0, none⟩)] w fun e w' => Any fun p' => Any fun q' => e = .returned (.pointer (some ⟨p', 0, none⟩)) ∧ SetAt w' p' q' n (orTo M 3) ∧ Keeps [] w w' ∧ w.heap.size ≤ p' ∧ w.heap.size ≤ q' := by
  obtain ⟨P, Q, rfl, h⟩ := h
  have c3 := h.ptr (i := 3) (by omega)
  have hs := h.sets 3 (by omega)
  have HI := Lib.hid h
  clear h
  go_enter Tryd.func92, Tryd.ntmps92
  go_wp2_with (go_at_call 47; refine (copied_calls (P 3) (Q 3) n (M 3) w hs hT).mono ?_; rintro e w1 ⟨p1, q1, rfl, hC, hK, hp, hq⟩)
  have HT := Lib.hid hT
  have HC := Lib.hid hC
  clear hT hs c3 hC
  go_loopw [3, 17] (fun u t wr => ∃ (k p' q' : Nat), k ≤ 3 ∧ t = .int .i64 k ∧ u = .pointer (some ⟨p', 0, none⟩) ∧ SetAt wr p' q' n (orTo M k) ∧ Keeps [] w wr ∧ w.heap.size ≤ p' ∧ w.heap.size ≤ q') (fun _ t _ => 3 - (intOf t).toNat)
  case atStart => exact ⟨0, p1, q1, by omega, rfl, rfl, HC.out, hK, hp, hq⟩
  case round =>
    obtain ⟨k, p', q', hk, rfl, rfl, hS, hKr, hp', hq'⟩ := hrel
    by_cases hlt : k < 3
    · have hI := HI.out.keeps hKr (by simp)
      have ck := hI.ptr (i := k) (by omega)
      have hw := with_calls p' q' n (orTo M k) (P k) (Q k) (M k) wr hS (hI.sets k (by omega)) (HT.out.keeps hKr (by simp))
      have HW := Lib.hid hw
      clear hw hI
      go_wp2_with (go_at_call 76; refine HW.out.mono ?_; rintro e w2 ⟨p2, q2, rfl, hC2, hK2, hp2, hq2⟩)
      go_roundw
      case rel => exact ⟨k + 1, p2, q2, by omega, by go_num, rfl, hC2, hKr.trans hK2 (by simp), by have := hKr.size; omega, by have := hKr.size; omega⟩
      case measure => simp [intOf]; omega
    · obtain rfl : k = 3 := by omega
      go_wp2
      go_ret
      exact Any.mk p' (Any.mk q' ⟨rfl, hS, hKr, hp', hq'⟩)

/-- The least free one, if more than r are free: the place, the error, the sets. -/
def mTake (n : Nat) (M : Nat → Nat) (r : Int) : Int × Int × (Nat → Nat) :=
  if (n : Int) - ((bitsUp n (orTo M 3)).length : Nat) ≤ r then (0, 10, M) else (gapFrom n (orTo M 3) 0, 0, upd M 3 (addOne n (M 3) (gapFrom n (orTo M 3) 0)))

set_option maxHeartbeats 1000000 in
theorem take_calls (a n : Nat) (r r2 : Int) (M : Nat → Nat) (F : List Nat) (w : World) (h : AllocAt w a n r M F) (hT : Tab w) :
    Calls Tryd.prog 78 #[.pointer (some ⟨a, 0, none⟩), .int .i64 r2] w fun e w' => e = .returned (.tuple #[.int .i64 (mTake n M r2).1, .int .i64 (mTake n M r2).2.1]) ∧ AllocAt w' a n r (mTake n M r2).2.2 F ∧ Grows w w' F F := by
  have h0 := h
  obtain ⟨P, Q, rfl, h⟩ := h
  have hn : n ≤ 3072 := by obtain ⟨_, _, _, _, _, _, _, hn, _⟩ := h.sets 3 (by omega); exact hn
  have hle : (bitsUp n (orTo M 3)).length ≤ n := by unfold bitsUp; exact Nat.le_trans (List.length_filter_le _ _) (by simp)
  obtain ⟨s, hs⟩ : ∃ s, (bitsUp n (orTo M 3)).length = s := ⟨_, rfl⟩
  have HI := Lib.hid h
  have H0 := Lib.hid h0
  by_cases hc : (n : Int) - s ≤ r2
  · have hg : mTake n M r2 = (0, 10, M) := by unfold mTake; rw [hs, if_pos hc]
    rw [hg]
    rw [hs] at hle
    have HSS := Lib.hid hs
    clear hg h h0 hs
    go_enter Tryd.func78, Tryd.ntmps78
    go_wp2_with (first | (go_at_call 92; refine (held_calls a n r M _ w H0.out hT).mono ?_; rintro e w1 ⟨p1, q1, rfl, hC, hK, hp, hq⟩) |
      (go_at_call 46; refine (size_calls p1 q1 n _ w1 hC).mono ?_; rintro e w2 ⟨rfl, rfl⟩) |
      (go_at_call 93; refine (count_calls p1 q1 n _ w1 hC).mono ?_; rw [HSS.out]; rintro e w2 ⟨rfl, rfl⟩))
    go_ret2
    exact ⟨rfl, H0.out.keeps hK (by simp), Grows.same hK⟩
  · obtain ⟨g, hgap⟩ : ∃ g, gapFrom n (orTo M 3) 0 = g := ⟨_, rfl⟩
    have hg : mTake n M r2 = (g, 0, upd M 3 (addOne n (M 3) g)) := by unfold mTake; rw [hs, if_neg hc, hgap]
    rw [hg]
    rw [hs] at hle
    have HSS := Lib.hid hs
    have HG := Lib.hid hgap
    clear hg h h0 hs hgap
    go_enter Tryd.func78, Tryd.ntmps78
    go_wp2_with (first | (go_at_call 92; refine (held_calls a n r M _ w H0.out hT).mono ?_; rintro e w1 ⟨p1, q1, rfl, hC, hK, hp, hq⟩; have c3 := (HI.out.keeps hK (by simp)).ptr (i := 3) (by omega)) |
      (go_at_call 46; refine (size_calls p1 q1 n _ w1 hC).mono ?_; rintro e w2 ⟨rfl, rfl⟩) |
      (go_at_call 93; refine (count_calls p1 q1 n _ w1 hC).mono ?_; rw [HSS.out]; rintro e w2 ⟨rfl, rfl⟩) |
      (go_at_call 94; refine (gap_calls p1 q1 n _ 0 w1 hC (by omega)).mono ?_; rw [HG.out]; rintro e w2 ⟨rfl, rfl⟩) | fail)
    have hR : Rd .i64 (w1.alloc (.cells #[.int .i64 g] 3)) (.slice (some ⟨w1.heap.size, 0, none⟩) 1 1) w1.heap.size [g] := Rd.one _ _ _
    have hI1 := HI.out.keeps hK (by simp)
    have hq3 := (hI1.sets 3 (by omega)).lt.2
    have hk : Keeps [] w1 (w1.alloc (.cells #[.int .i64 g] 3)) := (Keeps.refl _ _).alloc _
    have hS := (hI1.sets 3 (by omega)).keeps hk (by simp) (by simp)
    refine (add_calls (P 3) (Q 3) n (M 3) w1.heap.size _ [g] _ hS hR (by omega)).mono ?_
    rintro e w2 ⟨rfl, hA, hK2⟩
    clear hR hS
    go_wp2
    go_ret2
    have hK3 : Keeps [Q 3] w1 w2 := (hk.mono (S' := [Q 3]) (by simp)).trans hK2 (by simp)
    refine ⟨rfl, ⟨P, Q, rfl, hI1.works hK3 (by simpa [addAll] using hA)⟩, (Grows.same hK).trans ⟨fun _ h => .inl h, hK3.mono (by intro k hk _; simp at hk; subst hk; exact mem_foot.2 (.inr ⟨3, by omega, .inr rfl⟩))⟩⟩

set_option maxHeartbeats 400000 in
theorem Take_calls (a n : Nat) (r : Int) (M : Nat → Nat) (F : List Nat) (w : World) (h : AllocAt w a n r M F) (hT : Tab w) :
    Calls Tryd.prog 50 #[.pointer (some ⟨a, 0, none⟩)] w fun e w' => e = .returned (.tuple #[.int .i64 (mTake n M r).1, .int .i64 (mTake n M r).2.1]) ∧ AllocAt w' a n r (mTake n M r).2.2 F ∧ Grows w w' F F := by
  have h0 := h
  obtain ⟨P, Q, rfl, h⟩ := h
  have c0 := h.blk.cell 0
  simp at c0
  have H0 := Lib.hid h0
  clear h h0
  go_enter Tryd.func50, Tryd.ntmps50
  go_wp2_with (go_at_call 78; refine (take_calls a n r r M _ w H0.out hT).mono ?_; rintro e w1 ⟨rfl, h1, g1⟩)
  go_ret2
  exact ⟨rfl, h1, g1⟩

set_option maxHeartbeats 400000 in
theorem newalloc_bad (pu qu nu U po qo no O : Nat) (r : Int) (w : World) (hu : SetAt w pu qu nu U) (ho : SetAt w po qo no O) (hbad : nu ≠ no ∨ r < 0) :
    Calls Tryd.prog 10 #[.pointer (some ⟨pu, 0, none⟩), .pointer (some ⟨po, 0, none⟩), .int .i64 r] w fun e w' => e = .returned (.tuple #[.pointer none, .int .i64 2]) ∧ w = w' := by
  have hn1 : nu ≤ 3072 := by obtain ⟨_, _, _, _, _, _, _, hn, _⟩ := hu; exact hn
  have hn2 : no ≤ 3072 := by obtain ⟨_, _, _, _, _, _, _, hn, _⟩ := ho; exact hn
  by_cases hne : nu = no
  · have hr : r < 0 := by omega
    have HE := Lib.hid hne
    have heq : ((nu : Int) != (no : Int)) = false := by simp [hne]
    clear hbad hne
    go_enter Tryd.func10, Tryd.ntmps10
    go_wp2_with fail
    refine (size_calls pu qu nu _ w hu).mono ?_
    rintro e w2 ⟨rfl, rfl⟩
    go_wp2_with fail
    refine (size_calls po qo no _ w ho).mono ?_
    rintro e w2 ⟨rfl, rfl⟩
    go_wp2_with fail
    go_ret2
    exact ⟨rfl, rfl⟩
  · have heq : ((nu : Int) != (no : Int)) = true := by simp; omega
    clear hbad hne
    go_enter Tryd.func10, Tryd.ntmps10
    go_wp2_with fail
    refine (size_calls pu qu nu _ w hu).mono ?_
    rintro e w2 ⟨rfl, rfl⟩
    go_wp2_with fail
    refine (size_calls po qo no _ w ho).mono ?_
    rintro e w2 ⟨rfl, rfl⟩
    go_wp2_with fail
    go_ret2
    exact ⟨rfl, rfl⟩

def mNew (U O : Nat) : Nat → Nat := fun i => if i = 1 then O else U

set_option maxRecDepth 100000 in
set_option maxHeartbeats 2000000 in
theorem newalloc_good (pu qu n U po qo O : Nat) (r : Int) (w : World) (hu : SetAt w pu qu n U) (ho : SetAt w po qo n O) (hr : 0 ≤ r) (hT : Tab w) :
    Calls Tryd.prog 10 #[.pointer (some ⟨pu, 0, none⟩), .pointer (some ⟨po, 0, none⟩), .int .i64 r] w fun e w' => Any fun a => Any fun F => e = .returned (.tuple #[.pointer (some ⟨a, 0, none⟩), .int .i64 0]) ∧ AllocAt w' a n r (mNew U O) F ∧ Grows w w' [] F := by
  have hpos : 0 < w.heap.size := hT.1
  have HU := Lib.hid hu
  have HO := Lib.hid ho
  have HT := Lib.hid hT
  have hr2 : ¬ r < 0 := by omega
  have hk0 : Hid (Keeps [] w (w.alloc (.cells #[.int .i64 r, .pointer none, .pointer none, .pointer none, .pointer none] 96))) := (Keeps.refl _ _).alloc _
  have hb0 : Hid (Blk (w.alloc (.cells #[.int .i64 r, .pointer none, .pointer none, .pointer none, .pointer none] 96)) w.heap.size 96 [.int .i64 r, .pointer none, .pointer none, .pointer none, .pointer none]) := Blk.new w _ [.int .i64 r, .pointer none, .pointer none, .pointer none, .pointer none]
  clear hT ho hu
  go_enter Tryd.func10, Tryd.ntmps10
  go_wp2_with fail
  refine (size_calls pu qu n _ w HU.out).mono ?_
  rintro e w2 ⟨rfl, rfl⟩
  go_wp2_with fail
  refine (size_calls po qo n _ w HO.out).mono ?_
  rintro e w2 ⟨rfl, rfl⟩
  go_wp2_with fail
  go_region_held3 (fun _ => True) (trivial)
    (first | (go_at_call 47; refine (copied_calls po qo n O _ (by exact HO.out.keeps (hk0.out.drew) (by simp) (by simp)) (by exact HT.out.keeps (hk0.out.drew) (by simp))).mono ?_; rintro e w1 ⟨p1, q1, rfl, hC1, hK1, hp1, hq1⟩; have hk1 : Keeps [] w w1 := hk0.out.drew.trans hK1 (by simp); have b1 : Blk w1 w.heap.size 96 [.int .i64 r, .pointer none, .pointer none, .pointer none, .pointer none] := hK1.blk hb0.out (by simp); have d2 := b1.cell 2; have f2 := b1.free 2; simp at d2))
  have hW1 : Keeps [] w (w1.setCell ⟨w.heap.size, 2, none⟩ (.pointer (some ⟨p1, 0, none⟩))) := hk1.set (by omega) _ _
  have bW1 := b1.set 2 (.pointer (some ⟨p1, 0, none⟩))
  have sz1 : w.heap.size + 1 ≤ p1 ∧ w.heap.size + 1 ≤ q1 := by
    have e : (w.alloc (.cells #[.int .i64 r, .pointer none, .pointer none, .pointer none, .pointer none] 96)).drew.heap.size = w.heap.size + 1 := by show (w.alloc _).heap.size = _; simp
    rw [e] at hp1 hq1; exact ⟨hp1, hq1⟩
  have sW1 : SetAt (w1.setCell ⟨w.heap.size, 2, none⟩ (.pointer (some ⟨p1, 0, none⟩))) p1 q1 n O :=
    hC1.keeps (K := [w.heap.size]) ((Keeps.refl _ _).set (by simp) _ _) (by simp; omega) (by simp; omega)
  simp at bW1
  clear d2 f2 b1 hC1 hK1 hp1 hq1 hk0 hb0 hk1
  generalize w1.setCell ⟨w.heap.size, 2, none⟩ (.pointer (some ⟨p1, 0, none⟩)) = W1 at *
  go_wp2
  have i0 : ∀ W, (Instr.index 98 (.agg #[.int .i64 0, .int .i64 2, .int .i64 3]) (.int .i64 0)).run Tryd.prog W = .ok (.int .i64 0) W := fun _ => by kernel_rfl
  have i1 : ∀ W, (Instr.index 98 (.agg #[.int .i64 0, .int .i64 2, .int .i64 3]) (.int .i64 1)).run Tryd.prog W = .ok (.int .i64 2) W := fun _ => by kernel_rfl
  have i2 : ∀ W, (Instr.index 98 (.agg #[.int .i64 0, .int .i64 2, .int .i64 3]) (.int .i64 2)).run Tryd.prog W = .ok (.int .i64 3) W := fun _ => by kernel_rfl
  have s1 := sW1
  clear sW1
  refine wp_loop_rounds 4 ?_
  rw [rounds_succ]
  go_wp2
  go_region_held3 (fun _ => True) (trivial)
    (first | (go_at_call 47; refine (copied_calls pu qu n U _ (by exact HU.out.keeps (hW1.drew) (by simp) (by simp)) (by exact HT.out.keeps (hW1.drew) (by simp))).mono ?_; rintro e w2 ⟨p2, q2, rfl, hC, hK, hp, hq⟩; have hk : Keeps [] w w2 := hW1.drew.trans hK (by simp); have bb : Blk w2 w.heap.size 96 [.int .i64 r, .pointer none, .pointer (some ⟨p1, 0, none⟩), .pointer none, .pointer none] := hK.blk (bW1.drew) (by simp); have dd := bb.cell 1; have ff := bb.free 1; simp at dd))
  go_wp2
  have hW2 : Keeps [] w (w2.setCell ⟨w.heap.size, 1, none⟩ (.pointer (some ⟨p2, 0, none⟩))) := hk.set (by omega) _ _
  have bW2 := bb.set 1 (.pointer (some ⟨p2, 0, none⟩))
  have hset : Keeps [w.heap.size] w2 (w2.setCell ⟨w.heap.size, 1, none⟩ (.pointer (some ⟨p2, 0, none⟩))) := (Keeps.refl _ _).set (by simp) _ _
  have sz2 : W1.heap.size ≤ p2 ∧ W1.heap.size ≤ q2 := ⟨hp, hq⟩
  have szb : w.heap.size < W1.heap.size := bW1.lt
  have s2 : SetAt (w2.setCell ⟨w.heap.size, 1, none⟩ (.pointer (some ⟨p2, 0, none⟩))) p2 q2 n U := hC.keeps hset (by simp; omega) (by simp; omega)
  have l1 := s1.lt
  have s1' : SetAt (w2.setCell ⟨w.heap.size, 1, none⟩ (.pointer (some ⟨p2, 0, none⟩))) p1 q1 n O := (s1.keeps (w' := w2) ((Keeps.refl [] W1).drew.trans hK (by simp)) (by simp) (by simp)).keeps hset (by simp; omega) (by simp; omega)
  simp at bW2
  clear dd ff bb hC hK hp hq hk hset bW1 hW1
  replace s1 := s1'
  clear s1'
  generalize w2.setCell ⟨w.heap.size, 1, none⟩ (.pointer (some ⟨p2, 0, none⟩)) = W2 at *
  rw [rounds_succ]
  go_wp2
  go_region_held3 (fun _ => True) (trivial)
    (first | (go_at_call 47; refine (copied_calls pu qu n U _ (by exact HU.out.keeps (hW2.drew) (by simp) (by simp)) (by exact HT.out.keeps (hW2.drew) (by simp))).mono ?_; rintro e w3 ⟨p3, q3, rfl, hC, hK, hp, hq⟩; have hk : Keeps [] w w3 := hW2.drew.trans hK (by simp); have bb : Blk w3 w.heap.size 96 [.int .i64 r, .pointer (some ⟨p2, 0, none⟩), .pointer (some ⟨p1, 0, none⟩), .pointer none, .pointer none] := hK.blk (bW2.drew) (by simp); have dd := bb.cell 3; have ff := bb.free 3; simp at dd))
  go_wp2
  have hW3 : Keeps [] w (w3.setCell ⟨w.heap.size, 3, none⟩ (.pointer (some ⟨p3, 0, none⟩))) := hk.set (by omega) _ _
  have bW3 := bb.set 3 (.pointer (some ⟨p3, 0, none⟩))
  have hset : Keeps [w.heap.size] w3 (w3.setCell ⟨w.heap.size, 3, none⟩ (.pointer (some ⟨p3, 0, none⟩))) := (Keeps.refl _ _).set (by simp) _ _
  have sz3 : W2.heap.size ≤ p3 ∧ W2.heap.size ≤ q3 := ⟨hp, hq⟩
  have szb : w.heap.size < W2.heap.size := bW2.lt
  have s3 : SetAt (w3.setCell ⟨w.heap.size, 3, none⟩ (.pointer (some ⟨p3, 0, none⟩))) p3 q3 n U := hC.keeps hset (by simp; omega) (by simp; omega)
  have l1 := s1.lt
  have s1' : SetAt (w3.setCell ⟨w.heap.size, 3, none⟩ (.pointer (some ⟨p3, 0, none⟩))) p1 q1 n O := (s1.keeps (w' := w3) ((Keeps.refl [] W2).drew.trans hK (by simp)) (by simp) (by simp)).keeps hset (by simp; omega) (by simp; omega)
  have l2 := s2.lt
  have s2' : SetAt (w3.setCell ⟨w.heap.size, 3, none⟩ (.pointer (some ⟨p3, 0, none⟩))) p2 q2 n U := (s2.keeps (w' := w3) ((Keeps.refl [] W2).drew.trans hK (by simp)) (by simp) (by simp)).keeps hset (by simp; omega) (by simp; omega)
  simp at bW3
  clear dd ff bb hC hK hp hq hk hset bW2 hW2
  replace s1 := s1'
  clear s1'
  replace s2 := s2'
  clear s2'
  generalize w3.setCell ⟨w.heap.size, 3, none⟩ (.pointer (some ⟨p3, 0, none⟩)) = W3 at *
  rw [rounds_succ]
  go_wp2
  go_region_held3 (fun _ => True) (trivial)
    (first | (go_at_call 47; refine (copied_calls pu qu n U _ (by exact HU.out.keeps (hW3.drew) (by simp) (by simp)) (by exact HT.out.keeps (hW3.drew) (by simp))).mono ?_; rintro e w4 ⟨p4, q4, rfl, hC, hK, hp, hq⟩; have hk : Keeps [] w w4 := hW3.drew.trans hK (by simp); have bb : Blk w4 w.heap.size 96 [.int .i64 r, .pointer (some ⟨p2, 0, none⟩), .pointer (some ⟨p1, 0, none⟩), .pointer (some ⟨p3, 0, none⟩), .pointer none] := hK.blk (bW3.drew) (by simp); have dd := bb.cell 4; have ff := bb.free 4; simp at dd))
  go_wp2
  have hW4 : Keeps [] w (w4.setCell ⟨w.heap.size, 4, none⟩ (.pointer (some ⟨p4, 0, none⟩))) := hk.set (by omega) _ _
  have bW4 := bb.set 4 (.pointer (some ⟨p4, 0, none⟩))
  have hset : Keeps [w.heap.size] w4 (w4.setCell ⟨w.heap.size, 4, none⟩ (.pointer (some ⟨p4, 0, none⟩))) := (Keeps.refl _ _).set (by simp) _ _
  have sz4 : W3.heap.size ≤ p4 ∧ W3.heap.size ≤ q4 := ⟨hp, hq⟩
  have szb : w.heap.size < W3.heap.size := bW3.lt
  have s4 : SetAt (w4.setCell ⟨w.heap.size, 4, none⟩ (.pointer (some ⟨p4, 0, none⟩))) p4 q4 n U := hC.keeps hset (by simp; omega) (by simp; omega)
  have l1 := s1.lt
  have s1' : SetAt (w4.setCell ⟨w.heap.size, 4, none⟩ (.pointer (some ⟨p4, 0, none⟩))) p1 q1 n O := (s1.keeps (w' := w4) ((Keeps.refl [] W3).drew.trans hK (by simp)) (by simp) (by simp)).keeps hset (by simp; omega) (by simp; omega)
  have l2 := s2.lt
  have s2' : SetAt (w4.setCell ⟨w.heap.size, 4, none⟩ (.pointer (some ⟨p4, 0, none⟩))) p2 q2 n U := (s2.keeps (w' := w4) ((Keeps.refl [] W3).drew.trans hK (by simp)) (by simp) (by simp)).keeps hset (by simp; omega) (by simp; omega)
  have l3 := s3.lt
  have s3' : SetAt (w4.setCell ⟨w.heap.size, 4, none⟩ (.pointer (some ⟨p4, 0, none⟩))) p3 q3 n U := (s3.keeps (w' := w4) ((Keeps.refl [] W3).drew.trans hK (by simp)) (by simp) (by simp)).keeps hset (by simp; omega) (by simp; omega)
  simp at bW4
  clear dd ff bb hC hK hp hq hk hset bW3 hW3
  replace s1 := s1'
  clear s1'
  replace s2 := s2'
  clear s2'
  replace s3 := s3'
  clear s3'
  generalize w4.setCell ⟨w.heap.size, 4, none⟩ (.pointer (some ⟨p4, 0, none⟩)) = W4 at *
  rw [rounds_succ]
  go_wp2
  go_ret2
  have l1 := s1.lt
  have l2 := s2.lt
  have l3 := s3.lt
  have l4 := s4.lt
  have hb4 := bW4.lt
  refine Any.mk w.heap.size (Any.mk (foot w.heap.size (fun i => if i = 0 then p2 else if i = 1 then p1 else if i = 2 then p3 else p4) (fun i => if i = 0 then q2 else if i = 1 then q1 else if i = 2 then q3 else q4)) ⟨rfl, ⟨_, _, rfl, ?_⟩, ?_, hW4⟩)
  · have d1 : p1 ≠ q1 := by obtain ⟨_, _, _, h, _⟩ := s1; exact h
    have d2 : p2 ≠ q2 := by obtain ⟨_, _, _, h, _⟩ := s2; exact h
    have d3 : p3 ≠ q3 := by obtain ⟨_, _, _, h, _⟩ := s3; exact h
    have d4 : p4 ≠ q4 := by obtain ⟨_, _, _, h, _⟩ := s4; exact h
    refine ⟨bW4, fun i hi => ?_, fun i hi => ?_, fun i j hi hj hij => ?_, hpos⟩
    · have : i = 0 ∨ i = 1 ∨ i = 2 ∨ i = 3 := by omega
      rcases this with rfl | rfl | rfl | rfl
      · exact s2
      · exact s1
      · exact s3
      · exact s4
    · have : i = 0 ∨ i = 1 ∨ i = 2 ∨ i = 3 := by omega
      rcases this with rfl | rfl | rfl | rfl <;> simp <;> omega
    · have hi4 : i = 0 ∨ i = 1 ∨ i = 2 ∨ i = 3 := by omega
      have hj4 : j = 0 ∨ j = 1 ∨ j = 2 ∨ j = 3 := by omega
      rcases hi4 with rfl | rfl | rfl | rfl <;> rcases hj4 with rfl | rfl | rfl | rfl <;> first | (exact absurd rfl hij) | (simp; omega)
  · intro x hx
    right
    simp [foot] at hx
    omega
end Go.Proofs.YtfpdikhdfcppeaaDoor
