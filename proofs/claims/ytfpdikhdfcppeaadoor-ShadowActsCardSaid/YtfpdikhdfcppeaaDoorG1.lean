/- The reference's allocator: Do, New. -/
import Derived.Test.YtfpdikhdfcppeaaDoorG0
namespace Go.Proofs.YtfpdikhdfcppeaaDoor
open Go.RowKit Go.Proofs

/-- A list is put in another one's place. -/
theorem RAlIn.copy {w : World} {A n : Nat} {r : Int} {V : Nat → Value} {G M : Nat → Nat} (h : RAlIn w A n r V G M) {i j : Nat} (hi : i < 4) (hj : j < 4) :
    RAlIn (w.setCell ⟨A, 2 + i, none⟩ (V j)) A n r (updV V i (V j)) (upd G i (G j)) (upd M i (M j)) ∧ Grows w (w.setCell ⟨A, 2 + i, none⟩ (V j)) (rfoot A G) (rfoot A (upd G i (G j))) :=
  h.put (Keeps.refl _ _) hi (h.rd j hj) (.inr (tail_mem hj)) (h.bit j hj)
theorem RAlIn.val {w : World} {A n : Nat} {r : Int} {V : Nat → Value} {G M : Nat → Nat} (h : RAlIn w A n r V G M) {i : Nat} (hi : i < 4) : ∃ a l c, V i = .slice a l c := by
  obtain ⟨a, c, e, _⟩ := (h.rd i hi).shape
  exact ⟨a, _, c, e⟩
theorem RAlIn.cellOf {w : World} {A n : Nat} {r : Int} {V : Nat → Value} {G M : Nat → Nat} (h : RAlIn w A n r V G M) {i : Nat} (hi : i < 4) : w.cell? ⟨A, 2 + i, none⟩ = some (V i) := by
  rw [h.blk.cell]
  have : i = 0 ∨ i = 1 ∨ i = 2 ∨ i = 3 := by omega
  rcases this with rfl | rfl | rfl | rfl <;> rfl

section
variable (A n : Nat) (r : Int) (M : Nat → Nat) (F : List Nat) (w : World) (h : RAlAt w A n r M F)
include h
set_option maxHeartbeats 1000000 in
theorem rmark_calls : Calls Tryd.prog 38 #[.pointer (some ⟨A, 0, none⟩), .int .i64 0] w fun e w' => Any fun F' => e = .returned (.tuple #[]) ∧ RAlAt w' A n r (mMark M) F' ∧ Grows w w' F F' := by
  obtain ⟨V, G, rfl, h⟩ := h
  obtain ⟨a3, l3, c3, e3⟩ := h.val (i := 3) (by omega)
  have b5 := h.cellOf (i := 3) (by omega)
  have b4 := h.cellOf (i := 2) (by omega)
  have f4 := h.blk.free 4
  simp at b4 b5
  have hp := h.copy (i := 2) (j := 3) (by omega) (by omega)
  rw [e3] at hp b5
  have HP := Lib.hid hp
  clear h hp e3
  go_enter Tryd.func38, Tryd.ntmps38
  go_wp2
  refine bodyPost_end (results_none rfl _ _ _) rfl ?_
  exact Any.mk _ ⟨rfl, ⟨_, _, rfl, HP.out.1⟩, HP.out.2⟩
set_option maxHeartbeats 1000000 in
theorem rback_calls : Calls Tryd.prog 38 #[.pointer (some ⟨A, 0, none⟩), .int .i64 1] w fun e w' => Any fun F' => e = .returned (.tuple #[]) ∧ RAlAt w' A n r (mBack M) F' ∧ Grows w w' F F' := by
  obtain ⟨V, G, rfl, h⟩ := h
  obtain ⟨a3, l3, c3, e3⟩ := h.val (i := 2) (by omega)
  have b5 := h.cellOf (i := 3) (by omega)
  have b4 := h.cellOf (i := 2) (by omega)
  have f5 := h.blk.free 5
  simp at b4 b5
  have hp := h.copy (i := 3) (j := 2) (by omega) (by omega)
  rw [e3] at hp b4
  have HP := Lib.hid hp
  clear h hp e3
  go_enter Tryd.func38, Tryd.ntmps38
  go_wp2
  refine bodyPost_end (results_none rfl _ _ _) rfl ?_
  exact Any.mk _ ⟨rfl, ⟨_, _, rfl, HP.out.1⟩, HP.out.2⟩
set_option maxHeartbeats 1000000 in
theorem rcommit_calls : Calls Tryd.prog 38 #[.pointer (some ⟨A, 0, none⟩), .int .i64 2] w fun e w' => Any fun F' => e = .returned (.tuple #[]) ∧ RAlAt w' A n r (mCommit M) F' ∧ Grows w w' F F' := by
  obtain ⟨V, G, rfl, h⟩ := h
  obtain ⟨a3, l3, c3, e3⟩ := h.val (i := 3) (by omega)
  obtain ⟨a0, l0, c0, e0⟩ := h.val (i := 0) (by omega)
  obtain ⟨a1, l1, c1, e1⟩ := h.val (i := 1) (by omega)
  obtain ⟨a2, l2, c2, e2⟩ := h.val (i := 2) (by omega)
  have b2 := h.cellOf (i := 0) (by omega)
  have b3 := h.cellOf (i := 1) (by omega)
  have b4 := h.cellOf (i := 2) (by omega)
  have b5 := h.cellOf (i := 3) (by omega)
  have f2 := h.blk.free 2
  have f3 := h.blk.free 3
  have f4 := h.blk.free 4
  simp at b2 b3 b4 b5
  obtain ⟨hp1, g1⟩ := h.copy (i := 1) (j := 0) (by omega) (by omega)
  obtain ⟨hp2, g2⟩ := hp1.copy (i := 0) (j := 3) (by omega) (by omega)
  obtain ⟨hp3, g3⟩ := hp2.copy (i := 2) (j := 3) (by omega) (by omega)
  have G3 := Lib.hid ((g1.trans g2).trans g3)
  have HP := Lib.hid hp3
  simp only [updV, e0, e3] at HP G3
  simp at HP G3
  rw [e0] at b2
  rw [e1] at b3
  rw [e2] at b4
  rw [e3] at b5
  clear h hp1 hp2 hp3 g1 g2 g3 e0 e1 e2 e3
  go_enter Tryd.func38, Tryd.ntmps38
  go_wp2
  refine bodyPost_end (results_none rfl _ _ _) rfl ?_
  exact Any.mk _ ⟨rfl, ⟨_, _, rfl, HP.out⟩, G3.out⟩
set_option maxHeartbeats 1000000 in
theorem rabort_calls : Calls Tryd.prog 38 #[.pointer (some ⟨A, 0, none⟩), .int .i64 3] w fun e w' => Any fun F' => e = .returned (.tuple #[]) ∧ RAlAt w' A n r (mAbort M) F' ∧ Grows w w' F F' := by
  obtain ⟨V, G, rfl, h⟩ := h
  obtain ⟨a3, l3, c3, e3⟩ := h.val (i := 3) (by omega)
  obtain ⟨a0, l0, c0, e0⟩ := h.val (i := 0) (by omega)
  obtain ⟨a2, l2, c2, e2⟩ := h.val (i := 2) (by omega)
  have b2 := h.cellOf (i := 0) (by omega)
  have b4 := h.cellOf (i := 2) (by omega)
  have b5 := h.cellOf (i := 3) (by omega)
  have f4 := h.blk.free 4
  have f5 := h.blk.free 5
  simp at b2 b4 b5
  obtain ⟨hp1, g1⟩ := h.copy (i := 2) (j := 0) (by omega) (by omega)
  obtain ⟨hp2, g2⟩ := hp1.copy (i := 3) (j := 0) (by omega) (by omega)
  have G3 := Lib.hid (g1.trans g2)
  have HP := Lib.hid hp2
  simp only [updV, e0] at HP G3
  simp at HP G3
  rw [e0] at b2
  rw [e2] at b4
  rw [e3] at b5
  clear h hp1 hp2 g1 g2 e0 e2 e3
  go_enter Tryd.func38, Tryd.ntmps38
  go_wp2
  refine bodyPost_end (results_none rfl _ _ _) rfl ?_
  have e : upd (upd M 2 (M 0)) 3 (upd M 2 (M 0) 0) = mAbort M := by
    funext j
    unfold mAbort mMark upd
    by_cases e1 : j = 3 <;> by_cases e2 : j = 2 <;> simp [e1, e2]
  have HP2 := HP.out
  rw [e] at HP2
  exact Any.mk _ ⟨rfl, ⟨_, _, rfl, HP2⟩, G3.out⟩
end

set_option maxHeartbeats 1000000 in
theorem rnewal_calls (n U O B1 B2 : Nat) (r : Int) (v1 v2 : Value) (w : World) (h1 : Rd .i64 w v1 B1 (ups n U)) (h2 : Rd .i64 w v2 B2 (ups n O)) (hB1 : B1 < w.heap.size) (hB2 : B2 < w.heap.size) (hU : U < 2 ^ n) (hO : O < 2 ^ n) (hn : n ≤ 3072) :
    Calls Tryd.prog 32 #[.int .i64 n, v1, v2, .int .i64 r] w fun e w' => Any fun A => e = .returned (.pointer (some ⟨A, 0, none⟩)) ∧ RAlAt w' A n r (mNew U O) [A, B1, B2, B1, B1] ∧ Keeps [] w w' ∧ w.heap.size ≤ A := by
  obtain ⟨a1, c1, rfl, _, _⟩ := id h1.shape
  obtain ⟨a2, c2, rfl, _, _⟩ := id h2.shape
  have H1 := Lib.hid h1
  have H2 := Lib.hid h2
  clear h1 h2
  go_enter Tryd.func32, Tryd.ntmps32
  go_wp2
  go_ret
  have hk : Keeps [] w (w.alloc (.cells #[.int .i64 n, .int .i64 r, .slice a1 (ups n U).length c1, .slice a2 (ups n O).length c2, .slice a1 (ups n U).length c1, .slice a1 (ups n U).length c1] 86)) := (Keeps.refl _ _).alloc _
  refine Any.mk w.heap.size ⟨rfl, ⟨fun i => if i = 1 then .slice a2 (ups n O).length c2 else .slice a1 (ups n U).length c1, fun i => if i = 1 then B2 else B1, rfl, ?_⟩, hk, Nat.le_refl _⟩
  refine ⟨Blk.new w _ [.int .i64 n, .int .i64 r, .slice a1 (ups n U).length c1, .slice a2 (ups n O).length c2, .slice a1 (ups n U).length c1, .slice a1 (ups n U).length c1], fun i hi => ?_, fun i hi => ?_, fun i hi => ?_, fun i hi => ?_, hn⟩
  · unfold mNew
    by_cases e : i = 1
    · simp only [if_pos e]; exact H2.out.keeps hk (by simp)
    · simp only [if_neg e]; exact H1.out.keeps hk (by simp)
  · by_cases e : i = 1
    · simp only [if_pos e]; omega
    · simp only [if_neg e]; omega
  · by_cases e : i = 1
    · simp only [if_pos e]; simp; omega
    · simp only [if_neg e]; simp; omega
  · unfold mNew
    by_cases e : i = 1
    · simp only [if_pos e]; exact hO
    · simp only [if_neg e]; exact hU
end Go.Proofs.YtfpdikhdfcppeaaDoor
