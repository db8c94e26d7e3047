/- The reference's device. -/
import Derived.Test.YtfpdikhdfcppeaaDoorF1
namespace Go.Proofs.YtfpdikhdfcppeaaDoor
open Go.RowKit Go.Proofs

/-- The reference's device at d: four arrays. -/
structure RDev (w : World) (d p0 p1 p2 p3 n : Nat) (cs : List DCell) (since left steps : Int) : Prop where
  blk : Blk w d 83 [.slice (some ⟨p0, 0, none⟩) n n, .slice (some ⟨p1, 0, none⟩) n n, .slice (some ⟨p2, 0, none⟩) n n, .slice (some ⟨p3, 0, none⟩) n n, .slice none 0 0, .int .i64 since, .int .i64 left, .int .i64 steps]
  b0 : Blk w p0 107 (u64s (cs.map DCell.lasts))
  b1 : Blk w p1 107 (u64s (cs.map DCell.stored))
  b2 : Blk w p2 107 (u64s (cs.map DCell.sent))
  b3 : Blk w p3 4 (cs.map fun c => .bool c.flushed)
  len : cs.length = n
  max : n ≤ 32768
  ne : (d ≠ p0 ∧ d ≠ p1 ∧ d ≠ p2 ∧ d ≠ p3) ∧ (p0 ≠ p1 ∧ p0 ≠ p2 ∧ p0 ≠ p3) ∧ (p1 ≠ p2 ∧ p1 ≠ p3) ∧ p2 ≠ p3
section
variable {w : World} {d p0 p1 p2 p3 n : Nat} {cs : List DCell} {since left steps : Int}
theorem RDev.cell (h : RDev w d p0 p1 p2 p3 n cs since left steps) (j : Nat) : w.cell? ⟨d, j, none⟩ = [Value.slice (some ⟨p0, 0, none⟩) n n, .slice (some ⟨p1, 0, none⟩) n n, .slice (some ⟨p2, 0, none⟩) n n, .slice (some ⟨p3, 0, none⟩) n n, .slice none 0 0, .int .i64 since, .int .i64 left, .int .i64 steps][j]? := h.blk.cell j
theorem RDev.keeps {S : List Nat} {w' : World} (h : RDev w d p0 p1 p2 p3 n cs since left steps) (hk : Keeps S w w') (hS : ∀ k ∈ S, k ∉ [d, p0, p1, p2, p3]) : RDev w' d p0 p1 p2 p3 n cs since left steps := by
  have f : ∀ k ∈ [d, p0, p1, p2, p3], k ∉ S := fun k h1 h2 => hS k h2 h1
  exact ⟨hk.blk h.blk (f d (by simp)), hk.blk h.b0 (f p0 (by simp)), hk.blk h.b1 (f p1 (by simp)), hk.blk h.b2 (f p2 (by simp)), hk.blk h.b3 (f p3 (by simp)), h.len, h.max, h.ne⟩
theorem RDev.drew (h : RDev w d p0 p1 p2 p3 n cs since left steps) : RDev w.drew d p0 p1 p2 p3 n cs since left steps := ⟨h.blk.drew, h.b0.drew, h.b1.drew, h.b2.drew, h.b3.drew, h.len, h.max, h.ne⟩
theorem RDev.lt (h : RDev w d p0 p1 p2 p3 n cs since left steps) : ∀ k ∈ [d, p0, p1, p2, p3], k < w.heap.size := by
  intro k hk
  simp only [List.mem_cons, List.not_mem_nil, or_false] at hk
  rcases hk with rfl | rfl | rfl | rfl | rfl
  · exact h.blk.lt
  · exact h.b0.lt
  · exact h.b1.lt
  · exact h.b2.lt
  · exact h.b3.lt

theorem map_modify_set {α β : Type} (l : List α) (i : Nat) (f : α → α) (g : α → β) (v : β) (h : ∀ c, g (f c) = v) : (l.modify i f).map g = (l.map g).set i v := by
  apply List.ext_getElem?
  intro j
  rw [List.getElem?_map, modify_get, List.getElem?_set, List.getElem?_map, List.length_map]
  by_cases e : i = j
  · subst e
    rw [if_pos rfl]
    cases hj : l[i]? with
    | none => rw [if_neg (by have := List.getElem?_eq_none_iff.1 hj; omega)]; rfl
    | some c => rw [if_pos (List.getElem?_eq_some_iff.1 hj).1]; simp [h]
  · rw [if_neg e]
    cases l[j]? with
    | none => rfl
    | some c => simp [show ¬ j = i from fun h => e h.symm]
theorem map_modify_same {α β : Type} (l : List α) (i : Nat) (f : α → α) (g : α → β) (h : ∀ c, g (f c) = g c) : (l.modify i f).map g = l.map g := by
  apply List.ext_getElem?
  intro j
  rw [List.getElem?_map, modify_get, List.getElem?_map]
  cases l[j]? with
  | none => rfl
  | some c => simp only [Option.map_some, Option.some.injEq]; split <;> simp [h]
theorem modify_twice {α : Type} (l : List α) (i : Nat) (f g : α → α) : (l.modify i f).modify i g = l.modify i fun c => g (f c) := by
  apply List.ext_getElem?
  intro j
  rw [modify_get, modify_get, modify_get]
  cases l[j]? with
  | none => rfl
  | some c => simp only [Option.map_some, Option.some.injEq]; split <;> rfl
theorem set_map {α β : Type} (l : List α) (g : α → β) (i : Nat) (v : α) : (l.map g).set i (g v) = (l.set i v).map g := by simp

theorem RDev.set0 (h : RDev w d p0 p1 p2 p3 n cs since left steps) (i : Nat) (v : Int) : RDev (w.setCell ⟨p0, i, none⟩ (.int .u64 v)) d p0 p1 p2 p3 n (cs.modify i fun c => { c with lasts := v }) since left steps := by
  obtain ⟨⟨n1, n2, n3, n4⟩, ⟨n5, n6, n7⟩, ⟨n8, n9⟩, n10⟩ := h.ne
  refine ⟨h.blk.set_ne (Ne.symm n1) _ _, ?_, ?_, ?_, ?_, by rw [List.length_modify]; exact h.len, h.max, h.ne⟩
  · have := h.b0.set i (.int .u64 v)
    rwa [u64s, set_map, ← map_modify_set (f := fun c : DCell => { c with lasts := v }) (h := fun _ => rfl)] at this
  · rw [map_modify_same (h := by intro _; rfl)]; exact h.b1.set_ne n5 _ _
  · rw [map_modify_same (h := by intro _; rfl)]; exact h.b2.set_ne n6 _ _
  · rw [map_modify_same (h := by intro _; rfl)]; exact h.b3.set_ne n7 _ _
theorem RDev.set1 (h : RDev w d p0 p1 p2 p3 n cs since left steps) (i : Nat) (v : Int) : RDev (w.setCell ⟨p1, i, none⟩ (.int .u64 v)) d p0 p1 p2 p3 n (cs.modify i fun c => { c with stored := v }) since left steps := by
  obtain ⟨⟨n1, n2, n3, n4⟩, ⟨n5, n6, n7⟩, ⟨n8, n9⟩, n10⟩ := h.ne
  refine ⟨h.blk.set_ne (Ne.symm n2) _ _, ?_, ?_, ?_, ?_, by rw [List.length_modify]; exact h.len, h.max, h.ne⟩
  · rw [map_modify_same (h := by intro _; rfl)]; exact h.b0.set_ne (Ne.symm n5) _ _
  · have := h.b1.set i (.int .u64 v)
    rwa [u64s, set_map, ← map_modify_set (f := fun c : DCell => { c with stored := v }) (h := fun _ => rfl)] at this
  · rw [map_modify_same (h := by intro _; rfl)]; exact h.b2.set_ne n8 _ _
  · rw [map_modify_same (h := by intro _; rfl)]; exact h.b3.set_ne n9 _ _
theorem RDev.set2 (h : RDev w d p0 p1 p2 p3 n cs since left steps) (i : Nat) (v : Int) : RDev (w.setCell ⟨p2, i, none⟩ (.int .u64 v)) d p0 p1 p2 p3 n (cs.modify i fun c => { c with sent := v }) since left steps := by
  obtain ⟨⟨n1, n2, n3, n4⟩, ⟨n5, n6, n7⟩, ⟨n8, n9⟩, n10⟩ := h.ne
  refine ⟨h.blk.set_ne (Ne.symm n3) _ _, ?_, ?_, ?_, ?_, by rw [List.length_modify]; exact h.len, h.max, h.ne⟩
  · rw [map_modify_same (h := by intro _; rfl)]; exact h.b0.set_ne (Ne.symm n6) _ _
  · rw [map_modify_same (h := by intro _; rfl)]; exact h.b1.set_ne (Ne.symm n8) _ _
  · have := h.b2.set i (.int .u64 v)
    rwa [u64s, set_map, ← map_modify_set (f := fun c : DCell => { c with sent := v }) (h := fun _ => rfl)] at this
  · rw [map_modify_same (h := by intro _; rfl)]; exact h.b3.set_ne n10 _ _
theorem RDev.set3 (h : RDev w d p0 p1 p2 p3 n cs since left steps) (i : Nat) (v : Bool) : RDev (w.setCell ⟨p3, i, none⟩ (.bool v)) d p0 p1 p2 p3 n (cs.modify i fun c => { c with flushed := v }) since left steps := by
  obtain ⟨⟨n1, n2, n3, n4⟩, ⟨n5, n6, n7⟩, ⟨n8, n9⟩, n10⟩ := h.ne
  refine ⟨h.blk.set_ne (Ne.symm n4) _ _, ?_, ?_, ?_, ?_, by rw [List.length_modify]; exact h.len, h.max, h.ne⟩
  · rw [map_modify_same (h := by intro _; rfl)]; exact h.b0.set_ne (Ne.symm n7) _ _
  · rw [map_modify_same (h := by intro _; rfl)]; exact h.b1.set_ne (Ne.symm n9) _ _
  · rw [map_modify_same (h := by intro _; rfl)]; exact h.b2.set_ne (Ne.symm n10) _ _
  · have := h.b3.set i (.bool v)
    rwa [← map_modify_set (f := fun c : DCell => { c with flushed := v }) (g := fun c => Value.bool c.flushed) (h := fun _ => rfl)] at this
theorem RDev.setD (h : RDev w d p0 p1 p2 p3 n cs since left steps) (i : Nat) (v : Value) (since' left' steps' : Int) (hv : [Value.slice (some ⟨p0, 0, none⟩) n n, .slice (some ⟨p1, 0, none⟩) n n, .slice (some ⟨p2, 0, none⟩) n n, .slice (some ⟨p3, 0, none⟩) n n, .slice none 0 0, .int .i64 since, .int .i64 left, .int .i64 steps].set i v = [Value.slice (some ⟨p0, 0, none⟩) n n, .slice (some ⟨p1, 0, none⟩) n n, .slice (some ⟨p2, 0, none⟩) n n, .slice (some ⟨p3, 0, none⟩) n n, .slice none 0 0, .int .i64 since', .int .i64 left', .int .i64 steps']) : RDev (w.setCell ⟨d, i, none⟩ v) d p0 p1 p2 p3 n cs since' left' steps' := by
  obtain ⟨⟨n1, n2, n3, n4⟩, _⟩ := h.ne
  exact ⟨by have := h.blk.set i v; rwa [hv] at this, h.b0.set_ne n1 _ _, h.b1.set_ne n2 _ _, h.b2.set_ne n3 _ _, h.b3.set_ne n4 _ _, h.len, h.max, h.ne⟩

set_option maxHeartbeats 800000 in
theorem rlast_calls (h : RDev w d p0 p1 p2 p3 n cs since left steps) (i : Nat) (hi : i < n) (v : Int) :
    Calls Tryd.prog 73 #[.pointer (some ⟨d, 0, none⟩), .int .i64 i, .int .u64 v] w fun e w' => e = .returned (.tuple #[]) ∧ RDev w' d p0 p1 p2 p3 n (cs.modify i fun c => c.keep v) since left steps ∧ Keeps [d, p0, p1, p2, p3] w w' := by
  have c0 := h.cell 0
  have c2 := h.cell 2
  have c3 := h.cell 3
  simp at c0 c2 c3
  obtain ⟨⟨n1, n2, n3, n4⟩, ⟨n5, n6, n7⟩, ⟨n8, n9⟩, n10⟩ := h.ne
  have f0 := h.b0.free
  have f2 := h.b2.free
  have f3 := h.b3.free
  have hmax := h.max
  have hl := h.len
  have g0 : w.cell? ⟨p0, i, none⟩ = some (.int .u64 (cs[i]'(by omega)).lasts) := by rw [h.b0.cell]; simp [u64s, List.getElem?_eq_getElem (show i < cs.length by omega)]
  have g2 : w.cell? ⟨p2, i, none⟩ = some (.int .u64 (cs[i]'(by omega)).sent) := by rw [h.b2.cell]; simp [u64s, List.getElem?_eq_getElem (show i < cs.length by omega)]
  have g3 : w.cell? ⟨p3, i, none⟩ = some (.bool (cs[i]'(by omega)).flushed) := by rw [h.b3.cell]; simp [List.getElem?_eq_getElem (show i < cs.length by omega)]
  have H := Lib.hid h
  clear h
  go_enter Tryd.func73, Tryd.ntmps73
  go_wp2
  go_end0
  refine ⟨rfl, ?_, (((Keeps.refl _ _).set (by simp) _ _).set (by simp) _ _).set (by simp) _ _⟩
  have := ((H.out.set0 i v).set2 i 0).set3 i false
  rw [modify_twice, modify_twice] at this
  exact this

def stepLeft (left : Int) : Int := if 0 < left then wrap64 (left - 1) else left
set_option maxHeartbeats 800000 in
theorem rstep_calls (h : RDev w d p0 p1 p2 p3 n cs since left steps) :
    Calls Tryd.prog 74 #[.pointer (some ⟨d, 0, none⟩)] w fun e w' => e = .returned (.tuple #[]) ∧ RDev w' d p0 p1 p2 p3 n cs (wrap64 (since + 1)) (stepLeft left) (wrap64 (steps + 1)) ∧ Keeps [d, p0, p1, p2, p3] w w' := by
  have c0 := h.cell 0
  have c4 := h.cell 4
  have c5 := h.cell 5
  have c6 := h.cell 6
  have c7 := h.cell 7
  simp at c0 c4 c5 c6 c7
  have f0 := h.blk.free
  have H := Lib.hid h
  clear h
  unfold stepLeft
  by_cases hl : 0 < left
  · rw [if_pos hl]
    go_enter Tryd.func74, Tryd.ntmps74
    go_wp2
    go_end0
    refine ⟨rfl, ?_, (((Keeps.refl _ _).set (by simp) _ _).set (by simp) _ _).set (by simp) _ _⟩
    exact ((H.out.setD 5 (.int .i64 (wrap64 (since + 1))) _ _ _ rfl).setD 7 (.int .i64 (wrap64 (steps + 1))) _ _ _ rfl).setD 6 (.int .i64 (wrap64 (left - 1))) _ _ _ rfl
  · rw [if_neg hl]
    go_enter Tryd.func74, Tryd.ntmps74
    go_wp2
    go_end0
    refine ⟨rfl, ?_, ((Keeps.refl _ _).set (by simp) _ _).set (by simp) _ _⟩
    exact (H.out.setD 5 (.int .i64 (wrap64 (since + 1))) _ _ _ rfl).setD 7 (.int .i64 (wrap64 (steps + 1))) _ _ _ rfl
def rErr (left at_ m : Int) : Int := if left = 0 then 3 else if at_ < 0 ∨ m ≤ at_ then 2 else 0
set_option maxHeartbeats 800000 in
theorem rerror_calls (h : RDev w d p0 p1 p2 p3 n cs since left steps) (at_ m : Int) :
    Calls Tryd.prog 72 #[.pointer (some ⟨d, 0, none⟩), .int .i64 at_, .int .i64 m] w fun e w' => e = .returned (.int .i64 (rErr left at_ m)) ∧ w = w' := by
  have c6 := h.cell 6
  simp at c6
  clear h
  unfold rErr
  by_cases hl : left = 0
  · rw [if_pos hl]
    subst hl
    go_enter Tryd.func72, Tryd.ntmps72
    go_wp2
    go_ret
    exact ⟨rfl, rfl⟩
  · rw [if_neg hl]
    by_cases h1 : at_ < 0
    · rw [if_pos (.inl h1)]
      go_enter Tryd.func72, Tryd.ntmps72
      go_wp2
      go_ret
      exact ⟨rfl, rfl⟩
    · by_cases h2 : m ≤ at_
      · rw [if_pos (.inr h2)]
        go_enter Tryd.func72, Tryd.ntmps72
        go_wp2
        go_ret
        exact ⟨rfl, rfl⟩
      · rw [if_neg (by omega)]
        go_enter Tryd.func72, Tryd.ntmps72
        go_wp2
        go_ret
        exact ⟨rfl, rfl⟩
end
end Go.Proofs.YtfpdikhdfcppeaaDoor
