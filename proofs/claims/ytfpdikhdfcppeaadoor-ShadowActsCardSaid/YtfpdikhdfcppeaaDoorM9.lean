/- Words stay numbers of 64 bits. No Go text in sight. -/
import Derived.Test.YtfpdikhdfcppeaaDoorG3
namespace Go.Proofs.YtfpdikhdfcppeaaDoor
open Go.RowKit Go.Proofs

theorem Fit.modify {l : List DCell} (h : ∀ c ∈ l, 0 ≤ c.stored ∧ c.stored < 18446744073709551616) (i : Nat) (f : DCell → DCell) (hf : ∀ c : DCell, (0 ≤ c.stored ∧ c.stored < 18446744073709551616) → 0 ≤ (f c).stored ∧ (f c).stored < 18446744073709551616) : ∀ c ∈ l.modify i f, 0 ≤ c.stored ∧ c.stored < 18446744073709551616 := by
  by_cases hi : i < l.length
  · rw [modify_of_get l i f l[i] (List.getElem?_eq_getElem hi)]
    intro d hd
    rcases List.mem_or_eq_of_mem_set hd with h1 | h1
    · exact h d h1
    · subst h1; exact hf _ (h _ (List.getElem_mem _))
  · rw [List.modify_eq_self (by omega)]; exact h
theorem step_fit {D : Dev} (h : D.Fit) : D.step.Fit := by unfold Dev.Fit; rw [step_cells]; exact h
theorem store_fit {D : Dev} (h : D.Fit) (o x : Int) (hx : 0 ≤ x ∧ x < 18446744073709551616) : (D.store o x).2.Fit := by
  unfold Dev.store
  split
  · exact h
  · exact step_fit (D := { D with cells := _ }) (Fit.modify h _ _ fun _ _ => hx)
theorem stores_fit {D : Dev} (h : D.Fit) (o : Int) (l : List Int) (hl : ∀ x ∈ l, 0 ≤ x ∧ x < 18446744073709551616) : (D.stores o l).2.Fit := by
  induction l generalizing D o with
  | nil => exact h
  | cons x l ih =>
    simp only [Dev.stores]
    split
    · exact store_fit h o x (hl x (by simp))
    · exact ih (store_fit h o x (hl x (by simp))) _ (fun y hy => hl y (by simp [hy]))
theorem flushAt_fit {l : List DCell} (h : ∀ c ∈ l, 0 ≤ c.stored ∧ c.stored < 18446744073709551616) (o k : Nat) : ∀ c ∈ flushAt l o k, 0 ≤ c.stored ∧ c.stored < 18446744073709551616 := by
  induction k with
  | zero => exact h
  | succ k ih => exact Fit.modify ih _ _ fun _ hd => hd
theorem flush_fit {D : Dev} (h : D.Fit) (line : Int) : (D.flush line).2.Fit := by
  unfold Dev.flush
  split
  · exact h
  · exact step_fit (D := { D with cells := _ }) (flushAt_fit h _ _)
theorem fence_fit {D : Dev} (h : D.Fit) : D.fence.2.Fit := by
  unfold Dev.fence
  split
  · exact h
  · refine step_fit (D := { D with cells := _ }) fun d hd => ?_
    obtain ⟨c, hc, rfl⟩ := List.mem_map.1 hd
    have := h c hc
    unfold DCell.fence DCell.keep
    split <;> exact this
theorem arm_fit {D : Dev} (h : D.Fit) (n : Int) : (D.arm n).Fit := by unfold Dev.arm; split <;> exact h
theorem lay_fit {D : Dev} (h : D.Fit) (line first : Int) (l : List Int) (hl : ∀ x ∈ l, 0 ≤ x ∧ x < 18446744073709551616) : (D.lay line first l).2.Fit := by
  unfold Dev.lay
  split
  · exact stores_fit h _ _ hl
  · exact flush_fit (stores_fit h _ _ hl) _
theorem write_fit {D : Dev} (h : D.Fit) (at_ : Int) (bs : List Int) (hb : U8 bs) : (D.write at_ bs).2.Fit := by
  unfold Dev.write
  split
  · exact h
  · split
    · exact h
    · refine lay_fit h _ _ _ fun x hx => ?_
      simp only [wordsOf, List.mem_map] at hx
      obtain ⟨i, _, rfl⟩ := hx
      have hh := leWord_bound ((bs.drop (8 * i)).take 8) fun y hy => hb y (List.mem_of_mem_drop (List.mem_of_mem_take hy))
      refine ⟨hh.1, Int.lt_of_lt_of_le hh.2 ?_⟩
      have hl : ((bs.drop (8 * i)).take 8).length ≤ 8 := by rw [List.length_take]; omega
      generalize ((bs.drop (8 * i)).take 8).length = k at hl
      have hc : k = 0 ∨ k = 1 ∨ k = 2 ∨ k = 3 ∨ k = 4 ∨ k = 5 ∨ k = 6 ∨ k = 7 ∨ k = 8 := by omega
      rcases hc with e | e | e | e | e | e | e | e | e <;> rw [e] <;> decide
theorem new_fit (n : Nat) : (Dev.new n).Fit := by
  intro d hd
  simp only [Dev.new, List.mem_replicate] at hd
  rw [hd.2]; exact ⟨by simp, by simp⟩
theorem shWritten_fit {D : Dev} (h : D.Fit) (at_ : Int) (bs : List Int) (hb : U8 bs) : (shWritten D at_ bs).2.2.Fit := by
  unfold shWritten
  split <;> exact write_fit h _ _ hb
theorem shMake_fit {n : Nat} {r : Int} {D : Dev} {M : Nat → Nat} (h : D.Fit) (bs : List Int) (hb : U8 bs) : (shMake n r D M bs).2.2.1.Fit := by
  unfold shMake
  split
  · exact h
  · split
    · exact h
    · exact shWritten_fit h _ _ hb
theorem shTurn_fit {n : Nat} {r : Int} {D : Dev} {M : Nat → Nat} (h : D.Fit) (at_ : Int) (bs : List Int) (hb : U8 bs) : (shTurn n r D M at_ bs).2.2.1.Fit := by
  unfold shTurn
  split
  · exact h
  · split
    · exact shWritten_fit h _ _ hb
    · split
      · exact shMake_fit h _ hb
      · exact shMake_fit h _ hb
end Go.Proofs.YtfpdikhdfcppeaaDoor
