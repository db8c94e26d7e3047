/- The plain law of what is free. No Go text in sight. -/
import Derived.Test.YtfpdikhdfcppeaaDoorM7
namespace Go.Proofs.YtfpdikhdfcppeaaDoor
open Go.RowKit Go.Proofs

/-- The numbers that are in no set. -/
def freeList (n : Nat) (S : Nat) : List Nat := (List.range n).filter fun i => !S.testBit i
theorem filter_both {α : Type} (p : α → Bool) (l : List α) : (l.filter p).length + (l.filter fun x => !p x).length = l.length := by
  induction l with
  | nil => rfl
  | cons a l ih => cases h : p a <;> simp [h] <;> omega
theorem free_length (n S : Nat) : (freeList n S).length = n - (bitsUp n S).length := by
  have h := filter_both (fun i => S.testBit i) (List.range n)
  rw [List.length_range] at h
  show ((List.range n).filter fun i => !S.testBit i).length = n - ((List.range n).filter fun i => S.testBit i).length
  omega
theorem free_head (n S : Nat) (h : 0 < (freeList n S).length) : ∃ g : Nat, (freeList n S).head? = some g ∧ gapFrom n S 0 = (g : Int) := by
  have e : (freeList n S).head? = (List.range n).find? (fun i => !S.testBit i) := by unfold freeList; rw [List.head?_filter]
  have e2 : (List.range n).find? (fun i => decide (0 ≤ i) && !S.testBit i) = (List.range n).find? (fun i => !S.testBit i) := by
    congr 1
  cases hf : (freeList n S).head? with
  | none =>
    have := List.head?_eq_none_iff.1 hf
    rw [this] at h
    simp at h
  | some g =>
    refine ⟨g, rfl, ?_⟩
    rw [e] at hf
    unfold gapFrom
    rw [e2, hf]
end Go.Proofs.YtfpdikhdfcppeaaDoor
