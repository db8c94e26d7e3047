/- The plain law of the reference's Add. No Go text in sight. -/
import Derived.Test.YtfpdikhdfcppeaaDoorM6
import Derived.Test.YtfpdikhdfcppeaaDoorF8
namespace Go.Proofs.YtfpdikhdfcppeaaDoor
open Go.RowKit Go.Proofs

theorem posDown_part (A B : List Int) (x : Int) (hA : ∀ a ∈ A, ¬ x < a) (hB : ∀ b ∈ B, x < b) (k : Nat) (hk : k ≤ B.length) : posDown (A ++ B) x (A.length + k) = A.length := by
  induction k with
  | zero =>
    rw [Nat.add_zero]
    cases hl : A.length with
    | zero => rfl
    | succ m =>
      unfold posDown
      have hm : m < A.length := by omega
      have : (A ++ B).getD m 0 = A[m] := by rw [getD_lt _ _ (by rw [List.length_append]; omega), List.getElem_append_left hm]
      rw [this, if_neg (hA _ (List.getElem_mem hm))]
  | succ k ih =>
    show posDown (A ++ B) x (A.length + k + 1) = _
    unfold posDown
    have hm : k < B.length := by omega
    have : (A ++ B).getD (A.length + k) 0 = B[k] := by
      rw [getD_lt _ _ (by rw [List.length_append]; omega), List.getElem_append_right (by omega)]
      simp
    rw [this, if_pos (hB _ (List.getElem_mem hm)), ih (by omega)]
theorem insAt_part (A B : List Int) (x : Int) (hA : ∀ a ∈ A, ¬ x < a) (hB : ∀ b ∈ B, x < b) : insAt (A ++ B) x = A ++ [x] ++ B := by
  unfold insAt
  rw [List.length_append, posDown_part A B x hA hB B.length (Nat.le_refl _)]
  simp
theorem range_cut (n g : Nat) (h : g < n) : List.range n = List.range g ++ g :: List.range' (g + 1) (n - g - 1) := by
  rw [List.range_eq_range', List.range_eq_range']
  have h1 := List.range'_append (s := 0) (m := g) (n := n - g) (step := 1)
  rw [show g + (n - g) = n by omega] at h1
  rw [← h1]
  congr 1
  rw [show 0 + 1 * g = g by omega, show n - g = (n - g - 1) + 1 by omega, List.range'_succ]
  simp
theorem ups_add (n M g : Nat) (h : g < n) (hb : M.testBit g = false) : insAt (ups n M) g = ups n (addOne n M g) := by
  have key : ∀ S : Nat, ups n S = ((List.range g).filter fun i => S.testBit i).map Int.ofNat ++ (if S.testBit g = true then [(g : Int)] else []) ++ ((List.range' (g + 1) (n - g - 1)).filter fun i => S.testBit i).map Int.ofNat := by
    intro S
    unfold ups bitsUp
    rw [range_cut n g h, List.filter_append, List.map_append, List.filter_cons]
    split <;> simp
  have hbit : ∀ i, (addOne n M g).testBit i = (M.testBit i || decide (i = g)) := by
    intro i
    unfold addOne
    rw [if_pos (by omega), or_bit]
    simp
  rw [key M, key (addOne n M g), hb, hbit g, hb]
  simp only [Bool.false_eq_true, if_false, List.append_nil, decide_true, Bool.or_true, if_true]
  rw [insAt_part]
  · congr 1
    · congr 2
      apply List.filter_congr
      intro i hi
      have := List.mem_range.1 hi
      rw [hbit]; simp [show i ≠ g by omega]
    · congr 1
      apply List.filter_congr
      intro i hi
      have := List.mem_range'_1.1 hi
      rw [hbit]; simp [show i ≠ g by omega]
  · intro a ha
    simp only [List.mem_map, List.mem_filter, List.mem_range] at ha
    obtain ⟨i, ⟨hi, _⟩, rfl⟩ := ha
    simp; omega
  · intro a ha
    simp only [List.mem_map, List.mem_filter, List.mem_range'_1] at ha
    obtain ⟨i, ⟨hi, _⟩, rfl⟩ := ha
    simp; omega
end Go.Proofs.YtfpdikhdfcppeaaDoor
