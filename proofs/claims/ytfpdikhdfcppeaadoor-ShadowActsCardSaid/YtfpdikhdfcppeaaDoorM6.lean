/- The plain laws of the reference's rising lists. No Go text in sight. -/
import Derived.Test.YtfpdikhdfcppeaaDoorM5
namespace Go.Proofs.YtfpdikhdfcppeaaDoor
open Go.RowKit Go.Proofs

theorem ups_drop (n M g : Nat) (hg : g < n) : (ups n M).filter (fun y => y != (g : Int)) = ups n (dropOne n M g) := by
  unfold ups bitsUp
  rw [List.filter_map, List.filter_filter]
  congr 1
  apply List.filter_congr
  intro i _
  unfold dropOne
  rw [if_pos (by omega), clr_bit]
  simp only [Function.comp, Int.toNat_natCast]
  by_cases e : i = g
  · subst e; simp
  · have : ((i : Int) != (g : Int)) = true := by simp; omega
    simp [this, e]
theorem has_ups (n M : Nat) (x : Int) : (ups n M).contains x = hasBit n M x := by
  rw [Bool.eq_iff_iff, List.contains_iff_mem]
  unfold hasBit
  simp only [Bool.and_eq_true, decide_eq_true_eq]
  constructor
  · intro h
    unfold ups bitsUp at h
    simp only [List.mem_map, List.mem_filter, List.mem_range] at h
    obtain ⟨j, ⟨h1, h2⟩, rfl⟩ := h
    have e : Int.ofNat j = (j : Int) := rfl
    rw [e]
    exact ⟨⟨by omega, by omega⟩, by simpa using h2⟩
  · rintro ⟨⟨h1, h2⟩, h3⟩
    have := (mem_ups n M x.toNat).2 ⟨by omega, h3⟩
    rwa [show ((x.toNat : Nat) : Int) = x by omega] at this
end Go.Proofs.YtfpdikhdfcppeaaDoor
