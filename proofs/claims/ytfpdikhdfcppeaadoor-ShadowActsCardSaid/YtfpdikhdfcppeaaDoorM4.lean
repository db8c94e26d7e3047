/- The plain laws of the store's acts: what they leave alone. No Go text in sight. -/
import Derived.Test.YtfpdikhdfcppeaaDoorC3
namespace Go.Proofs.YtfpdikhdfcppeaaDoor
open Go.RowKit Go.Proofs

theorem gap_free (n S : Nat) (h : (bitsUp n S).length < n) : ∃ g : Nat, g < n ∧ gapFrom n S 0 = g ∧ S.testBit g = false := by
  unfold gapFrom
  cases hf : (List.range n).find? (fun i => decide (0 ≤ i) && !S.testBit i) with
  | none =>
    exfalso
    rw [List.find?_eq_none] at hf
    have e : bitsUp n S = List.range n := by
      unfold bitsUp
      rw [List.filter_eq_self]
      intro i hi
      have := hf i hi
      simpa using this
    rw [e] at h
    simp at h
  | some g =>
    have h1 := List.find?_some hf
    have h2 := List.mem_of_find?_eq_some hf
    exact ⟨g, List.mem_range.1 h2, rfl, by simpa using h1⟩
theorem orTo_bit (M : Nat → Nat) (g : Nat) (h : (orTo M 3).testBit g = false) : (M 3).testBit g = false ∧ (M 0).testBit g = false ∧ (M 1).testBit g = false ∧ (M 2).testBit g = false := by
  simp only [orTo, Nat.testBit_or, Bool.or_eq_false_iff] at h
  exact ⟨h.1.1.1, h.1.1.2, h.1.2, h.2⟩

/-- The power is on, and there are n lines. -/
def Inv (n : Nat) (D : Dev) : Prop := D.Live ∧ D.cells.length = n * 8
theorem Inv.write {n : Nat} {D : Dev} (h : Inv n D) {k : Nat} (hk : k < n) {bs : List Int} (hl : bs.length = 64) :
    (D.write k bs).1 = 0 ∧ Inv n (D.write k bs).2 ∧ ∀ m, m < n → lineOf (D.write k bs).2 m = if m = k then wordsOf bs 8 else lineOf D m := by
  have hk' : k < D.cells.length / 8 := by rw [h.2]; omega
  obtain ⟨a, b, c, _⟩ := write_live h.1 k hk' bs hl
  exact ⟨a, ⟨b, by rw [c]; exact h.2⟩, fun m hm => write_line h.1 k hk' bs hl m (by rw [h.2]; omega)⟩
theorem Inv.read {n : Nat} {D : Dev} (h : Inv n D) {k : Nat} (hk : k < n) : D.read k = (bytesOf (lineOf D k), 0) := read_live h.1 k (by rw [h.2]; omega)
theorem Inv.new (n : Nat) : Inv n (Dev.new (n * 8)) := ⟨new_live _, by simp [Dev.new]⟩
theorem fence_live {D : Dev} (h : D.Live) : D.fence.1 = 0 ∧ D.fence.2.Live ∧ D.fence.2.cells = D.cells.map DCell.fence := by
  unfold Dev.fence
  rw [if_neg (by simp [h.1])]
  refine ⟨rfl, step_isLive (D := { D with cells := _ }) h, ?_⟩
  rw [step_cells]
theorem Inv.fence {n : Nat} {D : Dev} (h : Inv n D) : Inv n D.fence.2 ∧ ∀ m, lineOf D.fence.2 m = lineOf D m := by
  obtain ⟨_, b, c⟩ := fence_live h.1
  refine ⟨⟨b, by rw [c, List.length_map]; exact h.2⟩, fun m => ?_⟩
  unfold lineOf
  rw [c, ← List.map_drop, ← List.map_take, List.map_map]
  apply List.map_congr_left
  intro d _
  simp only [Function.comp, DCell.fence, DCell.keep]
  split <;> rfl

/-- What a turn of the store may do: nothing; or a write to a place that is g. -/
inductive Wrote (n : Nat) (D : Dev) (M : Nat → Nat) (D' : Dev) (M' : Nat → Nat) : Prop where
  | none (hD : D' = D) (hM : M' = M)
  | new (g : Nat) (bs : List Int) (hg : g < n) (hfree : (orTo M 3).testBit g = false) (hl : bs.length = 64) (hD : D' = (D.write g bs).2) (hM : M' = upd M 3 (addOne n (M 3) g))
  | over (g : Nat) (bs : List Int) (hg : g < n) (hw : (M 3).testBit g = true) (hm : (M 2).testBit g = false) (hl : bs.length = 64) (hD : D' = (D.write g bs).2) (hM : M' = M)
  | copy (g o : Nat) (bs : List Int) (hg : g < n) (ho : o < n) (hfree : (orTo M 3).testBit g = false) (hw : (M 3).testBit o = true) (hl : bs.length = 64) (hD : D' = (D.write g bs).2) (hM : M' = upd M 3 (dropOne n (addOne n (M 3) g) o))
  | drop (o : Nat) (ho : o < n) (hw : (M 3).testBit o = true) (hD : D' = D) (hM : M' = upd M 3 (dropOne n (M 3) o))

theorem make_cases {n : Nat} {r : Int} {D : Dev} {M : Nat → Nat} (h : Inv n D) (hr : 0 ≤ r) (bs : List Int) :
    ((shMake n r D M bs).2.1 ≠ 0 ∧ (shMake n r D M bs).2.2.1 = D ∧ (shMake n r D M bs).2.2.2 = M) ∨
    ∃ g : Nat, g < n ∧ (orTo M 3).testBit g = false ∧ bs.length = 64 ∧ shMake n r D M bs = ((g : Int), 0, (D.write g bs).2, upd M 3 (addOne n (M 3) g)) := by
  unfold shMake
  by_cases hl : bs.length = 64
  · rw [if_neg (by simp [hl])]
    by_cases hc : (n : Int) - ((bitsUp n (orTo M 3)).length : Nat) ≤ r
    · have ht : mTake n M r = (0, 10, M) := by unfold mTake; rw [if_pos hc]
      left
      rw [ht, if_pos (by simp)]
      exact ⟨by simp, rfl, rfl⟩
    · obtain ⟨g, hg, hgap, hfree⟩ := gap_free n (orTo M 3) (by omega)
      have ht : mTake n M r = ((g : Int), 0, upd M 3 (addOne n (M 3) g)) := by unfold mTake; rw [if_neg hc, hgap]
      right
      refine ⟨g, hg, hfree, hl, ?_⟩
      rw [ht, if_neg (by simp)]
      have := shWritten_live h.1 g (by rw [h.2]; omega) bs hl
      rw [this]
  · left
    rw [if_pos hl]
    exact ⟨by simp, rfl, rfl⟩
theorem make_wrote {n : Nat} {r : Int} {D : Dev} {M : Nat → Nat} (h : Inv n D) (hr : 0 ≤ r) (bs : List Int) : Wrote n D M (shMake n r D M bs).2.2.1 (shMake n r D M bs).2.2.2 := by
  rcases make_cases h hr (M := M) bs with ⟨_, h1, h2⟩ | ⟨g, hg, hf, hl, e⟩
  · exact .none h1 h2
  · rw [e]; exact .new g bs hg hf hl rfl rfl
theorem hasBit_nat {n S : Nat} {a : Int} (h : hasBit n S a = true) : ∃ k : Nat, a = k ∧ k < n ∧ S.testBit k = true := by
  unfold hasBit at h
  simp only [Bool.and_eq_true, decide_eq_true_eq] at h
  obtain ⟨⟨h0, h1⟩, h2⟩ := h
  exact ⟨a.toNat, by omega, by omega, h2⟩
theorem hasBit_of {n S k : Nat} (hk : k < n) (h : S.testBit k = true) : hasBit n S k = true := by unfold hasBit; simp [h, hk]
theorem turn_wrote {n : Nat} {r : Int} {D : Dev} {M : Nat → Nat} (h : Inv n D) (hr : 0 ≤ r) (at_ : Int) (bs : List Int) : Wrote n D M (shTurn n r D M at_ bs).2.2.1 (shTurn n r D M at_ bs).2.2.2 := by
  unfold shTurn
  by_cases hc : bs.length ≠ 64 ∨ hasBit n (M 3) at_ = false
  · rw [if_pos hc]; exact .none rfl rfl
  · rw [if_neg hc]
    have hl : bs.length = 64 := by
      by_cases hl : bs.length = 64
      · exact hl
      · exact absurd (.inl hl) hc
    have hb : hasBit n (M 3) at_ = true := by
      cases hb : hasBit n (M 3) at_
      · exact absurd (.inr hb) hc
      · rfl
    obtain ⟨k, rfl, hk, hw⟩ := hasBit_nat hb
    by_cases ho : (hasBit n (M 3) k && !hasBit n (M 2) k) = true
    · rw [if_pos ho]
      have h2 : (M 2).testBit k = false := by
        cases h2 : (M 2).testBit k with
        | false => rfl
        | true => rw [hasBit_of hk h2] at ho; simp at ho
      have := shWritten_live h.1 k (by rw [h.2]; omega) bs hl
      rw [this]
      exact .over k bs hk hw h2 hl rfl rfl
    · rw [if_neg ho]
      rcases make_cases h hr (M := M) bs with ⟨h0, h1, h2⟩ | ⟨g, hg, hf, hl, e⟩
      · rw [if_pos h0, h1, h2]; exact .none rfl rfl
      · rw [e, if_neg (by simp)]
        have hgk : g ≠ k := fun e => by subst e; rw [(orTo_bit M g hf).1] at hw; cases hw
        have hbit : (addOne n (M 3) g).testBit k = true := by
          unfold addOne
          split
          · rw [or_bit, hw]; rfl
          · exact hw
        have hgv : mGive n (upd M 3 (addOne n (M 3) g)) k = (0, upd (upd M 3 (addOne n (M 3) g)) 3 (dropOne n (addOne n (M 3) g) k)) := by
          unfold mGive
          rw [if_pos (by show hasBit n (addOne n (M 3) g) k = true; exact hasBit_of hk hbit)]
          rfl
        simp only [hgv]
        refine .copy g k bs hg hk hf hw hl rfl ?_
        funext j
        simp only [upd]
        split <;> rfl
theorem give_wrote {n : Nat} {D : Dev} {M : Nat → Nat} (at_ : Int) : Wrote n D M D (mGive n M at_).2 := by
  unfold mGive
  split
  · rename_i hb
    obtain ⟨k, rfl, hk, hw⟩ := hasBit_nat hb
    exact .drop k hk hw rfl rfl
  · exact .none rfl rfl

/-- The mark stays, and what is marked has its octets. -/
structure KeepsMark (n : Nat) (D : Dev) (M : Nat → Nat) (D' : Dev) (M' : Nat → Nat) : Prop where
  inv : Inv n D'
  sets : ∀ j, j ≠ 3 → M' j = M j
  lines : ∀ k, k < n → (M 2).testBit k = true → lineOf D' k = lineOf D k
theorem KeepsMark.refl {n : Nat} {D : Dev} {M : Nat → Nat} (h : Inv n D) : KeepsMark n D M D M := ⟨h, fun _ _ => rfl, fun _ _ _ => rfl⟩
theorem KeepsMark.trans {n : Nat} {D D1 D2 : Dev} {M M1 M2 : Nat → Nat} (h : KeepsMark n D M D1 M1) (h' : KeepsMark n D1 M1 D2 M2) : KeepsMark n D M D2 M2 :=
  ⟨h'.inv, fun j hj => (h'.sets j hj).trans (h.sets j hj), fun k hk hm => (h'.lines k hk (by rw [h.sets 2 (by omega)]; exact hm)).trans (h.lines k hk hm)⟩
theorem Wrote.keepsMark {n : Nat} {D D' : Dev} {M M' : Nat → Nat} (h : Inv n D) (hw : Wrote n D M D' M') : KeepsMark n D M D' M' := by
  have key : ∀ (g : Nat) (bs : List Int), g < n → bs.length = 64 → (M 2).testBit g = false → Inv n (D.write g bs).2 ∧ ∀ k, k < n → (M 2).testBit k = true → lineOf (D.write g bs).2 k = lineOf D k := by
    intro g bs hg hl hm
    obtain ⟨_, i2, i3⟩ := h.write hg hl
    refine ⟨i2, fun k hk hk2 => ?_⟩
    rw [i3 k hk, if_neg (fun e => by subst e; rw [hm] at hk2; cases hk2)]
  have hu : ∀ x : Nat, ∀ j, j ≠ 3 → upd M 3 x j = M j := fun x j hj => by simp only [upd, if_neg hj]
  cases hw with
  | none hD hM => subst hD; subst hM; exact KeepsMark.refl h
  | new g bs hg hf hl hD hM => subst hD; subst hM; obtain ⟨a, b⟩ := key g bs hg hl (orTo_bit M g hf).2.2.2; exact ⟨a, hu _, b⟩
  | over g bs hg hw hm hl hD hM => subst hD; subst hM; obtain ⟨a, b⟩ := key g bs hg hl hm; exact ⟨a, fun _ _ => rfl, b⟩
  | copy g o bs hg ho hf hw hl hD hM => subst hD; subst hM; obtain ⟨a, b⟩ := key g bs hg hl (orTo_bit M g hf).2.2.2; exact ⟨a, hu _, b⟩
  | drop o ho hw hD hM => subst hD; subst hM; exact ⟨h, hu _, fun _ _ _ => rfl⟩
theorem doAct_low {n : Nat} {r : Int} {D : Dev} {M : Nat → Nat} (h : Inv n D) (hr : 0 ≤ r) (x : GAct) (hx : x.kind % 10 < 3) : KeepsMark n D M (doAct n r (D, M) x).1 (doAct n r (D, M) x).2 := by
  unfold doAct
  have h0 : x.kind % 10 = 0 ∨ x.kind % 10 = 1 ∨ x.kind % 10 = 2 := by omega
  rcases h0 with e | e | e
  · rw [if_pos e]; exact (make_wrote h hr x.bs).keepsMark h
  · rw [if_neg (by omega), if_pos e]; exact (turn_wrote h hr x.at_ x.bs).keepsMark h
  · rw [if_neg (by omega), if_neg (by omega), if_pos e]; exact (give_wrote x.at_).keepsMark h
theorem doAct_inv {n : Nat} {r : Int} {D : Dev} {M : Nat → Nat} (h : Inv n D) (hr : 0 ≤ r) (x : GAct) : Inv n (doAct n r (D, M) x).1 := by
  by_cases hx : x.kind % 10 < 3
  · exact (doAct_low h hr x hx).inv
  · unfold doAct
    rw [if_neg (by omega), if_neg (by omega), if_neg (by omega)]
    split
    · exact h.fence.1
    · split
      · exact h
      · split
        · exact h
        · split <;> exact h
end Go.Proofs.YtfpdikhdfcppeaaDoor
