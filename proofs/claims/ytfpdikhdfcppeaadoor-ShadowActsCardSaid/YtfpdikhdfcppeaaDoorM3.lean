/- The plain model of the store, with power: what is written where, what is read. No Go text in sight. -/
import Derived.Test.YtfpdikhdfcppeaaDoorB3
namespace Go.Proofs.YtfpdikhdfcppeaaDoor
open Go.RowKit Go.Proofs

/-- The power is on, and stays. -/
def Dev.Live (D : Dev) : Prop := D.off = false ∧ D.armed = false
theorem step_live {D : Dev} (h : D.Live) : D.step = { D with steps := wrap64 (D.steps + 1) } := by unfold Dev.step; rw [if_neg (by simp [h.2])]
theorem step_isLive {D : Dev} (h : D.Live) : D.step.Live := by rw [step_live h]; exact h
theorem store_live {D : Dev} (h : D.Live) (i : Nat) (x : Int) (hi : i < D.cells.length) :
    (D.store i x).1 = 0 ∧ (D.store i x).2.Live ∧ (D.store i x).2.cells = D.cells.modify i fun c => { c with stored := x } := by
  have hm : D.may i D.cells.length = 0 := by unfold Dev.may; rw [if_neg (by simp [h.1]), if_neg (by omega)]
  unfold Dev.store
  rw [if_neg (by simp [hm])]
  refine ⟨rfl, step_isLive (D := { D with cells := _ }) h, ?_⟩
  rw [step_cells]
  rfl
theorem modify_get {α : Type} (l : List α) (i : Nat) (f : α → α) (j : Nat) : (l.modify i f)[j]? = (l[j]?).map fun c => if j = i then f c else c := by
  rw [List.getElem?_modify]
  by_cases h : i = j
  · subst h; cases l[i]? <;> simp
  · have h2 : ¬ j = i := fun e => h e.symm
    cases l[j]? <;> simp [h, h2]
theorem stores_live {D : Dev} (h : D.Live) (o : Nat) (l : List Int) (hl : o + l.length ≤ D.cells.length) :
    (D.stores o l).1 = 0 ∧ (D.stores o l).2.Live ∧ (D.stores o l).2.cells.length = D.cells.length ∧
    ∀ j, (D.stores o l).2.cells[j]? = (D.cells[j]?).map fun c => if o ≤ j ∧ j < o + l.length then { c with stored := l.getD (j - o) 0 } else c := by
  induction l generalizing D o with
  | nil =>
    refine ⟨rfl, h, rfl, fun j => ?_⟩
    simp only [Dev.stores, List.length_nil, Nat.add_zero]
    cases D.cells[j]? with
    | none => rfl
    | some c => simp; omega
  | cons x l ih =>
    simp only [List.length_cons] at hl
    obtain ⟨h1, h2, h3⟩ := store_live h o x (by omega)
    have hs : D.stores o (x :: l) = (D.store o x).2.stores ((o + 1 : Nat) : Int) l := by
      simp only [Dev.stores]
      rw [if_neg (by simp [h1])]
      rfl
    have hlen : (D.store o x).2.cells.length = D.cells.length := store_length D o x
    obtain ⟨k1, k2, k3, k4⟩ := ih h2 (o + 1) (by omega)
    rw [hs]
    refine ⟨k1, k2, by rw [k3, hlen], fun j => ?_⟩
    rw [k4, h3, modify_get]
    cases D.cells[j]? with
    | none => rfl
    | some c =>
      simp only [Option.map_some, Option.some.injEq, List.length_cons]
      by_cases e : j = o
      · subst e
        rw [if_neg (by omega), if_pos rfl, if_pos (by omega)]
        simp
      · rw [if_neg e]
        by_cases e2 : o + 1 ≤ j ∧ j < o + 1 + l.length
        · rw [if_pos e2, if_pos (by omega)]
          congr 1
          rw [show j - o = (j - (o + 1)) + 1 by omega]
          simp
        · rw [if_neg e2, if_neg (by omega)]
theorem flushAt_get (l : List DCell) (o k j : Nat) : (flushAt l o k)[j]? = (l[j]?).map fun c => if o ≤ j ∧ j < o + k then { c with sent := c.stored, flushed := true } else c := by
  induction k with
  | zero =>
    simp only [flushAt, Nat.add_zero]
    cases l[j]? with
    | none => rfl
    | some c => simp; omega
  | succ k ih =>
    simp only [flushAt]
    rw [modify_get, ih]
    cases l[j]? with
    | none => rfl
    | some c =>
      simp only [Option.map_some, Option.some.injEq]
      by_cases e : j = o + k
      · subst e; rw [if_pos rfl, if_neg (by omega), if_pos (by omega)]
      · rw [if_neg e]
        by_cases e2 : o ≤ j ∧ j < o + k
        · rw [if_pos e2, if_pos (by omega)]
        · rw [if_neg e2, if_neg (by omega)]
theorem flush_live {D : Dev} (h : D.Live) (k : Nat) (hk : k < D.cells.length / 8) :
    (D.flush k).1 = 0 ∧ (D.flush k).2.Live ∧ (D.flush k).2.cells = flushAt D.cells (k * 8) 8 := by
  have hm : D.may k ((D.cells.length / 8 : Nat) : Int) = 0 := by unfold Dev.may; rw [if_neg (by simp [h.1]), if_neg (by omega)]
  unfold Dev.flush
  rw [if_neg (fun h => h hm)]
  refine ⟨rfl, step_isLive (D := { D with cells := _ }) h, ?_⟩
  rw [step_cells]
  rfl
/-- What a word is behind a write of its line. -/
def DCell.put (c : DCell) (x : Int) : DCell := { lasts := c.lasts, stored := x, sent := x, flushed := true }
theorem write_live {D : Dev} (h : D.Live) (k : Nat) (hk : k < D.cells.length / 8) (bs : List Int) (hl : bs.length = 64) :
    (D.write k bs).1 = 0 ∧ (D.write k bs).2.Live ∧ (D.write k bs).2.cells.length = D.cells.length ∧
    ∀ j, (D.write k bs).2.cells[j]? = (D.cells[j]?).map fun c => if j / 8 = k then c.put ((wordsOf bs 8).getD (j % 8) 0) else c := by
  have hm : pressMay D k = 0 := by unfold pressMay; rw [if_neg (by omega)]
  have hw : (wordsOf bs 8).length = 8 := by simp [wordsOf]
  have hs := stores_live h (k * 8) (wordsOf bs 8) (by omega)
  have e : ((k : Int) * 8 + 0) = ((k * 8 : Nat) : Int) := by omega
  obtain ⟨s1, s2, s3, s4⟩ := hs
  obtain ⟨f1, f2, f3⟩ := flush_live s2 k (by rw [s3]; exact hk)
  have hwr : D.write k bs = (D.stores ((k * 8 : Nat) : Int) (wordsOf bs 8)).2.flush k := by
    unfold Dev.write Dev.lay
    rw [if_neg (by simp [hm]), if_neg (by simp [hl]), e, if_neg (fun h => h s1)]
  rw [hwr]
  refine ⟨f1, f2, by rw [f3, flushAt_length, s3], fun j => ?_⟩
  rw [f3, flushAt_get, s4]
  cases D.cells[j]? with
  | none => rfl
  | some c =>
    simp only [Option.map_some, Option.some.injEq, hw]
    by_cases e2 : k * 8 ≤ j ∧ j < k * 8 + 8
    · rw [if_pos e2, if_pos e2, if_pos (by omega), show j - k * 8 = j % 8 by omega]
      rfl
    · rw [if_neg e2, if_neg e2, if_neg (by omega)]

theorem bytes_words (bs : List Int) (n : Nat) (hl : bs.length = 8 * n) (hu : U8 bs) : bytesOf (wordsOf bs n) = bs := by
  induction n generalizing bs with
  | zero => simp at hl; subst hl; rfl
  | succ n ih =>
    have h1 : wordsOf bs (n + 1) = leWord (bs.take 8) :: wordsOf (bs.drop 8) n := by
      unfold wordsOf
      rw [List.range_succ_eq_map, List.map_cons, List.map_map]
      congr 1
      apply List.map_congr_left
      intro i _
      simp only [Function.comp, List.drop_drop]
      congr 3
      omega
    rw [h1]
    simp only [bytesOf, List.flatMap_cons]
    have h2 := ih (bs.drop 8) (by rw [List.length_drop]; omega) (fun x hx => hu x (List.mem_of_mem_drop hx))
    simp only [bytesOf] at h2
    rw [h2]
    have h3 := leBytes_leWord (bs.take 8) (fun x hx => hu x (List.mem_of_mem_take hx))
    rw [List.length_take, Nat.min_eq_left (by omega)] at h3
    rw [h3, List.take_append_drop]
theorem lineOf_get (D : Dev) (k i : Nat) (hi : i < 8) : (lineOf D k)[i]? = (D.cells[8 * k + i]?).map DCell.stored := by
  unfold lineOf
  rw [List.getElem?_map, List.getElem?_take, if_pos hi, List.getElem?_drop]
theorem lineOf_length (D : Dev) (k : Nat) (hk : k < D.cells.length / 8) : (lineOf D k).length = 8 := by unfold lineOf; simp; omega
/-- A line behind a write. -/
theorem write_line {D : Dev} (h : D.Live) (k : Nat) (hk : k < D.cells.length / 8) (bs : List Int) (hl : bs.length = 64) (m : Nat) (hm : m < D.cells.length / 8) :
    lineOf (D.write k bs).2 m = if m = k then wordsOf bs 8 else lineOf D m := by
  obtain ⟨_, _, hlen, hc⟩ := write_live h k hk bs hl
  have hw : (wordsOf bs 8).length = 8 := by simp [wordsOf]
  apply List.ext_getElem?
  intro i
  by_cases hi : i < 8
  · rw [lineOf_get _ _ _ hi, hc]
    have hlt : 8 * m + i < D.cells.length := by omega
    rw [List.getElem?_eq_getElem hlt]
    simp only [Option.map_some]
    rw [show (8 * m + i) / 8 = m by omega, show (8 * m + i) % 8 = i by omega]
    split
    · rename_i e; rw [List.getElem?_eq_getElem (by omega : i < (wordsOf bs 8).length), getD_lt _ _ (by omega : i < (wordsOf bs 8).length)]; rfl
    · rw [lineOf_get _ _ _ hi, List.getElem?_eq_getElem hlt]; rfl
  · rw [List.getElem?_eq_none (by rw [lineOf_length _ _ (by rw [hlen]; exact hm)]; omega)]
    split
    · rw [List.getElem?_eq_none (by omega)]
    · rw [List.getElem?_eq_none (by rw [lineOf_length _ _ hm]; omega)]
theorem read_live {D : Dev} (h : D.Live) (k : Nat) (hk : k < D.cells.length / 8) : D.read k = (bytesOf (lineOf D k), 0) := by
  have hm : pressMay D k = 0 := by unfold pressMay; rw [if_neg (by omega)]
  unfold Dev.read
  rw [if_neg (by simp [hm]), if_neg (by simp [h.1])]
  rfl
theorem new_live (n : Nat) : (Dev.new n).Live := ⟨rfl, rfl⟩
theorem shWritten_live {D : Dev} (h : D.Live) (k : Nat) (hk : k < D.cells.length / 8) (bs : List Int) (hl : bs.length = 64) : shWritten D k bs = ((k : Int), 0, (D.write k bs).2) := by
  unfold shWritten
  rw [if_neg (by simp [(write_live h k hk bs hl).1])]
end Go.Proofs.YtfpdikhdfcppeaaDoor
