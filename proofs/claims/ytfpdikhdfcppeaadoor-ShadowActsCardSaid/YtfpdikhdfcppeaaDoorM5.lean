/- The plain laws of the store: what is committed, or elder, keeps what it has, whatever crash comes. No Go text in sight. -/
import Derived.Test.YtfpdikhdfcppeaaDoorM4
namespace Go.Proofs.YtfpdikhdfcppeaaDoor
open Go.RowKit Go.Proofs

/-- A word that a crash can't turn. -/
def DCell.Shut (c : DCell) : Prop := c.flushed = false ∧ c.stored = c.lasts
def DCell.Calm (c : DCell) : Prop := (c.flushed = true ∧ c.sent = c.stored) ∨ c.Shut
def Dev.Calm (D : Dev) : Prop := ∀ (j : Nat) (c : DCell), D.cells[j]? = some c → c.Calm
theorem Dev.Calm.new (n : Nat) : (Dev.new n).Calm := by
  intro j c h
  simp only [Dev.new] at h
  rw [List.getElem?_replicate] at h
  split at h
  · obtain rfl := Option.some.inj h
    exact .inr ⟨rfl, rfl⟩
  · cases h
theorem DCell.Calm.fence {c : DCell} (h : c.Calm) : c.fence.Shut := by
  rcases h with ⟨h1, h2⟩ | ⟨h1, h2⟩
  · unfold DCell.fence DCell.keep DCell.Shut
    rw [if_pos h1]
    exact ⟨rfl, h2.symm⟩
  · unfold DCell.fence DCell.Shut
    rw [if_neg (by simp [h1])]
    exact ⟨h1, h2⟩
theorem DCell.Shut.fence {c : DCell} (h : c.Shut) : c.fence = c := by
  unfold DCell.fence
  rw [if_neg (by simp [h.1])]
theorem Dev.Calm.fence {D : Dev} (hl : D.Live) (h : D.Calm) : ∀ (j : Nat) (c : DCell), D.fence.2.cells[j]? = some c → c.Shut := by
  intro j c hc
  rw [(fence_live hl).2.2, List.getElem?_map] at hc
  cases hj : D.cells[j]? with
  | none => rw [hj] at hc; cases hc
  | some d =>
    rw [hj] at hc
    obtain rfl := Option.some.inj hc
    exact (h j d hj).fence
theorem Dev.Calm.write {n : Nat} {D : Dev} (hi : Inv n D) (h : D.Calm) {g : Nat} (hg : g < n) {bs : List Int} (hl : bs.length = 64) : (D.write g bs).2.Calm := by
  intro j c hc
  rw [(write_live hi.1 g (by rw [hi.2]; omega) bs hl).2.2.2] at hc
  cases hj : D.cells[j]? with
  | none => rw [hj] at hc; cases hc
  | some d =>
    rw [hj] at hc
    simp only [Option.map_some, Option.some.injEq] at hc
    split at hc
    · subst hc; exact .inl ⟨rfl, rfl⟩
    · subst hc; exact h j d hj
theorem Wrote.calm {n : Nat} {D D' : Dev} {M M' : Nat → Nat} (hi : Inv n D) (h : D.Calm) (hw : Wrote n D M D' M') : D'.Calm := by
  cases hw with
  | none hD hM => subst hD; exact h
  | new g bs hg hf hl hD hM => subst hD; exact h.write hi hg hl
  | over g bs hg hw hm hl hD hM => subst hD; exact h.write hi hg hl
  | copy g o bs hg ho hf hw hl hD hM => subst hD; exact h.write hi hg hl
  | drop o ho hw hD hM => subst hD; exact h

/-- What an act does. -/
inductive Did (n : Nat) (D : Dev) (M : Nat → Nat) (D' : Dev) (M' : Nat → Nat) : Prop where
  | wrote (h : Wrote n D M D' M')
  | sure (hD : D' = D.fence.2) (hM : M' = M)
  | mark (hD : D' = D) (hM : M' = mMark M)
  | back (hD : D' = D) (hM : M' = mBack M)
  | abort (hD : D' = D) (hM : M' = mAbort M)
theorem doAct_did {n : Nat} {r : Int} {D : Dev} {M : Nat → Nat} (h : Inv n D) (hr : 0 ≤ r) (x : GAct) : Did n D M (doAct n r (D, M) x).1 (doAct n r (D, M) x).2 := by
  unfold doAct
  split
  · exact .wrote (make_wrote h hr x.bs)
  split
  · exact .wrote (turn_wrote h hr x.at_ x.bs)
  split
  · exact .wrote (give_wrote x.at_)
  split
  · exact .sure rfl rfl
  split
  · exact .mark rfl rfl
  split
  · exact .back rfl rfl
  split
  · exact .abort rfl rfl
  · exact .wrote (.none rfl rfl)
theorem Did.calm {n : Nat} {D D' : Dev} {M M' : Nat → Nat} (hi : Inv n D) (h : D.Calm) (hd : Did n D M D' M') : D'.Calm := by
  cases hd with
  | wrote hw => exact hw.calm hi h
  | sure hD hM => subst hD; exact fun j c hc => .inr (h.fence hi.1 j c hc)
  | mark hD hM => subst hD; exact h
  | back hD hM => subst hD; exact h
  | abort hD hM => subst hD; exact h
theorem upd_ne (f : Nat → Nat) {i j : Nat} (x : Nat) (h : j ≠ i) : upd f i x j = f j := if_neg h
theorem upd_eq (f : Nat → Nat) (i x : Nat) : upd f i x i = x := if_pos rfl
theorem Wrote.sets {n : Nat} {D D' : Dev} {M M' : Nat → Nat} (hw : Wrote n D M D' M') : ∀ j, j ≠ 3 → M' j = M j := by
  intro j hj
  cases hw with
  | none hD hM => rw [hM]
  | new g bs hg hf hl hD hM => rw [hM, upd_ne _ _ hj]
  | over g bs hg hw hm hl hD hM => rw [hM]
  | copy g o bs hg ho hf hw hl hD hM => rw [hM, upd_ne _ _ hj]
  | drop o ho hw hD hM => rw [hM, upd_ne _ _ hj]
/-- No act turns what is committed, or elder. -/
theorem Did.sets {n : Nat} {D D' : Dev} {M M' : Nat → Nat} (hd : Did n D M D' M') : M' 0 = M 0 ∧ M' 1 = M 1 := by
  cases hd with
  | wrote hw => exact ⟨hw.sets 0 (by omega), hw.sets 1 (by omega)⟩
  | sure hD hM => rw [hM]; exact ⟨rfl, rfl⟩
  | mark hD hM => rw [hM]; exact ⟨rfl, rfl⟩
  | back hD hM => rw [hM]; exact ⟨rfl, rfl⟩
  | abort hD hM => rw [hM]; exact ⟨rfl, rfl⟩

theorem addOne_bit {n S g k : Nat} (h : (addOne n S g).testBit k = true) : k = g ∨ S.testBit k = true := by
  unfold addOne at h
  split at h
  · rw [or_bit] at h
    simp only [Int.toNat_natCast, Bool.or_eq_true, decide_eq_true_eq] at h
    exact h.symm
  · exact .inr h
theorem dropOne_bit {n S o k : Nat} (h : (dropOne n S o).testBit k = true) : S.testBit k = true := by
  unfold dropOne at h
  split at h
  · rw [clr_bit] at h
    simp only [Bool.and_eq_true] at h
    exact h.1
  · exact h
theorem bytes_drop (a : Nat) (ls : List Int) : (bytesOf ls).drop (8 * a) = bytesOf (ls.drop a) := by
  induction a generalizing ls with
  | zero => rfl
  | succ a ih =>
    cases ls with
    | nil => simp [bytesOf]
    | cons x ls =>
      rw [List.drop_succ_cons, ← ih ls]
      show ((leBytes x 8) ++ bytesOf ls).drop (8 * (a + 1)) = _
      rw [show 8 * (a + 1) = (leBytes x 8).length + 8 * a by rw [leBytes_length]; omega, List.drop_append, List.drop_eq_nil_of_le (by omega), Nat.add_sub_cancel_left, List.nil_append]
theorem bytes_take (a : Nat) (ls : List Int) : (bytesOf ls).take (8 * a) = bytesOf (ls.take a) := by
  induction a generalizing ls with
  | zero => rfl
  | succ a ih =>
    cases ls with
    | nil => simp [bytesOf]
    | cons x ls =>
      rw [List.take_succ_cons]
      show ((leBytes x 8) ++ bytesOf ls).take (8 * (a + 1)) = leBytes x 8 ++ bytesOf (ls.take a)
      rw [show 8 * (a + 1) = (leBytes x 8).length + 8 * a by rw [leBytes_length]; omega, List.take_append, List.take_of_length_le (by omega), Nat.add_sub_cancel_left, ih ls]

/-- What is committed, or elder, has what it had; and what works of it is marked. -/
structure Safe (n : Nat) (D0 : Dev) (M0 : Nat → Nat) (D : Dev) (M : Nat → Nat) : Prop where
  inv : Inv n D
  sets : M 0 = M0 0 ∧ M 1 = M0 1
  own : ∀ g, (M 3).testBit g = true → ((M 0).testBit g = true ∨ (M 1).testBit g = true) → (M 2).testBit g = true
  lines : ∀ j, ((M 0).testBit (j / 8) = true ∨ (M 1).testBit (j / 8) = true) → D.cells[j]? = D0.cells[j]?
theorem Safe.start {n : Nat} {D : Dev} {M : Nat → Nat} (h : Inv n D) : Safe n D (mCommit M) D (mCommit M) :=
  ⟨h, ⟨rfl, rfl⟩, fun g hg _ => hg, fun _ _ => rfl⟩
theorem Safe.write {n : Nat} {D0 D : Dev} {M0 M : Nat → Nat} (h : Safe n D0 M0 D M) {g : Nat} (hg : g < n) (h0 : (M 0).testBit g = false) (h1 : (M 1).testBit g = false) {bs : List Int} (hl : bs.length = 64) :
    Inv n (D.write g bs).2 ∧ ∀ j, ((M 0).testBit (j / 8) = true ∨ (M 1).testBit (j / 8) = true) → (D.write g bs).2.cells[j]? = D0.cells[j]? := by
  refine ⟨(h.inv.write hg hl).2.1, fun j hj => ?_⟩
  rw [(write_live h.inv.1 g (by rw [h.inv.2]; omega) bs hl).2.2.2, ← h.lines j hj]
  have hne : j / 8 ≠ g := fun e => by
    rw [e, h0, h1] at hj
    simp at hj
  cases D.cells[j]? with
  | none => rfl
  | some c => simp [hne]
theorem Safe.did {n : Nat} {D0 D D' : Dev} {M0 M M' : Nat → Nat} (hs : ∀ (j : Nat) (c : DCell), D0.cells[j]? = some c → c.Shut) (h : Safe n D0 M0 D M) (hd : Did n D M D' M') : Safe n D0 M0 D' M' := by
  obtain ⟨e0, e1⟩ := hd.sets
  have hsets : M' 0 = M0 0 ∧ M' 1 = M0 1 := ⟨e0.trans h.sets.1, e1.trans h.sets.2⟩
  cases hd with
  | wrote hw =>
    have e2 := hw.sets 2 (by omega)
    cases hw with
    | none hD hM => subst hD; subst hM; exact h
    | new g bs hg hf hl hD hM =>
      obtain ⟨_, f0, f1, _⟩ := orTo_bit M g hf
      obtain ⟨i, l⟩ := h.write hg f0 f1 hl
      subst hD; subst hM
      refine ⟨i, hsets, fun k hk hk2 => ?_, fun j hj => l j (by rwa [e0, e1] at hj)⟩
      rw [upd_eq] at hk
      rw [e0, e1] at hk2
      rw [e2]
      rcases addOne_bit hk with rfl | hk
      · rw [f0, f1] at hk2; simp at hk2
      · exact h.own k hk hk2
    | over g bs hg hw hm hl hD hM =>
      have hn : ¬((M 0).testBit g = true ∨ (M 1).testBit g = true) := fun hc => by
        have := h.own g hw hc
        rw [hm] at this; cases this
      have f0 : (M 0).testBit g = false := by
        cases hb : (M 0).testBit g with
        | false => rfl
        | true => exact absurd (.inl hb) hn
      have f1 : (M 1).testBit g = false := by
        cases hb : (M 1).testBit g with
        | false => rfl
        | true => exact absurd (.inr hb) hn
      obtain ⟨i, l⟩ := h.write hg f0 f1 hl
      subst hD; subst hM
      exact ⟨i, hsets, h.own, l⟩
    | copy g o bs hg ho hf hw hl hD hM =>
      obtain ⟨_, f0, f1, _⟩ := orTo_bit M g hf
      obtain ⟨i, l⟩ := h.write hg f0 f1 hl
      subst hD; subst hM
      refine ⟨i, hsets, fun k hk hk2 => ?_, fun j hj => l j (by rwa [e0, e1] at hj)⟩
      rw [upd_eq] at hk
      rw [e0, e1] at hk2
      rw [e2]
      rcases addOne_bit (dropOne_bit hk) with rfl | hk
      · rw [f0, f1] at hk2; simp at hk2
      · exact h.own k hk hk2
    | drop o ho hw hD hM =>
      subst hD; subst hM
      refine ⟨h.inv, hsets, fun k hk hk2 => ?_, fun j hj => h.lines j (by rwa [e0, e1] at hj)⟩
      rw [upd_eq] at hk
      rw [e0, e1] at hk2
      rw [e2]
      exact h.own k (dropOne_bit hk) hk2
  | sure hD hM =>
    subst hD; subst hM
    refine ⟨h.inv.fence.1, hsets, h.own, fun j hj => ?_⟩
    rw [(fence_live h.inv.1).2.2, List.getElem?_map, h.lines j hj]
    cases hc : D0.cells[j]? with
    | none => rfl
    | some c => simp [(hs j c hc).fence]
  | mark hD hM => subst hD; subst hM; exact ⟨h.inv, hsets, fun k hk _ => hk, h.lines⟩
  | back hD hM => subst hD; subst hM; exact ⟨h.inv, hsets, fun k hk _ => hk, h.lines⟩
  | abort hD hM => subst hD; subst hM; exact ⟨h.inv, hsets, fun k hk _ => hk, h.lines⟩

theorem crashTo_get (cells : List DCell) (l : List Int) (k : Nat) (hk : k ≤ cells.length) (j : Nat) (hj : j < k) : ∃ l', (crashTo cells l k).1[j]? = (cells[j]?).map fun c => c.crash l' := by
  induction k with
  | zero => omega
  | succ k ih =>
    have hk' : k < cells.length := by omega
    rw [crashTo_succ _ _ _ _ (List.getElem?_eq_getElem hk')]
    have hlen := crashTo_length cells l k (by omega)
    by_cases e : j = k
    · subst e
      refine ⟨(crashTo cells l j).2, ?_⟩
      rw [List.getElem?_append_right (by omega), hlen, Nat.sub_self, List.getElem?_eq_getElem hk']
      rfl
    · obtain ⟨l', h'⟩ := ih (by omega) (by omega)
      exact ⟨l', by rw [List.getElem?_append_left (by omega)]; exact h'⟩
theorem DCell.Shut.crash {c : DCell} (h : c.Shut) (l : List Int) : c.crash l = c := by
  unfold DCell.crash
  rw [if_neg (by simp [DCell.isOpen, h.1, h.2])]
  obtain ⟨a, b, c, d⟩ := c
  have := h.2
  simp only at this
  subst this
  rfl
theorem crash_cells_length (D : Dev) (l : List Int) : (D.crash l).cells.length = D.cells.length := crashTo_length _ _ _ (Nat.le_refl _)
/-- A crash leaves what is committed, or elder. -/
theorem Safe.crash {n : Nat} {D0 D : Dev} {M0 M : Nat → Nat} (hs : ∀ (j : Nat) (c : DCell), D0.cells[j]? = some c → c.Shut) (h : Safe n D0 M0 D M) (hl : D0.cells.length = n * 8) (l : List Int) (k : Nat) (hk : k < n) (hm : (M0 0).testBit k = true ∨ (M0 1).testBit k = true) :
    ((bytesOf ((D.crash l).cells.map DCell.lasts)).drop (64 * k)).take 64 = ((bytesOf (D0.cells.map DCell.lasts)).drop (64 * k)).take 64 := by
  have key : ∀ j, j / 8 = k → (D.crash l).cells[j]? = D0.cells[j]? := by
    intro j hj
    have hlt : j < D.cells.length := by rw [h.inv.2]; omega
    have e := h.lines j (by rw [hj, h.sets.1, h.sets.2]; exact hm)
    obtain ⟨l', h'⟩ := crashTo_get D.cells l D.cells.length (Nat.le_refl _) j hlt
    show (crashTo D.cells l D.cells.length).1[j]? = _
    rw [h', e]
    cases hc : D0.cells[j]? with
    | none => rfl
    | some c => simp [(hs j c hc).crash]
  have part : ∀ ls : List Int, ((bytesOf ls).drop (64 * k)).take 64 = bytesOf ((ls.drop (8 * k)).take 8) := by
    intro ls
    rw [show 64 * k = 8 * (8 * k) by omega, bytes_drop, show 64 = 8 * 8 by rfl, bytes_take]
  rw [part, part]
  congr 1
  apply List.ext_getElem?
  intro i
  rw [List.getElem?_take, List.getElem?_take]
  split
  · rw [List.getElem?_drop, List.getElem?_drop, List.getElem?_map, List.getElem?_map, key (8 * k + i) (by omega)]
  · rfl
end Go.Proofs.YtfpdikhdfcppeaaDoor
