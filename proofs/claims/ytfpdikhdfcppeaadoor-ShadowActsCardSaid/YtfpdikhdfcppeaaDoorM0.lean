/- The plain model of the device: words that last, or don't. No Go text in sight. -/
import Derived.Test.YtfpdikhdfcppeaaDoorA0
namespace Go.Proofs.YtfpdikhdfcppeaaDoor
open Go.RowKit Go.Proofs

structure DCell where
  lasts : Int
  stored : Int
  sent : Int
  flushed : Bool
instance : Inhabited DCell := ⟨⟨0, 0, 0, false⟩⟩

structure Dev where
  cells : List DCell
  off : Bool
  armed : Bool
  left : Int
  steps : Int

def DCell.vals (c : DCell) : List Value := [.int .u64 c.lasts, .int .u64 c.stored, .int .u64 c.sent, .bool c.flushed]
def flat (l : List DCell) : List Value := l.flatMap DCell.vals
theorem flat_length (l : List DCell) : (flat l).length = l.length * 4 := by
  induction l with
  | nil => rfl
  | cons c l ih => simp only [flat, List.flatMap_cons, List.length_append, List.length_cons] at *; rw [ih]; simp [DCell.vals]; omega
theorem flat_get (l : List DCell) (i j : Nat) (hj : j < 4) : (flat l)[i * 4 + j]? = (l[i]?).bind fun c => c.vals[j]? := by
  induction l generalizing i with
  | nil => simp [flat]
  | cons c l ih =>
    cases i with
    | zero => simp only [flat, List.flatMap_cons]; rw [List.getElem?_append_left (by simp [DCell.vals]; omega)]; simp
    | succ i =>
      simp only [flat, List.flatMap_cons]
      rw [List.getElem?_append_right (by simp [DCell.vals]; omega)]
      have : (i + 1) * 4 + j - c.vals.length = i * 4 + j := by simp [DCell.vals]; omega
      rw [this]; simpa [flat] using ih i
theorem flat_set (l : List DCell) (i j : Nat) (hj : j < 4) (u : Value) (c c' : DCell) (hc : l[i]? = some c) (h : c.vals.set j u = c'.vals) :
    (flat l).set (i * 4 + j) u = flat (l.set i c') := by
  induction l generalizing i with
  | nil => simp at hc
  | cons d l ih =>
    cases i with
    | zero =>
      simp at hc; subst hc
      simp only [flat, List.flatMap_cons, List.set_cons_zero]
      rw [List.set_append_left _ _ (by simp [DCell.vals]; omega)]
      simp [h]
    | succ i =>
      simp only [flat, List.flatMap_cons, List.set_cons_succ]
      rw [List.set_append_right _ _ (by simp [DCell.vals]; omega)]
      have : (i + 1) * 4 + j - d.vals.length = i * 4 + j := by simp [DCell.vals]; omega
      rw [this]
      have := ih i (by simpa using hc)
      simp only [flat] at this
      rw [this]

def Dev.may (D : Dev) (at_ n : Int) : Int := if D.off = true then 3 else if at_ < 0 ∨ n ≤ at_ then 2 else 0
def Dev.step (D : Dev) : Dev :=
  if D.armed = true then { D with steps := wrap64 (D.steps + 1), left := wrap64 (D.left - 1), off := wrap64 (D.left - 1) == 0 } else { D with steps := wrap64 (D.steps + 1) }
def DCell.keep (c : DCell) (v : Int) : DCell := { c with lasts := v, sent := 0, flushed := false }
def DCell.isOpen (c : DCell) : Bool := c.flushed || c.stored != c.lasts
def Dev.store (D : Dev) (at_ : Int) (v : Int) : Int × Dev :=
  if D.may at_ D.cells.length ≠ 0 then (D.may at_ D.cells.length, D)
  else (0, { D with cells := D.cells.modify at_.toNat fun c => { c with stored := v } }.step)
def Dev.load (D : Dev) (at_ : Int) : Int × Int :=
  if D.may at_ D.cells.length ≠ 0 then (0, D.may at_ D.cells.length) else ((D.cells.getD at_.toNat default).stored, 0)

/-- Of n words from o on: sent. -/
def flushAt (l : List DCell) (o : Nat) : Nat → List DCell
  | 0 => l
  | k + 1 => (flushAt l o k).modify (o + k) fun c => { c with sent := c.stored, flushed := true }
theorem flushAt_length (l : List DCell) (o k : Nat) : (flushAt l o k).length = l.length := by
  induction k with
  | zero => rfl
  | succ k ih => simp [flushAt, ih]
def Dev.flush (D : Dev) (line : Int) : Int × Dev :=
  if D.may line ((D.cells.length / 8 : Nat) : Int) ≠ 0 then (D.may line ((D.cells.length / 8 : Nat) : Int), D)
  else (0, { D with cells := flushAt D.cells (line.toNat * 8) 8 }.step)
def DCell.fence (c : DCell) : DCell := if c.flushed = true then c.keep c.sent else c
def Dev.fence (D : Dev) : Int × Dev :=
  if D.off = true then (3, D) else (0, { D with cells := D.cells.map DCell.fence }.step)
theorem modify_of_get {α : Type} (l : List α) (k : Nat) (f : α → α) (d : α) (hd : l[k]? = some d) : l.modify k f = l.set k (f d) := by
  obtain ⟨hk, rfl⟩ := List.getElem?_eq_some_iff.1 hd
  apply List.ext_getElem?; intro i; rw [List.getElem?_modify, List.getElem?_set]
  split
  · rename_i e; subst e; simp [hk]
  · simp

/-- The first k are turned. -/
def mapTo {α : Type} (f : α → α) (l : List α) (k : Nat) : List α := (l.take k).map f ++ l.drop k
section
variable {α : Type} (f : α → α) (l : List α)
theorem mapTo_zero : mapTo f l 0 = l := by simp [mapTo]
theorem mapTo_all : mapTo f l l.length = l.map f := by simp [mapTo]
theorem mapTo_length (k : Nat) : (mapTo f l k).length = l.length := by simp [mapTo]; omega
theorem mapTo_get (k : Nat) : (mapTo f l k)[k]? = l[k]? := by
  unfold mapTo
  by_cases h : k < l.length
  · rw [List.getElem?_append_right (by simp; omega)]; simp [Nat.min_eq_left (Nat.le_of_lt h)]
  · rw [List.getElem?_eq_none (by simp; omega), List.getElem?_eq_none (by omega)]
theorem mapTo_next (k : Nat) (d : α) (hd : l[k]? = some d) : mapTo f l (k + 1) = (mapTo f l k).set k (f d) := by
  obtain ⟨hk, rfl⟩ := List.getElem?_eq_some_iff.1 hd
  unfold mapTo
  rw [List.set_append_right _ _ (by simp; omega), List.take_succ_eq_append_getElem hk, List.drop_eq_getElem_cons hk]
  rw [show k - ((l.take k).map f).length = 0 by simp; omega, List.map_append, List.append_assoc]
  rfl
theorem _root_.List.set_eq_of_getElem? {l : List α} {k : Nat} {d : α} (hd : l[k]? = some d) : l.set k d = l := by
  obtain ⟨hk, rfl⟩ := List.getElem?_eq_some_iff.1 hd
  simp
end
def Dev.arm (D : Dev) (n : Int) : Dev := if D.off = true then D else { D with armed := decide (0 ≤ n), left := n, off := n == 0 }

def fateOf (c : DCell) (n : Int) : Int :=
  if n.tmod 3 = 1 ∨ n.tmod 3 = -2 then (if c.flushed = true then c.sent else c.lasts) else if n.tmod 3 = 2 ∨ n.tmod 3 = -1 then c.stored else c.lasts
def DCell.crash (c : DCell) (l : List Int) : DCell := if c.isOpen = true then { c.keep (fateOf c (l.headD 0)) with stored := fateOf c (l.headD 0) } else { c with stored := c.lasts }
def DCell.spend (c : DCell) (l : List Int) : List Int := if c.isOpen = true then l.tail else l
def crashStep (s : List DCell × List Int) (c : DCell) : List DCell × List Int := (s.1 ++ [c.crash s.2], c.spend s.2)
/-- Behind k words of a crash: those that are over, and what is left of the list. -/
def crashTo (cells : List DCell) (l : List Int) (k : Nat) : List DCell × List Int := (cells.take k).foldl crashStep ([], l)
theorem crashTo_succ (cells : List DCell) (l : List Int) (k : Nat) (c : DCell) (hc : cells[k]? = some c) :
    crashTo cells l (k + 1) = ((crashTo cells l k).1 ++ [c.crash (crashTo cells l k).2], c.spend (crashTo cells l k).2) := by
  obtain ⟨hk, rfl⟩ := List.getElem?_eq_some_iff.1 hc
  unfold crashTo
  rw [List.take_succ_eq_append_getElem hk, List.foldl_append]
  rfl
theorem crashTo_length (cells : List DCell) (l : List Int) (k : Nat) (hk : k ≤ cells.length) : (crashTo cells l k).1.length = k := by
  induction k with
  | zero => simp [crashTo]
  | succ k ih => rw [crashTo_succ _ _ _ _ (List.getElem?_eq_getElem hk)]; simp [ih (by omega)]
def Dev.crash (D : Dev) (l : List Int) : Dev := { cells := (crashTo D.cells l D.cells.length).1, off := false, armed := false, left := 0, steps := D.steps }

/-- The n octets of a word, the least first. -/
def leBytes (x : Int) : Nat → List Int
  | 0 => []
  | n + 1 => x % 256 :: leBytes (x / 256) n
theorem leBytes_length (x : Int) (n : Nat) : (leBytes x n).length = n := by
  induction n generalizing x with
  | zero => rfl
  | succ n ih => simp [leBytes, ih]
theorem leBytes_snoc (x : Int) (n : Nat) : leBytes x (n + 1) = leBytes x n ++ [x / 256 ^ n % 256] := by
  induction n generalizing x with
  | zero => simp [leBytes]
  | succ n ih =>
    rw [leBytes, ih (x / 256), leBytes]
    simp only [List.cons_append, List.cons.injEq, true_and, List.append_cancel_left_eq, and_true]
    rw [Int.ediv_ediv_of_nonneg (by omega), Int.pow_succ, Int.mul_comm]
theorem leBytes_mem (x : Int) (n : Nat) : ∀ y ∈ leBytes x n, 0 ≤ y ∧ y < 256 := by
  induction n generalizing x with
  | zero => simp [leBytes]
  | succ n ih =>
    intro y hy
    simp only [leBytes, List.mem_cons] at hy
    rcases hy with rfl | hy
    · omega
    · exact ih _ y hy
def leWord : List Int → Int
  | [] => 0
  | b :: l => b + 256 * leWord l
theorem leWord_snoc (l : List Int) (x : Int) : leWord (l ++ [x]) = leWord l + 256 ^ l.length * x := by
  induction l with
  | nil => simp [leWord]
  | cons b l ih =>
    simp only [List.cons_append, leWord, ih, List.length_cons, Int.pow_succ, Int.mul_add]
    rw [Int.add_assoc, ← Int.mul_assoc, Int.mul_comm (256 : Int) (256 ^ l.length)]
theorem leWord_bound (l : List Int) (h : ∀ x ∈ l, 0 ≤ x ∧ x < 256) : 0 ≤ leWord l ∧ leWord l < 256 ^ l.length := by
  induction l with
  | nil => simp [leWord]
  | cons b l ih =>
    have h1 := ih (fun x hx => h x (by simp [hx]))
    have h2 := h b (by simp)
    simp only [leWord, List.length_cons, Int.pow_succ]
    omega
theorem leWord_leBytes (x : Int) (n : Nat) : leWord (leBytes x n) = x % 256 ^ n := by
  induction n generalizing x with
  | zero => simp [leBytes, leWord]
  | succ n ih =>
    simp only [leBytes, leWord, ih]
    rw [Int.pow_succ, Int.mul_comm (256 ^ n) 256, Int.emod_def x (256 * 256 ^ n), ← Int.ediv_ediv_of_nonneg (by omega), Int.emod_def (x / 256) (256 ^ n), Int.mul_assoc]
    omega
theorem leBytes_leWord (l : List Int) (h : ∀ x ∈ l, 0 ≤ x ∧ x < 256) : leBytes (leWord l) l.length = l := by
  induction l with
  | nil => rfl
  | cons b l ih =>
    have h2 := h b (by simp)
    simp only [leWord, List.length_cons, leBytes]
    rw [show (b + 256 * leWord l) % 256 = b by omega, show (b + 256 * leWord l) / 256 = leWord l by omega, ih (fun x hx => h x (by simp [hx]))]
theorem or_shift (y x : Int) (k : Nat) (hk : k < 8) (hy0 : 0 ≤ y) (hy : y < 256 ^ k) (hx0 : 0 ≤ x) (hx : x < 256) : bits .or .u64 y (IntKind.u64.wrap (x * 2 ^ (8 * k))) = y + 256 ^ k * x := by
  obtain ⟨a, rfl⟩ := Int.eq_ofNat_of_zero_le hy0
  obtain ⟨b, rfl⟩ := Int.eq_ofNat_of_zero_le hx0
  have e1 : (2 : Int) ^ (8 * k) = ((256 ^ k : Nat) : Int) := by rw [Int.pow_mul, Int.natCast_pow]; rfl
  have e0 : (256 : Int) ^ k = ((256 ^ k : Nat) : Int) := by rw [Int.natCast_pow]; rfl
  have e2 : (256 : Nat) ^ k = 2 ^ (8 * k) := by rw [Nat.pow_mul]
  rw [e0] at hy ⊢
  rw [e1]
  have ha : a < 256 ^ k := by omega
  have hb : b < 256 := by omega
  have hp : 256 ^ k * 256 ≤ 256 ^ 8 := by rw [← Nat.pow_succ]; exact Nat.pow_le_pow_right (by omega) (by omega)
  have hp8 : 256 ^ 8 = 18446744073709551616 := by decide
  have hbb : b * 256 ^ k < 18446744073709551616 := by
    have : b * 256 ^ k < 256 * 256 ^ k := Nat.mul_lt_mul_of_pos_right hb (Nat.pow_pos (by omega))
    omega
  have haa : a < 18446744073709551616 := by omega
  have e4 : a ||| b * 256 ^ k = 256 ^ k * b + a := by
    rw [Nat.or_comm, e2, Nat.mul_comm b, Nat.two_pow_add_eq_or_of_lt (by rw [← e2]; exact ha)]
  rw [← Int.natCast_mul, ← Int.natCast_mul]
  rw [IntWalk.u64_in _ (by omega), u64_or_nat a (b * 256 ^ k) haa hbb, e4, Nat.add_comm]
  exact Int.natCast_add _ _

/-- Words stored, one behind the other, till one is refused. -/
def Dev.stores (D : Dev) (o : Int) : List Int → Int × Dev
  | [] => (0, D)
  | x :: l => if (D.store o x).1 ≠ 0 then D.store o x else (D.store o x).2.stores (o + 1) l
theorem stores_append (D D1 : Dev) (o : Int) (l l2 : List Int) (h : D.stores o l = (0, D1)) : D.stores o (l ++ l2) = D1.stores (o + l.length) l2 := by
  induction l generalizing D o with
  | nil => simp [Dev.stores] at h; subst h; simp
  | cons x l ih =>
    simp only [Dev.stores, List.cons_append] at h ⊢
    split at h
    · rename_i h1; rw [h] at h1; simp at h1
    · rename_i h1
      rw [if_neg h1, ih _ _ h]
      congr 1
      simp only [List.length_cons]; omega
theorem stores_next {D D1 : Dev} {o : Int} {l : List Int} {k : Nat} {x : Int} (h : D.stores o (l.take k) = (0, D1)) (hx : l[k]? = some x) (hok : (D1.store (o + k) x).1 = 0) : D.stores o (l.take (k + 1)) = (0, (D1.store (o + k) x).2) := by
  obtain ⟨hk, rfl⟩ := List.getElem?_eq_some_iff.1 hx
  rw [List.take_succ_eq_append_getElem hk, stores_append _ _ _ _ _ h, List.length_take, Nat.min_eq_left (Nat.le_of_lt hk)]
  simp only [Dev.stores]
  rw [if_neg (by simp [hok])]
theorem stores_fail {D D1 : Dev} {o : Int} {l : List Int} {k : Nat} {x : Int} (h : D.stores o (l.take k) = (0, D1)) (hx : l[k]? = some x) (hbad : (D1.store (o + k) x).1 ≠ 0) : D.stores o l = D1.store (o + k) x := by
  obtain ⟨hk, rfl⟩ := List.getElem?_eq_some_iff.1 hx
  have e : l = l.take k ++ l[k] :: l.drop (k + 1) := by rw [← List.drop_eq_getElem_cons hk, List.take_append_drop]
  have := stores_append D D1 o (l.take k) (l[k] :: l.drop (k + 1)) h
  rw [← e, List.length_take, Nat.min_eq_left (Nat.le_of_lt hk)] at this
  rw [this]
  simp only [Dev.stores]
  rw [if_pos hbad]
def Dev.lay (D : Dev) (line first : Int) (ws : List Int) : Int × Dev :=
  if (D.stores (line * 8 + first) ws).1 ≠ 0 then D.stores (line * 8 + first) ws else (D.stores (line * 8 + first) ws).2.flush line
theorem step_cells (D : Dev) : D.step.cells = D.cells := by unfold Dev.step; split <;> rfl
theorem store_length (D : Dev) (o x : Int) : (D.store o x).2.cells.length = D.cells.length := by
  unfold Dev.store; split
  · rfl
  · simp [step_cells]
theorem stores_length (D : Dev) (o : Int) (l : List Int) : (D.stores o l).2.cells.length = D.cells.length := by
  induction l generalizing D o with
  | nil => rfl
  | cons x l ih =>
    simp only [Dev.stores]
    split
    · exact store_length D o x
    · rw [ih, store_length]
end Go.Proofs.YtfpdikhdfcppeaaDoor
