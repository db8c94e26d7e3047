/- The plain model of a set of numbers below a size: a mask; its words of 64. No Go text in sight. -/
import Derived.Test.YtfpdikhdfcppeaaDoorA0
import Derived.Lib.TrailingZeros
namespace Go.Proofs.YtfpdikhdfcppeaaDoor
open Go.RowKit Go.Proofs

/-- Those that are in, in order. -/
def bitsUp (n S : Nat) : List Nat := (List.range n).filter S.testBit
def ups (n S : Nat) : List Int := (bitsUp n S).map Int.ofNat
def word (S k : Nat) : Nat := (S >>> (64 * k)) % 2 ^ 64
def nw (n : Nat) : Nat := (n + 63) / 64
def wordsL (n S : Nat) : List Int := (List.range (nw n)).map fun k => (word S k : Int)
def clr (S a : Nat) : Nat := S ^^^ (S &&& 2 ^ a)

theorem word_lt (S k : Nat) : word S k < 18446744073709551616 := Nat.mod_lt _ (by decide)
theorem word_bit (S k j : Nat) : (word S k).testBit j = (decide (j < 64) && S.testBit (64 * k + j)) := by
  rw [word, Nat.testBit_mod_two_pow, Nat.testBit_shiftRight]
theorem clr_bit (S a i : Nat) : (clr S a).testBit i = (S.testBit i && decide (i ≠ a)) := by
  simp only [clr, Nat.testBit_xor, Nat.testBit_and, Nat.testBit_two_pow]
  by_cases h : a = i
  · subst h; cases S.testBit a <;> simp
  · have h' : ¬ i = a := fun e => h e.symm
    cases S.testBit i <;> simp [h, h']
theorem or_bit (S a i : Nat) : (S ||| 2 ^ a).testBit i = (S.testBit i || decide (i = a)) := by
  simp only [Nat.testBit_or, Nat.testBit_two_pow]
  congr 1
  by_cases h : a = i <;> simp [h]
  exact fun e => h e.symm
theorem word_or (S i j k : Nat) (hj : j < 64) : word (S ||| 2 ^ (64 * i + j)) k = if k = i then word S i ||| 2 ^ j else word S k := by
  apply Nat.eq_of_testBit_eq
  intro t
  rw [word_bit, or_bit]
  split
  · rename_i e; subst e
    rw [or_bit, word_bit]
    by_cases h : t < 64 <;> by_cases h2 : t = j <;> simp [h, h2] <;> omega
  · rename_i e
    rw [word_bit]
    by_cases h : t < 64 <;> simp [h]
    intro h3; omega
theorem word_clr (S i j k : Nat) (hj : j < 64) : word (clr S (64 * i + j)) k = if k = i then clr (word S i) j else word S k := by
  apply Nat.eq_of_testBit_eq
  intro t
  rw [word_bit, clr_bit]
  split
  · rename_i e; subst e
    rw [clr_bit, word_bit]
    by_cases h : t < 64 <;> by_cases h2 : t = j <;> simp [h, h2] <;> omega
  · rename_i e
    rw [word_bit]
    by_cases h : t < 64 <;> simp [h]
    intro _; omega
theorem wordsL_length (n S : Nat) : (wordsL n S).length = nw n := by simp [wordsL]
theorem wordsL_get (n S k : Nat) (hk : k < nw n) : (wordsL n S)[k]? = some (word S k : Int) := by simp [wordsL, hk]
theorem wordsL_set (n S S' i : Nat) (x : Int) (h : ∀ k, (word S' k : Int) = if k = i then x else (word S k : Int)) : (wordsL n S).set i x = wordsL n S' := by
  apply List.ext_getElem?
  intro k
  rw [List.getElem?_set, wordsL_length]
  by_cases hk : k < nw n
  · rw [wordsL_get _ _ _ hk, wordsL_get _ _ _ hk, h k]
    by_cases e : i = k
    · subst e; simp [hk]
    · rw [if_neg e, if_neg (fun e' => e e'.symm)]
  · rw [List.getElem?_eq_none (by rw [wordsL_length]; omega), List.getElem?_eq_none (by rw [wordsL_length]; omega)]
    split <;> first | rw [if_neg (by omega)] | rfl
theorem clr_u64 (x j : Nat) (hx : x < 18446744073709551616) (hj : j < 64) : x &&& (18446744073709551615 - 2 ^ j) = clr x j := by
  apply Nat.eq_of_testBit_eq
  intro t
  rw [Nat.testBit_and, clr_bit]
  have e : 18446744073709551615 - 2 ^ j = 2 ^ 64 - (2 ^ j + 1) := by have : (18446744073709551615 : Nat) = 2 ^ 64 - 1 := by decide
                                                                     omega
  rw [e, Nat.testBit_two_pow_sub_succ (Nat.pow_lt_pow_right (by omega) hj), Nat.testBit_two_pow]
  by_cases h : t < 64
  · by_cases h2 : t = j
    · subst h2; simp
    · have : ¬ j = t := fun e => h2 e.symm
      simp [h, h2, this]
  · rw [Nat.testBit_lt_two_pow (Nat.lt_of_lt_of_le hx (by rw [show (18446744073709551616 : Nat) = 2 ^ 64 by decide]; exact Nat.pow_le_pow_right (by omega) (by omega)))]
    simp

/-- Numbers put in; numbers taken out: those that may be there. -/
def addOne (n S : Nat) (a : Int) : Nat := if 0 ≤ a ∧ a < n then S ||| 2 ^ a.toNat else S
def dropOne (n S : Nat) (a : Int) : Nat := if 0 ≤ a ∧ a < n then clr S a.toNat else S
def addAll (n S : Nat) (l : List Int) : Nat := l.foldl (addOne n) S
def dropAll (n S : Nat) (l : List Int) : Nat := l.foldl (dropOne n) S
def hasBit (n S : Nat) (a : Int) : Bool := decide (0 ≤ a ∧ a < n) && S.testBit a.toNat

theorem addOne_lt {n S : Nat} {a : Int} (h : S < 2 ^ n) : addOne n S a < 2 ^ n := by
  unfold addOne
  split
  · rename_i ha
    exact Nat.or_lt_two_pow h (Nat.pow_lt_pow_right (by omega) (by omega))
  · exact h
theorem clr_le (S a : Nat) : clr S a ≤ S := by
  apply Nat.le_of_testBit
  intro i
  rw [clr_bit]
  cases S.testBit i <;> simp
theorem dropOne_lt {n S : Nat} {a : Int} (h : S < 2 ^ n) : dropOne n S a < 2 ^ n := by
  unfold dropOne
  split
  · exact Nat.lt_of_le_of_lt (clr_le _ _) h
  · exact h
end Go.Proofs.YtfpdikhdfcppeaaDoor
