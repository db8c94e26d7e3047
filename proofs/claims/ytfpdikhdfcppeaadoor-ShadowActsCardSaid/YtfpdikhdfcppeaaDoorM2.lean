/- Bits of words: the lowest one, how many there are. No Go text in sight. -/
import Derived.Test.YtfpdikhdfcppeaaDoorM1
namespace Go.Proofs.YtfpdikhdfcppeaaDoor
open Go.RowKit Go.Proofs

theorem filter_first (p : Nat → Bool) (n t : Nat) (ht : t < n) (h1 : p t = true) (h0 : ∀ j, j < t → p j = false) :
    (List.range n).filter p = t :: (List.range n).filter (fun i => p i && decide (i ≠ t)) := by
  induction n with
  | zero => omega
  | succ n ih =>
    rw [List.range_succ, List.filter_append, List.filter_append]
    by_cases h : t < n
    · rw [ih h]
      have : n ≠ t := by omega
      simp [List.filter_cons, this]
    · obtain rfl : t = n := by omega
      have e1 : (List.range t).filter p = [] := by
        rw [List.filter_eq_nil_iff]; intro j hj; rw [h0 j (List.mem_range.1 hj)]; simp
      have e2 : (List.range t).filter (fun i => p i && decide (i ≠ t)) = [] := by
        rw [List.filter_eq_nil_iff]; intro j hj; rw [h0 j (List.mem_range.1 hj)]; simp
      rw [e1, e2]; simp [h1]
theorem ctz_facts (x : Nat) (h0 : x ≠ 0) (hx : x < 18446744073709551616) : Lib.ctz 64 x < 64 ∧ bitsUp 64 x = Lib.ctz 64 x :: bitsUp 64 (x &&& (x - 1)) ∧ x &&& (x - 1) = clr x (Lib.ctz 64 x) := by
  obtain ⟨m, hm, ht⟩ := Lib.ctzFrom_spec 64 x (by omega) hx
  have e : Lib.ctz 64 x = Lib.ctzFrom 64 x := by unfold Lib.ctz; rw [if_neg h0]
  rw [e]
  generalize Lib.ctzFrom 64 x = t at *
  have hx2 : x = 2 ^ (t + 1) * m + 2 ^ t := by rw [hm, Nat.pow_succ, Nat.mul_add, ← Nat.mul_assoc, Nat.mul_one]
  have hp : 0 < 2 ^ t := Nat.pow_pos (by omega)
  have hp1 : 2 ^ t < 2 ^ (t + 1) := Nat.pow_lt_pow_right (by omega) (by omega)
  have hb : ∀ i, x.testBit i = if i < t + 1 then decide (i = t) else m.testBit (i - (t + 1)) := by
    intro i
    rw [hx2, Nat.testBit_two_pow_mul_add _ hp1]
    split
    · rw [Nat.testBit_two_pow]; by_cases h : t = i <;> simp [h]; omega
    · rfl
  have hb1 : ∀ i, (x - 1).testBit i = if i < t + 1 then decide (i < t) else m.testBit (i - (t + 1)) := by
    intro i
    rw [show x - 1 = 2 ^ (t + 1) * m + (2 ^ t - 1) by omega, Nat.testBit_two_pow_mul_add _ (by omega)]
    split
    · rw [Nat.testBit_two_pow_sub_one]
    · rfl
  have hc : x &&& (x - 1) = clr x t := by
    apply Nat.eq_of_testBit_eq
    intro i
    rw [Nat.testBit_and, clr_bit, hb, hb1]
    by_cases h : i < t + 1
    · simp only [h, if_true]
      by_cases h2 : i = t <;> simp [h2]
    · have : i ≠ t := by omega
      simp [h, this]
  refine ⟨ht, ?_, hc⟩
  rw [hc]
  unfold bitsUp
  rw [filter_first x.testBit 64 t ht (by rw [hb]; simp) (fun j hj => by rw [hb, if_pos (by omega)]; simp; omega)]
  congr 2
  funext i
  rw [clr_bit]

theorem bitsUp_more (n d S : Nat) (h : S < 2 ^ n) : bitsUp (n + d) S = bitsUp n S := by
  unfold bitsUp
  rw [List.range_add, List.filter_append]
  have : ((List.range d).map (n + ·)).filter S.testBit = [] := by
    rw [List.filter_eq_nil_iff]
    intro j hj
    obtain ⟨i, _, rfl⟩ := List.mem_map.1 hj
    rw [Nat.testBit_lt_two_pow (Nat.lt_of_lt_of_le h (Nat.pow_le_pow_right (by omega) (by omega)))]
    simp
  rw [this, List.append_nil]
/-- The first m words' bits. -/
def upTo (S m : Nat) : List Nat := bitsUp (64 * m) S
theorem upTo_succ (S m : Nat) : upTo S (m + 1) = upTo S m ++ (bitsUp 64 (word S m)).map (64 * m + ·) := by
  unfold upTo bitsUp
  rw [show 64 * (m + 1) = 64 * m + 64 by omega, List.range_add, List.filter_append, List.filter_map]
  congr 2
  apply List.filter_congr
  intro i hi
  have := List.mem_range.1 hi
  simp [word_bit, this]
theorem upTo_nw (n S : Nat) (h : S < 2 ^ n) : upTo S (nw n) = bitsUp n S := by
  unfold upTo
  have h1 : n ≤ 64 * nw n := by unfold nw; omega
  obtain ⟨d, hd⟩ : ∃ d, 64 * nw n = n + d := ⟨64 * nw n - n, by omega⟩
  rw [hd, bitsUp_more _ _ _ h]
def pop (x : Nat) : Nat := (bitsUp 64 x).length
theorem upTo_count (S m : Nat) : (upTo S (m + 1)).length = (upTo S m).length + pop (word S m) := by
  rw [upTo_succ, List.length_append, List.length_map]; rfl

/- How many bits a word has, as the library reckons it. -/
def rep (c : Nat) : Nat → Nat
  | 0 => 0
  | n + 1 => c + 256 * rep c n
theorem rep_succ (c n : Nat) : rep c (n + 1) = c + 256 * rep c n := rfl
theorem rep_one (c : Nat) : rep c 1 = c := by simp [rep]
theorem bit_256 (b y i : Nat) (hb : b < 256) : (b + 256 * y).testBit i = if i < 8 then b.testBit i else y.testBit (i - 8) := by
  rw [Nat.add_comm, show (256 : Nat) = 2 ^ 8 by decide, Nat.testBit_two_pow_mul_add _ (by simpa using hb)]
theorem and_256 (b c y z : Nat) (hb : b < 256) (hc : c < 256) : (b + 256 * y) &&& (c + 256 * z) = (b &&& c) + 256 * (y &&& z) := by
  apply Nat.eq_of_testBit_eq
  intro i
  have : b &&& c < 256 := Nat.lt_of_le_of_lt Nat.and_le_left hb
  rw [Nat.testBit_and, bit_256 _ _ _ hb, bit_256 _ _ _ hc, bit_256 _ _ _ this]
  split <;> simp
theorem shr_and_256 (s b c y z : Nat) (hs : s ≤ 8) (hb : b < 256) (hc : c < 2 ^ (8 - s)) : ((b + 256 * y) >>> s) &&& (c + 256 * z) = ((b >>> s) &&& c) + 256 * ((y >>> s) &&& z) := by
  apply Nat.eq_of_testBit_eq
  intro i
  have hc2 : c < 256 := Nat.lt_of_lt_of_le hc (by rw [show (256 : Nat) = 2 ^ 8 by decide]; exact Nat.pow_le_pow_right (by omega) (by omega))
  have h2 : (b >>> s) &&& c < 256 := Nat.lt_of_le_of_lt Nat.and_le_right hc2
  rw [Nat.testBit_and, Nat.testBit_shiftRight, bit_256 _ _ _ hb, bit_256 _ _ _ hc2, bit_256 _ _ _ h2]
  by_cases hi : i < 8
  · simp only [hi, if_true]
    by_cases h3 : s + i < 8
    · simp [h3, Nat.testBit_shiftRight]
    · have : c.testBit i = false := Nat.testBit_lt_two_pow (Nat.lt_of_lt_of_le hc (Nat.pow_le_pow_right (by omega) (by omega)))
      simp [this]
  · have h3 : ¬ s + i < 8 := by omega
    simp only [hi, h3, if_false, Nat.testBit_and, Nat.testBit_shiftRight]
    rw [show s + i - 8 = s + (i - 8) by omega]
def p1 (x n : Nat) : Nat := ((x >>> 1) &&& rep 0x55 n) + (x &&& rep 0x55 n)
def p2 (x n : Nat) : Nat := ((x >>> 2) &&& rep 0x33 n) + (x &&& rep 0x33 n)
def p3 (x n : Nat) : Nat := ((x >>> 4) + x) &&& rep 0x0f n
theorem p1_step (b y n : Nat) (hb : b < 256) : p1 (b + 256 * y) (n + 1) = p1 b 1 + 256 * p1 y n := by
  unfold p1
  rw [rep_succ, rep_one, shr_and_256 1 b _ y _ (by omega) hb (by decide), and_256 b _ y _ hb (by decide), Nat.mul_add]
  omega
theorem p2_step (b y n : Nat) (hb : b < 256) : p2 (b + 256 * y) (n + 1) = p2 b 1 + 256 * p2 y n := by
  unfold p2
  rw [rep_succ, rep_one, shr_and_256 2 b _ y _ (by omega) hb (by decide), and_256 b _ y _ hb (by decide), Nat.mul_add]
  omega
/-- Both halves of each of the first n octets are at most 4. -/
def Low4 (x : Nat) : Nat → Prop
  | 0 => x = 0
  | n + 1 => x % 16 ≤ 4 ∧ x / 16 % 16 ≤ 4 ∧ Low4 (x / 256) n
theorem p3_step (b y n : Nat) (hb : b % 16 ≤ 4) (hb2 : b / 16 ≤ 4) (hy : y % 16 ≤ 4) : p3 (b + 256 * y) (n + 1) = (b / 16 + b % 16) + 256 * p3 y n := by
  unfold p3
  rw [rep_succ]
  have e : ((b + 256 * y) >>> 4) + (b + 256 * y) = ((b / 16 + b % 16) + 16 * (b / 16 + y % 16)) + 256 * ((y >>> 4) + y) := by
    simp only [Nat.shiftRight_eq_div_pow]; omega
  have hlt : (b / 16 + b % 16) + 16 * (b / 16 + y % 16) < 256 := by omega
  rw [e, and_256 _ _ _ _ hlt (by decide)]
  congr 1
  rw [show (0x0f : Nat) = 2 ^ 4 - 1 by decide, Nat.and_two_pow_sub_one_eq_mod]
  omega

/-- The number that octets make. -/
def join (l : List Nat) : Nat := l.foldr (fun b y => b + 256 * y) 0
theorem join_p1 (l : List Nat) (h : ∀ b ∈ l, b < 256) : p1 (join l) l.length = join (l.map (p1 · 1)) := by
  induction l with
  | nil => rfl
  | cons b l ih =>
    simp only [join, List.foldr_cons, List.length_cons, List.map_cons] at *
    rw [p1_step _ _ _ (h b (by simp)), ih (fun x hx => h x (by simp [hx]))]
theorem join_p2 (l : List Nat) (h : ∀ b ∈ l, b < 256) : p2 (join l) l.length = join (l.map (p2 · 1)) := by
  induction l with
  | nil => rfl
  | cons b l ih =>
    simp only [join, List.foldr_cons, List.length_cons, List.map_cons] at *
    rw [p2_step _ _ _ (h b (by simp)), ih (fun x hx => h x (by simp [hx]))]
theorem join_p3 (l : List Nat) (h : ∀ b ∈ l, b % 16 ≤ 4 ∧ b / 16 ≤ 4) : p3 (join l) l.length = join (l.map fun b => b / 16 + b % 16) := by
  induction l with
  | nil => rfl
  | cons b l ih =>
    have h1 := h b (by simp)
    have ih := ih (fun x hx => h x (by simp [hx]))
    simp only [join, List.foldr_cons, List.length_cons, List.map_cons] at *
    rw [p3_step _ _ _ h1.1 h1.2 ?_, ih]
    cases l with
    | nil => simp
    | cons c l =>
      have h2 := h c (by simp)
      simp only [List.foldr_cons]; omega
def octs (x : Nat) : Nat → List Nat
  | 0 => []
  | n + 1 => x % 256 :: octs (x / 256) n
theorem octs_length (x n : Nat) : (octs x n).length = n := by
  induction n generalizing x with
  | zero => rfl
  | succ n ih => simp [octs, ih]
theorem octs_lt (x n : Nat) : ∀ b ∈ octs x n, b < 256 := by
  induction n generalizing x with
  | zero => simp [octs]
  | succ n ih =>
    intro b hb
    simp only [octs, List.mem_cons] at hb
    rcases hb with rfl | hb
    · omega
    · exact ih _ b hb
theorem join_octs (x n : Nat) (h : x < 256 ^ n) : join (octs x n) = x := by
  induction n generalizing x with
  | zero => simp [octs, join]; omega
  | succ n ih =>
    have := ih (x / 256) (by rw [Nat.pow_succ] at h; omega)
    simp only [octs, join, List.foldr_cons] at *
    rw [this]; omega
theorem pop_octs (n x : Nat) : (bitsUp (8 * n) x).length = ((octs x n).map fun b => (bitsUp 8 b).length).foldr (· + ·) 0 := by
  induction n generalizing x with
  | zero => simp [bitsUp, octs]
  | succ n ih =>
    simp only [octs, List.map_cons, List.foldr_cons]
    rw [← ih, show 8 * (n + 1) = 8 + 8 * n by omega]
    unfold bitsUp
    rw [List.range_add, List.filter_append, List.length_append, List.filter_map, List.length_map]
    congr 2
    · apply List.filter_congr
      intro i hi
      rw [show (256 : Nat) = 2 ^ 8 by decide, Nat.testBit_mod_two_pow]
      simp [List.mem_range.1 hi]
    · apply List.filter_congr
      intro i hi
      rw [show (256 : Nat) = 2 ^ 8 by decide, Nat.testBit_div_two_pow]
      simp [Nat.add_comm]
def swar8 (b : Nat) : Nat := p2 (p1 b 1) 1 / 16 + p2 (p1 b 1) 1 % 16
theorem swar8_all : ∀ b, b < 256 → p1 b 1 < 256 ∧ p2 (p1 b 1) 1 % 16 ≤ 4 ∧ p2 (p1 b 1) 1 / 16 ≤ 4 ∧ swar8 b = (bitsUp 8 b).length ∧ swar8 b ≤ 8 := by decide +kernel
theorem swar_join (l : List Nat) (hl : l.length = 8) (h : ∀ b ∈ l, b < 256) : p3 (p2 (p1 (join l) 8) 8) 8 = join (l.map swar8) := by
  have e1 := join_p1 l h
  rw [hl] at e1
  have e2 := join_p2 (l.map (p1 · 1)) (by intro b hb; obtain ⟨c, hc, rfl⟩ := List.mem_map.1 hb; exact (swar8_all c (h c hc)).1)
  rw [List.length_map, hl] at e2
  have e3 := join_p3 ((l.map (p1 · 1)).map (p2 · 1)) (by
    intro b hb
    rw [List.map_map] at hb
    obtain ⟨c, hc, rfl⟩ := List.mem_map.1 hb
    exact ⟨(swar8_all c (h c hc)).2.1, (swar8_all c (h c hc)).2.2.1⟩)
  rw [List.length_map, List.length_map, hl] at e3
  rw [e1, e2, e3, List.map_map, List.map_map]
  rfl
theorem fold_a (L H : Nat) (h : L < 256) : (L + 256 * H) / 256 = H := by omega
theorem fold_b (L H : Nat) (h : L < 65536) : (L + 65536 * H) / 65536 = H := by omega
theorem fold_c (L H : Nat) (h : L < 4294967296) : (L + 4294967296 * H) / 4294967296 = H := by omega
theorem fold_d (s K : Nat) (h : s < 128) : (s + 256 * K) % 128 = s := by omega
def fold8 (y : Nat) : Nat := ((y + y / 256) + (y + y / 256) / 65536 + ((y + y / 256) + (y + y / 256) / 65536) / 4294967296) % 128
theorem sum8 (a b c d e f g h : Nat) (ha : a ≤ 8) (hb : b ≤ 8) (hc : c ≤ 8) (hd : d ≤ 8) (he : e ≤ 8) (hf : f ≤ 8) (hg : g ≤ 8) (hh : h ≤ 8) :
    fold8 (join [a, b, c, d, e, f, g, h]) = a + (b + (c + (d + (e + (f + (g + (h + 0))))))) := by
  unfold fold8
  simp only [join, List.foldr_cons, List.foldr_nil]
  rw [fold_a a _ (by omega)]
  have e2 : (a + 256 * (b + 256 * (c + 256 * (d + 256 * (e + 256 * (f + 256 * (g + 256 * (h + 256 * 0))))))) + (b + 256 * (c + 256 * (d + 256 * (e + 256 * (f + 256 * (g + 256 * (h + 256 * 0)))))))) =
      ((a + b) + 256 * (b + c)) + 65536 * ((c + d) + 256 * (d + e) + 65536 * ((e + f) + 256 * (f + g) + 65536 * ((g + h) + 256 * h))) := by omega
  rw [e2, fold_b _ _ (by omega)]
  have e4 : ((a + b) + 256 * (b + c)) + 65536 * ((c + d) + 256 * (d + e) + 65536 * ((e + f) + 256 * (f + g) + 65536 * ((g + h) + 256 * h))) + ((c + d) + 256 * (d + e) + 65536 * ((e + f) + 256 * (f + g) + 65536 * ((g + h) + 256 * h))) =
      ((a + b + c + d) + 256 * (b + c + d + e) + 65536 * (c + d + e + f) + 16777216 * (d + e + f + g)) + 4294967296 * ((e + f + g + h) + 256 * (f + g + h) + 65536 * (g + h) + 16777216 * h) := by omega
  rw [e4, fold_c _ _ (by omega)]
  have e5 : ((a + b + c + d) + 256 * (b + c + d + e) + 65536 * (c + d + e + f) + 16777216 * (d + e + f + g)) + 4294967296 * ((e + f + g + h) + 256 * (f + g + h) + 65536 * (g + h) + 16777216 * h) + ((e + f + g + h) + 256 * (f + g + h) + 65536 * (g + h) + 16777216 * h) =
      (a + (b + (c + (d + (e + (f + (g + (h + 0)))))))) + 256 * ((b + c + d + e) + 256 * (c + d + e + f) + 65536 * (d + e + f + g) + 16777216 * ((e + f + g + h) + 256 * (f + g + h) + 65536 * (g + h) + 16777216 * h) + (f + g + h) + 256 * (g + h) + 65536 * h) := by omega
  rw [e5, fold_d _ _ (by omega)]
def swar (x : Nat) : Nat := fold8 (p3 (p2 (p1 x 8) 8) 8)
theorem swar_pop (x : Nat) (hx : x < 18446744073709551616) : swar x = pop x := by
  have hj := join_octs x 8 (by simpa using hx)
  have hs := swar_join (octs x 8) (octs_length x 8) (octs_lt x 8)
  rw [hj] at hs
  have hp := pop_octs 8 x
  unfold pop
  rw [show (64 : Nat) = 8 * 8 by decide, hp]
  have hb : ∀ b ∈ octs x 8, swar8 b ≤ 8 ∧ swar8 b = (bitsUp 8 b).length := fun b hb => ⟨(swar8_all b (octs_lt x 8 b hb)).2.2.2.2, (swar8_all b (octs_lt x 8 b hb)).2.2.2.1⟩
  have hm : ((octs x 8).map fun b => (bitsUp 8 b).length) = (octs x 8).map swar8 := List.map_congr_left fun b h => (hb b h).2.symm
  rw [hm]
  unfold swar
  rw [hs]
  simp only [octs, List.map_cons, List.map_nil, List.foldr_cons, List.foldr_nil]
  simp only [octs, List.mem_cons, List.not_mem_nil, or_false, forall_eq_or_imp, forall_eq] at hb
  obtain ⟨h0, h1, h2, h3, h4, h5, h6, h7⟩ := hb
  exact sum8 _ _ _ _ _ _ _ _ h0.1 h1.1 h2.1 h3.1 h4.1 h5.1 h6.1 h7.1

theorem addAll_bit (n S : Nat) (l : List Int) (i : Nat) : (addAll n S l).testBit i = (S.testBit i || (decide (i < n) && l.contains (i : Int))) := by
  unfold addAll
  induction l generalizing S with
  | nil => simp
  | cons a l ih =>
    rw [List.foldl_cons, ih]
    unfold addOne
    by_cases h : 0 ≤ a ∧ a < n
    · rw [if_pos h, or_bit]
      obtain ⟨k, rfl⟩ := Int.eq_ofNat_of_zero_le h.1
      simp only [Int.toNat_natCast, List.contains_cons]
      by_cases h2 : i = k
      · subst h2
        have : i < n := by omega
        simp [this]
      · have h3 : ¬ ((i : Int) = (k : Int)) := by omega
        have h4 : ((i : Int) == (k : Int)) = false := by simpa using h3
        simp [h2, h4]
    · rw [if_neg h]
      by_cases h2 : i < n
      · have h4 : ((i : Int) == a) = false := by
          rw [beq_eq_false_iff_ne]; intro e; subst e; exact h ⟨by omega, by omega⟩
        rw [List.contains_cons, h4]; simp
      · simp [h2]
theorem dropAll_bit (n S : Nat) (l : List Int) (i : Nat) : (dropAll n S l).testBit i = (S.testBit i && !(decide (i < n) && l.contains (i : Int))) := by
  unfold dropAll
  induction l generalizing S with
  | nil => simp
  | cons a l ih =>
    rw [List.foldl_cons, ih]
    unfold dropOne
    by_cases h : 0 ≤ a ∧ a < n
    · rw [if_pos h, clr_bit]
      obtain ⟨k, rfl⟩ := Int.eq_ofNat_of_zero_le h.1
      simp only [Int.toNat_natCast, List.contains_cons]
      by_cases h2 : i = k
      · subst h2
        have : i < n := by omega
        simp [this]
      · have h3 : ¬ ((i : Int) = (k : Int)) := by omega
        have h4 : ((i : Int) == (k : Int)) = false := by simpa using h3
        simp [h2, h4]
    · rw [if_neg h]
      by_cases h2 : i < n
      · have h4 : ((i : Int) == a) = false := by
          rw [beq_eq_false_iff_ne]; intro e; subst e; exact h ⟨by omega, by omega⟩
        rw [List.contains_cons, h4]; simp
      · simp [h2]
theorem mem_ups (n S i : Nat) : (i : Int) ∈ ups n S ↔ i < n ∧ S.testBit i = true := by
  unfold ups bitsUp
  simp only [List.mem_map, List.mem_filter, List.mem_range]
  constructor
  · rintro ⟨a, ha, e⟩
    rw [Int.ofNat_eq_natCast] at e
    obtain rfl : a = i := by omega
    exact ha
  · intro h; exact ⟨i, h, rfl⟩
theorem high_bit {n S i : Nat} (h : S < 2 ^ n) (hi : n ≤ i) : S.testBit i = false :=
  Nat.testBit_lt_two_pow (Nat.lt_of_lt_of_le h (Nat.pow_le_pow_right (by omega) hi))
theorem addAll_ups (n S T : Nat) (h : T < 2 ^ n) : addAll n S (ups n T) = S ||| T := by
  apply Nat.eq_of_testBit_eq
  intro i
  rw [addAll_bit, Nat.testBit_or]
  congr 1
  by_cases hi : i < n
  · have := mem_ups n T i
    cases hb : T.testBit i with
    | true => simp [hi, this, hb]
    | false => simp [hi, this, hb]
  · rw [high_bit h (by omega)]; simp [hi]
end Go.Proofs.YtfpdikhdfcppeaaDoor
