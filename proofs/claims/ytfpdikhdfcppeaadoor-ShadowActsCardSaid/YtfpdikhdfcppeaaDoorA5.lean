/- Walks of package bits: sets of numbers. -/
import Derived.Test.YtfpdikhdfcppeaaDoorA4
import Derived.Test.YtfpdikhdfcppeaaDoorM2
namespace Go.Proofs.YtfpdikhdfcppeaaDoor
open Go.RowKit Go.Proofs

/-- The library's table lies in its variable. -/
def Tab (w : World) : Prop := 0 < w.heap.size ∧ ∀ j, j < Lib.deBruijn64tab.length → w.cell? ⟨0, j, none⟩ = some (.int .u8 (Lib.deBruijn64tab.getD j 0))
theorem Tab.keeps {S : List Nat} {w w' : World} (h : Tab w) (hk : Keeps S w w') (h0 : 0 ∉ S) : Tab w' :=
  ⟨Nat.lt_of_lt_of_le h.1 hk.size, fun j hj => by
    rw [World.cell?_of_block (w := w) (w' := w') (hk.block _ h.1 h0)]; exact h.2 j hj⟩

theorem tz64_key (x a : Nat) (hx : x < 18446744073709551616) (hx0 : x ≠ 0) (hlow : x &&& (18446744073709551616 - x) = a) :
    IntKind.u64.wrap (bits BinOp.and IntKind.u64 (x : Int) (IntKind.u64.wrap (-(x : Int))) * 285870213051353865) / 288230376151711744 = ((a * 285870213051353865 % 18446744073709551616 / 288230376151711744 : Nat) : Int) := by
  have e1 : IntKind.u64.wrap (-(x : Int)) = ((18446744073709551616 - x : Nat) : Int) := by rw [IntKind.wrap_u64]; omega
  rw [e1, bits_and_u64_nat x _ hx (by omega), hlow, IntKind.wrap_u64]
  omega

set_option maxRecDepth 100000 in
set_option maxHeartbeats 1000000 in
theorem tz_core (x k idx : Nat) (w : World) (hx0 : ((x : Int) == 0) = false)
    (key : IntKind.u64.wrap (bits BinOp.and IntKind.u64 (x : Int) (IntKind.u64.wrap (-(x : Int))) * 285870213051353865) / 288230376151711744 = (idx : Int))
    (hi : idx < 64) (hk : k < 64) (hcell : w.cell? ⟨0, idx, none⟩ = some (.int .u8 k)) :
    Calls Tryd.prog 57 #[.int .u64 x] w fun e w' => e = .returned (.int .i64 k) ∧ w = w' := by
  go_enter Tryd.func57, Tryd.ntmps57
  go_wp2_with (simp only [key])
  go_ret
  exact ⟨rfl, rfl⟩

theorem tz_calls (x : Nat) (w : World) (hx : x < 18446744073709551616) (hx0 : x ≠ 0) (hT : Tab w) :
    Calls Tryd.prog 57 #[.int .u64 x] w fun e w' => e = .returned (.int .i64 (Lib.ctz 64 x)) ∧ w = w' := by
  obtain ⟨hlow, hk⟩ := Lib.lowest_bit 64 x hx0 hx
  obtain ⟨hi, htab⟩ := Lib.deBruijn64_at _ hk
  have hcell := hT.2 _ hi
  rw [htab] at hcell
  exact tz_core x _ _ w (by simp; omega) (tz64_key x _ hx hx0 hlow) hi hk hcell

theorem wrap_i64_nat (a : Nat) (h : a < 9223372036854775808) : wrap64 (a : Int) = (a : Int) := by unfold wrap64; omega
theorem u64_of_nat (a : Nat) (h : a < 18446744073709551616) : IntKind.u64.wrap (a : Int) = (a : Int) := IntWalk.u64_in _ (by omega)
theorem ones_a (x : Nat) (hx : x < 18446744073709551616) :
    IntKind.u64.wrap (bits .and .u64 ((x : Int) / 2) 6148914691236517205 + bits .and .u64 (x : Int) 6148914691236517205) = (p1 x 8 : Int) ∧ p1 x 8 < 18446744073709551616 := by
  have e1 : (x : Int) / (2 : Int) = Int.ofNat (x >>> 1) := by show _ = ((x >>> 1 : Nat) : Int); rw [Nat.shiftRight_eq_div_pow]; omega
  have a := bits_and_u64_nat (x >>> 1) 6148914691236517205 (by rw [Nat.shiftRight_eq_div_pow]; omega) (by omega)
  have b := bits_and_u64_nat x 6148914691236517205 hx (by omega)
  have ha : (x >>> 1) &&& 6148914691236517205 ≤ 6148914691236517205 := Nat.and_le_right
  have hb : x &&& 6148914691236517205 ≤ 6148914691236517205 := Nat.and_le_right
  have hr : rep 0x55 8 = 6148914691236517205 := by decide
  have e : p1 x 8 = ((x >>> 1) &&& 6148914691236517205) + (x &&& 6148914691236517205) := by unfold p1; rw [hr]
  rw [e1, Int.ofNat_eq_natCast]
  rw [show ((6148914691236517205 : Int)) = ((6148914691236517205 : Nat) : Int) from rfl, a, b, e]
  generalize (x >>> 1) &&& 6148914691236517205 = s at *
  generalize x &&& 6148914691236517205 = t at *
  exact ⟨by rw [← Int.natCast_add]; exact u64_of_nat _ (by omega), by omega⟩
theorem ones_b (x : Nat) (hx : x < 18446744073709551616) :
    IntKind.u64.wrap (bits .and .u64 ((x : Int) / 4) 3689348814741910323 + bits .and .u64 (x : Int) 3689348814741910323) = (p2 x 8 : Int) ∧ p2 x 8 < 18446744073709551616 := by
  have e1 : (x : Int) / (4 : Int) = Int.ofNat (x >>> 2) := by show _ = ((x >>> 2 : Nat) : Int); rw [Nat.shiftRight_eq_div_pow]; omega
  have a := bits_and_u64_nat (x >>> 2) 3689348814741910323 (by rw [Nat.shiftRight_eq_div_pow]; omega) (by omega)
  have b := bits_and_u64_nat x 3689348814741910323 hx (by omega)
  have ha : (x >>> 2) &&& 3689348814741910323 ≤ 3689348814741910323 := Nat.and_le_right
  have hb : x &&& 3689348814741910323 ≤ 3689348814741910323 := Nat.and_le_right
  have hr : rep 0x33 8 = 3689348814741910323 := by decide
  have e : p2 x 8 = ((x >>> 2) &&& 3689348814741910323) + (x &&& 3689348814741910323) := by unfold p2; rw [hr]
  rw [e1, Int.ofNat_eq_natCast]
  rw [show ((3689348814741910323 : Int)) = ((3689348814741910323 : Nat) : Int) from rfl, a, b, e]
  generalize (x >>> 2) &&& 3689348814741910323 = s at *
  generalize x &&& 3689348814741910323 = t at *
  exact ⟨by rw [← Int.natCast_add]; exact u64_of_nat _ (by omega), by omega⟩
theorem p2_lt (x : Nat) : p2 x 8 ≤ 7378697629483820646 := by
  unfold p2
  have hr : rep 0x33 8 = 3689348814741910323 := by decide
  have ha : (x >>> 2) &&& rep 0x33 8 ≤ rep 0x33 8 := Nat.and_le_right
  have hb : x &&& rep 0x33 8 ≤ rep 0x33 8 := Nat.and_le_right
  omega
theorem ones_c (x : Nat) (hx : x ≤ 7378697629483820646) :
    bits .and .u64 (IntKind.u64.wrap ((x : Int) / 16 + (x : Int))) 1085102592571150095 = (p3 x 8 : Int) ∧ p3 x 8 ≤ 1085102592571150095 := by
  have e1 : IntKind.u64.wrap ((x : Int) / 16 + (x : Int)) = (((x >>> 4) + x : Nat) : Int) := by
    rw [Nat.shiftRight_eq_div_pow]
    rw [IntWalk.u64_in _ (by omega)]; omega
  have a := bits_and_u64_nat ((x >>> 4) + x) 1085102592571150095 (by rw [Nat.shiftRight_eq_div_pow]; omega) (by omega)
  have ha : ((x >>> 4) + x) &&& 1085102592571150095 ≤ 1085102592571150095 := Nat.and_le_right
  have hr : rep 0x0f 8 = 1085102592571150095 := by decide
  have e : p3 x 8 = ((x >>> 4) + x) &&& 1085102592571150095 := by unfold p3; rw [hr]
  rw [e1, show ((1085102592571150095 : Int)) = ((1085102592571150095 : Nat) : Int) from rfl, a, e]
  exact ⟨rfl, ha⟩
theorem ones_d (x d : Nat) (D : Int) (hD : D = Int.ofNat d) (hx : x ≤ 2000000000000000000) (hd : 1 < d) : IntKind.u64.wrap ((x : Int) + (x : Int) / D) = ((x + x / d : Nat) : Int) := by
  subst hD
  rw [Int.ofNat_eq_natCast]
  have : x / d ≤ x := Nat.div_le_self _ _
  rw [← Int.natCast_ediv, ← Int.natCast_add]
  exact u64_of_nat _ (by omega)
theorem ones_e (x : Nat) (hx : x < 9223372036854775808) : bits .and .i64 (x : Int) 127 = ((x % 128 : Nat) : Int) := by
  have := bits_mask .i64 63 (by decide) (fun n h0 h1 => by rw [IntKind.wrap_i64]; omega) 7 (by decide) (x : Int) (by omega) (by omega)
  rw [Int.natCast_emod]
  exact this

set_option maxRecDepth 100000 in
set_option maxHeartbeats 1000000 in
theorem ones_calls (x : Nat) (w : World) (hx : x < 18446744073709551616) :
    Calls Tryd.prog 101 #[.int .u64 x] w fun e w' => e = .returned (.int .i64 (pop x)) ∧ w = w' := by
  have hsw := swar_pop x hx
  obtain ⟨a1, hx1⟩ := ones_a x hx
  obtain ⟨a2, hx2⟩ := ones_b _ hx1
  obtain ⟨a3, hx3⟩ := ones_c (p2 (p1 x 8) 8) (p2_lt _)
  unfold swar fold8 at hsw
  generalize p1 x 8 = y1 at *
  generalize p2 y1 8 = y2 at *
  generalize p3 y2 8 = y3 at *
  have a4 := ones_d y3 256 256 rfl (by omega) (by omega)
  have b4 : y3 + y3 / 256 ≤ 1100000000000000000 := by omega
  generalize y3 + y3 / 256 = y4 at *
  have a5 := ones_d y4 65536 65536 rfl (by omega) (by omega)
  have b5 : y4 + y4 / 65536 ≤ 1110000000000000000 := by omega
  generalize y4 + y4 / 65536 = y5 at *
  have a6 := ones_d y5 4294967296 4294967296 rfl (by omega) (by omega)
  have b6 : y5 + y5 / 4294967296 ≤ 1120000000000000000 := by omega
  generalize y5 + y5 / 4294967296 = y6 at *
  have a7 := ones_e y6 (by omega)
  have a8 := wrap_i64_nat y6 (by omega)
  rw [hsw] at a7
  clear hsw hx hx1 hx2 hx3 b4 b5 b6
  go_enter Tryd.func101, Tryd.ntmps101
  go_wp2
  go_ret
  exact ⟨rfl, rfl⟩

def SetAt (w : World) (p q n S : Nat) : Prop :=
  ∃ v, Blk w p 100 [.int .i64 n, v] ∧ Sl w 107 1 v q (nw n) (u64s (wordsL n S)) ∧ p ≠ q ∧ 0 < p ∧ 0 < q ∧ S < 2 ^ n ∧ n ≤ 3072 ∧ v ≠ .slice none 0 0
theorem Sl.lt' {w : World} {e sz : Nat} {v : Value} {g n : Nat} {xs : List Value} (h : Sl w e sz v g n xs) (hv : v ≠ .slice none 0 0) : g < w.heap.size := by
  obtain ⟨_, ⟨h1, _⟩ | ⟨_, _, _, hb, _⟩⟩ := h
  · exact absurd h1 hv
  · exact hb.lt
theorem SetAt.lt {w : World} {p q n S : Nat} (h : SetAt w p q n S) : p < w.heap.size ∧ q < w.heap.size := by
  obtain ⟨v, hB, hS, _, _, _, _, _, hv⟩ := h
  exact ⟨hB.lt, hS.lt' hv⟩
theorem SetAt.keeps {K : List Nat} {w w' : World} {p q n S : Nat} (h : SetAt w p q n S) (hk : Keeps K w w') (hp : p ∉ K) (hq : q ∉ K) : SetAt w' p q n S := by
  have hl := h.lt
  obtain ⟨v, hB, hS, h1, h2, h3, h4, h5, hv⟩ := h
  exact ⟨v, hk.blk hB hp, hS.same (hk.block q hl.2 hq), h1, h2, h3, h4, h5, hv⟩

set_option maxHeartbeats 400000 in
theorem size_calls (p q n S : Nat) (w : World) (h : SetAt w p q n S) :
    Calls Tryd.prog 46 #[.pointer (some ⟨p, 0, none⟩)] w fun e w' => e = .returned (.int .i64 n) ∧ w = w' := by
  obtain ⟨v, hB, _⟩ := h
  have c0 := hB.cell 0
  simp at c0
  go_enter Tryd.func46, Tryd.ntmps46
  go_wp2
  go_ret
  exact ⟨rfl, rfl⟩

set_option maxHeartbeats 400000 in
theorem mays_calls (p n : Nat) (at_ : Int) (w : World) (c0 : w.cell? ⟨p, 0, none⟩ = some (.int .i64 n)) (bo : Bool) (hb : Hid (decide (0 ≤ at_ ∧ at_ < n) = bo)) :
    Calls Tryd.prog 77 #[.pointer (some ⟨p, 0, none⟩), .int .i64 at_] w fun e w' => e = .returned (.bool bo) ∧ w = w' := by
  rw [← hb.out]
  clear hb
  by_cases h : 0 ≤ at_
  · go_enter Tryd.func77, Tryd.ntmps77
    go_wp2
    go_ret
    exact ⟨by simp [h], rfl⟩
  · go_enter Tryd.func77, Tryd.ntmps77
    go_wp2
    go_ret
    exact ⟨by simp; omega, rfl⟩

theorem wordsL_cell {w : World} {e q n S : Nat} {v : Value} (h : Sl w e 1 v q (nw n) (u64s (wordsL n S))) {k : Nat} (hk : k < nw n) : w.cell? ⟨q, k, none⟩ = some (.int .u64 (word S k : Nat)) := by
  rw [h.cell k (by omega)]
  simp [u64s, wordsL_get _ _ _ hk]

theorem bit_test (x j : Nat) (hx : x < 18446744073709551616) : (bits .and .u64 ((x : Int) / 2 ^ j) 1 == 1) = x.testBit j := by
  have e : (x : Int) / 2 ^ j = Int.ofNat (x / 2 ^ j) := by show _ = ((x / 2 ^ j : Nat) : Int); rw [Int.natCast_ediv, Int.natCast_pow]; rfl
  have hd : x / 2 ^ j ≤ x := Nat.div_le_self _ _
  have := bits_and_u64_nat (x / 2 ^ j) 1 (by omega) (by omega)
  rw [Nat.and_one_is_mod] at this
  rw [e, Int.ofNat_eq_natCast, show bits .and .u64 ((x / 2 ^ j : Nat) : Int) 1 = ((x / 2 ^ j % 2 : Nat) : Int) from this, Nat.testBit_eq_decide_div_mod_eq]
  by_cases h : x / 2 ^ j % 2 = 1
  · simp [h]
  · have h0 : x / 2 ^ j % 2 = 0 := by omega
    simp [h0]
theorem pow_u64 (j : Nat) (hj : j < 64) : IntKind.u64.wrap ((2 : Int) ^ j) = ((2 ^ j : Nat) : Int) ∧ 2 ^ j < 18446744073709551616 := by
  have hp : 2 ^ j < 18446744073709551616 := by rw [show (18446744073709551616 : Nat) = 2 ^ 64 by decide]; exact Nat.pow_lt_pow_right (by omega) hj
  have e : (2 : Int) ^ j = ((2 ^ j : Nat) : Int) := by rw [Int.natCast_pow]; rfl
  rw [e]
  exact ⟨u64_of_nat _ hp, hp⟩
theorem or_word (y j : Nat) (hy : y < 18446744073709551616) (hj : j < 64) : bits .or .u64 (y : Int) (IntKind.u64.wrap (2 ^ j)) = ((y ||| 2 ^ j : Nat) : Int) := by
  obtain ⟨e, hp⟩ := pow_u64 j hj
  rw [e, u64_or_nat y (2 ^ j) hy hp]
theorem clr_word (y j : Nat) (hy : y < 18446744073709551616) (hj : j < 64) : bits .andNot .u64 (y : Int) (IntKind.u64.wrap (2 ^ j)) = ((clr y j : Nat) : Int) := by
  obtain ⟨e, hp⟩ := pow_u64 j hj
  rw [e, u64_andNot_nat y (2 ^ j) hy hp, clr_u64 y j hy hj]

/-- One word of a set is stored. -/
theorem SetAt.put {w : World} {p q n T T' i : Nat} {v : Value} {x : Int} (hB : Blk w p 100 [.int .i64 n, v]) (hW : Sl w 107 1 v q (nw n) (u64s (wordsL n T))) (hpq : p ≠ q) (hp : 0 < p) (hq : 0 < q) (hn : n ≤ 3072) (hvn : v ≠ .slice none 0 0)
    (hi : i < nw n) (hT : T' < 2 ^ n) (h : ∀ k, (word T' k : Int) = if k = i then x else (word T k : Int)) : SetAt (w.setCell ⟨q, i, none⟩ (.int .u64 x)) p q n T' := by
  refine ⟨v, hB.set_ne (Ne.symm hpq) _ _, ?_, hpq, hp, hq, hT, hn, hvn⟩
  have := hW.set i (by omega) (.int .u64 x)
  rw [← wordsL_set n T T' i x h]
  have e : u64s ((wordsL n T).set i x) = (u64s (wordsL n T)).set i (.int .u64 x) := by simp [u64s, List.map_set]
  rw [e]; exact this

set_option maxHeartbeats 400000 in
theorem has_calls (p q n S : Nat) (at_ : Int) (w : World) (h : SetAt w p q n S) :
    Calls Tryd.prog 53 #[.pointer (some ⟨p, 0, none⟩), .int .i64 at_] w fun e w' => e = .returned (.bool (hasBit n S at_)) ∧ w = w' := by
  obtain ⟨v, hB, hS, hpq, hp, hq, hlt, hn, hvn⟩ := h
  have c0 := hB.cell 0
  have c1 := hB.cell 1
  simp at c0 c1
  obtain ⟨a, cap, rfl, hcap, hmax, ha⟩ := hS.shape
  cases hm : decide (0 ≤ at_ ∧ at_ < n) with
  | true =>
    have hr := of_decide_eq_true hm
    obtain ⟨k, rfl⟩ := Int.eq_ofNat_of_zero_le hr.1
    have hk : k < n := by omega
    have hkw : k / 64 < nw n := by unfold nw; omega
    obtain rfl := ha (by omega)
    have cw := wordsL_cell hS hkw
    have HM := Lib.hid hm
    have hres : hasBit n S (k : Int) = S.testBit k := by unfold hasBit; rw [hm]; simp
    rw [hres]
    have hnw : nw n ≤ 48 := by unfold nw; omega
    obtain ⟨x, hx⟩ : ∃ x, word S (k / 64) = x := ⟨_, rfl⟩
    rw [hx] at cw
    clear hm hB hS ha hlt hres
    go_enter Tryd.func53, Tryd.ntmps53
    go_wp2_with (go_at_call 77; refine (mays_calls p n (k : Int) w c0 true HM).mono ?_; rintro e w1 ⟨rfl, rfl⟩)
    go_ret
    refine ⟨?_, rfl⟩
    rw [show S.testBit k = x.testBit (k % 64) by rw [← hx, word_bit]; simp [Nat.mod_lt]; congr 1; omega, ← bit_test x _ (by rw [← hx]; exact word_lt _ _)]
    rfl
  | false =>
    have HM := Lib.hid hm
    have hres : hasBit n S at_ = false := by unfold hasBit; rw [hm]; rfl
    rw [hres]
    clear hm hB hS ha hlt hres
    go_enter Tryd.func53, Tryd.ntmps53
    go_wp2_with (go_at_call 77; refine (mays_calls p n at_ w c0 false HM).mono ?_; rintro e w1 ⟨rfl, rfl⟩)
    go_ret
    exact ⟨rfl, rfl⟩

set_option maxHeartbeats 1000000 in
theorem add_calls (p q n S B : Nat) (v : Value) (ls : List Int) (w : World) (h : SetAt w p q n S) (hl : Rd .i64 w v B ls) (hB1 : B ≠ q) :
    Calls Tryd.prog 48 #[.pointer (some ⟨p, 0, none⟩), v] w fun e w' => e = .returned (.tuple #[]) ∧ SetAt w' p q n (addAll n S ls) ∧ Keeps [q] w w' := by
  obtain ⟨a, cap, rfl, hcap, hmax⟩ := hl.shape
  have HL := Lib.hid hl
  have H0 := Lib.hid h
  clear hl h
  unfold maxLen at hmax
  go_enter Tryd.func48, Tryd.ntmps48
  go_wp2
  go_loopw [8] (fun t wr => ∃ k : Nat, k ≤ ls.length ∧ t = .int .i64 k ∧ SetAt wr p q n (addAll n S (ls.take k)) ∧ Keeps [q] w wr) (fun t _ => ls.length - (intOf t).toNat)
  case atStart => exact ⟨0, by omega, rfl, by simpa [addAll] using H0.out, Keeps.refl _ _⟩
  case round =>
    obtain ⟨k, hk, rfl, hS, hK⟩ := hrel
    by_cases hlt : k < ls.length
    · obtain ⟨o, cap1, hv, c0⟩ := (HL.out.keeps hK (by simpa using hB1)).get hlt
      obtain ⟨rfl, rfl⟩ : a = some ⟨B, o, none⟩ ∧ cap1 = cap := by injection hv with h1 h2 h3; exact ⟨h1, h3.symm⟩
      obtain ⟨x, hxe⟩ : ∃ x, ls.getD k 0 = x := ⟨_, rfl⟩
      rw [hxe] at c0
      have HT : Hid (addAll n S (ls.take (k + 1)) = addOne n (addAll n S (ls.take k)) x) := by
        show _ = _
        rw [List.take_succ_eq_append_getElem hlt, ← hxe, getD_lt _ _ hlt, addAll, List.foldl_append]; rfl
      obtain ⟨T, hT⟩ : ∃ T, addAll n S (ls.take k) = T := ⟨_, rfl⟩
      rw [hT] at hS HT
      clear hxe hv hT
      obtain ⟨vw, hB, hW, hpq, hp, hq, hlt2, hn, hvn⟩ := hS
      have d0 := hB.cell 0
      have d1 := hB.cell 1
      simp at d0 d1
      obtain ⟨aw, capw, rfl, hcapw, hmaxw, haw⟩ := hW.shape
      cases hm : decide (0 ≤ x ∧ x < n) with
      | true =>
        have hr := of_decide_eq_true hm
        obtain ⟨j, rfl⟩ := Int.eq_ofNat_of_zero_le hr.1
        have hj : j < n := by omega
        have hkw : j / 64 < nw n := by unfold nw; omega
        obtain rfl := haw (by omega)
        have cw := wordsL_cell hW hkw
        have fw := hW.free (by omega) (j / 64)
        have HM := Lib.hid hm
        have hnw : nw n ≤ 48 := by unfold nw; omega
        obtain ⟨y, hy⟩ : ∃ y, word T (j / 64) = y := ⟨_, rfl⟩
        rw [hy] at cw
        have HY := Lib.hid hy
        have HB := Lib.hid hB
        have HW := Lib.hid hW
        have HLT := Lib.hid hlt2
        clear hm hy hB hW hlt2 haw
        go_wp2_with (go_at_call 77; refine (mays_calls p n (j : Int) wr d0 true HM).mono ?_; rintro e w1 ⟨rfl, rfl⟩)
        go_region
        go_wp2
        go_roundw
        case rel =>
          refine ⟨k + 1, by omega, by go_num, ?_, (hK.set (by simp) _ _).drew⟩
          rw [HT.out]
          have hb : decide (0 ≤ (j : Int) ∧ (j : Int) < n) = true := HM.out
          have e1 : addOne n T (j : Int) = T ||| 2 ^ j := by unfold addOne; rw [if_pos (of_decide_eq_true hb)]; rfl
          refine SetAt.put (T := T) HB.out HW.out hpq hp hq hn hvn hkw (addOne_lt HLT.out) fun i => ?_
          rw [e1, or_word y (j % 64) (by rw [← HY.out]; exact word_lt _ _) (by omega)]
          have := word_or T (j / 64) (j % 64) i (by omega)
          rw [show 64 * (j / 64) + j % 64 = j by omega] at this
          rw [this, HY.out]
          split <;> rfl
        case measure => simp [intOf]; omega
      | false =>
        have HM := Lib.hid hm
        have HB := Lib.hid hB
        have HW := Lib.hid hW
        have HLT := Lib.hid hlt2
        clear hm hB hW hlt2 haw
        go_wp2_with (go_at_call 77; refine (mays_calls p n x wr d0 false HM).mono ?_; rintro e w1 ⟨rfl, rfl⟩)
        go_roundw
        case rel =>
          refine ⟨k + 1, by omega, by go_num, ?_, hK⟩
          rw [HT.out]
          have e1 : addOne n T x = T := by unfold addOne; rw [if_neg (of_decide_eq_false HM.out)]
          rw [e1]
          exact ⟨_, HB.out, HW.out, hpq, hp, hq, HLT.out, hn, hvn⟩
        case measure => simp [intOf]; omega
    · obtain rfl : k = ls.length := by omega
      rw [List.take_length] at hS
      go_wp2
      go_end0
      exact ⟨rfl, hS, hK⟩
set_option maxHeartbeats 1000000 in
theorem drop_calls (p q n S B : Nat) (v : Value) (ls : List Int) (w : World) (h : SetAt w p q n S) (hl : Rd .i64 w v B ls) (hB1 : B ≠ q) :
    Calls Tryd.prog 80 #[.pointer (some ⟨p, 0, none⟩), v] w fun e w' => e = .returned (.tuple #[]) ∧ SetAt w' p q n (dropAll n S ls) ∧ Keeps [q] w w' := by
  obtain ⟨a, cap, rfl, hcap, hmax⟩ := hl.shape
  have HL := Lib.hid hl
  have H0 := Lib.hid h
  clear hl h
  unfold maxLen at hmax
  go_enter Tryd.func80, Tryd.ntmps80
  go_wp2
  go_loopw [8] (fun t wr => ∃ k : Nat, k ≤ ls.length ∧ t = .int .i64 k ∧ SetAt wr p q n (dropAll n S (ls.take k)) ∧ Keeps [q] w wr) (fun t _ => ls.length - (intOf t).toNat)
  case atStart => exact ⟨0, by omega, rfl, by simpa [dropAll] using H0.out, Keeps.refl _ _⟩
  case round =>
    obtain ⟨k, hk, rfl, hS, hK⟩ := hrel
    by_cases hlt : k < ls.length
    · obtain ⟨o, cap1, hv, c0⟩ := (HL.out.keeps hK (by simpa using hB1)).get hlt
      obtain ⟨rfl, rfl⟩ : a = some ⟨B, o, none⟩ ∧ cap1 = cap := by injection hv with h1 h2 h3; exact ⟨h1, h3.symm⟩
      obtain ⟨x, hxe⟩ : ∃ x, ls.getD k 0 = x := ⟨_, rfl⟩
      rw [hxe] at c0
      have HT : Hid (dropAll n S (ls.take (k + 1)) = dropOne n (dropAll n S (ls.take k)) x) := by
        show _ = _
        rw [List.take_succ_eq_append_getElem hlt, ← hxe, getD_lt _ _ hlt, dropAll, List.foldl_append]; rfl
      obtain ⟨T, hT⟩ : ∃ T, dropAll n S (ls.take k) = T := ⟨_, rfl⟩
      rw [hT] at hS HT
      clear hxe hv hT
      obtain ⟨vw, hB, hW, hpq, hp, hq, hlt2, hn, hvn⟩ := hS
      have d0 := hB.cell 0
      have d1 := hB.cell 1
      simp at d0 d1
      obtain ⟨aw, capw, rfl, hcapw, hmaxw, haw⟩ := hW.shape
      cases hm : decide (0 ≤ x ∧ x < n) with
      | true =>
        have hr := of_decide_eq_true hm
        obtain ⟨j, rfl⟩ := Int.eq_ofNat_of_zero_le hr.1
        have hj : j < n := by omega
        have hkw : j / 64 < nw n := by unfold nw; omega
        obtain rfl := haw (by omega)
        have cw := wordsL_cell hW hkw
        have fw := hW.free (by omega) (j / 64)
        have HM := Lib.hid hm
        have hnw : nw n ≤ 48 := by unfold nw; omega
        obtain ⟨y, hy⟩ : ∃ y, word T (j / 64) = y := ⟨_, rfl⟩
        rw [hy] at cw
        have HY := Lib.hid hy
        have HB := Lib.hid hB
        have HW := Lib.hid hW
        have HLT := Lib.hid hlt2
        clear hm hy hB hW hlt2 haw
        go_wp2_with (go_at_call 77; refine (mays_calls p n (j : Int) wr d0 true HM).mono ?_; rintro e w1 ⟨rfl, rfl⟩)
        go_region
        go_wp2
        go_roundw
        case rel =>
          refine ⟨k + 1, by omega, by go_num, ?_, (hK.set (by simp) _ _).drew⟩
          rw [HT.out]
          have hb : decide (0 ≤ (j : Int) ∧ (j : Int) < n) = true := HM.out
          have e1 : dropOne n T (j : Int) = clr T j := by unfold dropOne; rw [if_pos (of_decide_eq_true hb)]; rfl
          refine SetAt.put (T := T) HB.out HW.out hpq hp hq hn hvn hkw (dropOne_lt HLT.out) fun i => ?_
          rw [e1, clr_word y (j % 64) (by rw [← HY.out]; exact word_lt _ _) (by omega)]
          have := word_clr T (j / 64) (j % 64) i (by omega)
          rw [show 64 * (j / 64) + j % 64 = j by omega] at this
          rw [this, HY.out]
          split <;> rfl
        case measure => simp [intOf]; omega
      | false =>
        have HM := Lib.hid hm
        have HB := Lib.hid hB
        have HW := Lib.hid hW
        have HLT := Lib.hid hlt2
        clear hm hB hW hlt2 haw
        go_wp2_with (go_at_call 77; refine (mays_calls p n x wr d0 false HM).mono ?_; rintro e w1 ⟨rfl, rfl⟩)
        go_roundw
        case rel =>
          refine ⟨k + 1, by omega, by go_num, ?_, hK⟩
          rw [HT.out]
          have e1 : dropOne n T x = T := by unfold dropOne; rw [if_neg (of_decide_eq_false HM.out)]
          rw [e1]
          exact ⟨_, HB.out, HW.out, hpq, hp, hq, HLT.out, hn, hvn⟩
        case measure => simp [intOf]; omega
    · obtain rfl : k = ls.length := by omega
      rw [List.take_length] at hS
      go_wp2
      go_end0
      exact ⟨rfl, hS, hK⟩
end Go.Proofs.YtfpdikhdfcppeaaDoor
