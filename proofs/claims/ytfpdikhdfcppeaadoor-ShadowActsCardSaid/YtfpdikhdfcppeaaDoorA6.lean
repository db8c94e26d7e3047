/- Walks of package bits: counting, listing, copying. -/
import Derived.Test.YtfpdikhdfcppeaaDoorA5
namespace Go.Proofs.YtfpdikhdfcppeaaDoor
open Go.RowKit Go.Proofs

def i64s (l : List Int) : List Value := l.map (Value.int .i64)

set_option maxHeartbeats 1000000 in
theorem count_calls (p q n S : Nat) (w : World) (h : SetAt w p q n S) :
    Calls Tryd.prog 93 #[.pointer (some ⟨p, 0, none⟩)] w fun e w' => e = .returned (.int .i64 ((bitsUp n S).length : Nat)) ∧ w = w' := by
  obtain ⟨v, hB, hS, hpq, hp, hq, hlt, hn, hvn⟩ := h
  have c1 := hB.cell 1
  simp at c1
  obtain ⟨a, cap, rfl, hcap, hmax, ha⟩ := hS.shape
  have hnw : nw n ≤ 48 := by unfold nw; omega
  have hle : ∀ k, (upTo S k).length ≤ 64 * k := fun k => by unfold upTo bitsUp; exact Nat.le_trans (List.length_filter_le _ _) (by simp)
  have HS := Lib.hid hS
  have HA := Lib.hid ha
  have HLE := Lib.hid hle
  clear hS ha hle hB
  go_enter Tryd.func93, Tryd.ntmps93
  go_wp2
  clear c1
  go_loop [3, 11] (fun u t => ∃ k : Nat, k ≤ nw n ∧ t = .int .i64 k ∧ u = .int .i64 ((upTo S k).length : Nat)) (fun _ t => nw n - (intOf t).toNat)
  case atStart => exact ⟨0, by omega, rfl, by simp [upTo, bitsUp]⟩
  case round =>
    obtain ⟨k, hk, rfl, rfl⟩ := hrel
    have hb := HLE.out k
    obtain ⟨s, hs⟩ : ∃ s, (upTo S k).length = s := ⟨_, rfl⟩
    rw [hs] at hb
    by_cases hlt2 : k < nw n
    · obtain rfl := HA.out (by omega)
      have cw := wordsL_cell HS.out hlt2
      have hsn := upTo_count S k
      rw [hs] at hsn
      have hb2 := HLE.out (k + 1)
      obtain ⟨x, hx⟩ : ∃ x, word S k = x := ⟨_, rfl⟩
      have hxl : Hid (x < 18446744073709551616) := by show x < _; rw [← hx]; exact word_lt _ _
      rw [hx] at cw hsn
      rw [hsn] at hb2
      rw [hs]
      have HSN := Lib.hid hsn
      clear hs hx hsn
      go_wp2_with (go_at_call 101; refine (ones_calls x w hxl.out).mono ?_; rintro e w1 ⟨rfl, rfl⟩)
      go_round
      case rel => exact ⟨k + 1, by omega, by go_num, by rw [HSN.out]; go_num⟩
      case measure => simp [intOf]; omega
    · obtain rfl : k = nw n := by omega
      rw [hs]
      rw [upTo_nw n S hlt] at hs
      have HSS := Lib.hid hs
      clear hs
      go_wp2
      go_ret
      exact ⟨by rw [HSS.out]; rfl, rfl⟩

def gapFrom (n S f : Nat) : Int := match (List.range n).find? (fun i => decide (f ≤ i) && !S.testBit i) with | some i => (i : Int) | none => -1
theorem gapFrom_some {n S f k : Nat} (hf : f ≤ k) (hk : k < n) (hb : S.testBit k = false) (h : ∀ i, f ≤ i → i < k → S.testBit i = true) : gapFrom n S f = k := by
  unfold gapFrom
  have : (List.range n).find? (fun i => decide (f ≤ i) && !S.testBit i) = some k := by
    rw [List.find?_range_eq_some]
    refine ⟨by simp [hf, hb], List.mem_range.2 hk, fun j hj => ?_⟩
    by_cases h2 : f ≤ j
    · simp [h2, h j h2 hj]
    · simp [h2]
  rw [this]
theorem gapFrom_none {n S f : Nat} (h : ∀ i, f ≤ i → i < n → S.testBit i = true) : gapFrom n S f = -1 := by
  unfold gapFrom
  have : (List.range n).find? (fun i => decide (f ≤ i) && !S.testBit i) = none := by
    rw [List.find?_eq_none]
    intro j hj
    have := List.mem_range.1 hj
    by_cases h2 : f ≤ j
    · simp [h2, h j h2 this]
    · simp [h2]
  rw [this]

set_option maxHeartbeats 1000000 in
theorem gap_calls (p q n S f : Nat) (w : World) (h : SetAt w p q n S) (hf0 : f ≤ 100000) :
    Calls Tryd.prog 94 #[.pointer (some ⟨p, 0, none⟩), .int .i64 f] w fun e w' => e = .returned (.int .i64 (gapFrom n S f)) ∧ w = w' := by
  have h0 := h
  obtain ⟨v, hB, hS, hpq, hp, hq, hlt, hn, hvn⟩ := h
  have c0 := hB.cell 0
  simp at c0
  clear hS hB hlt
  go_enter Tryd.func94, Tryd.ntmps94
  go_wp2
  go_loop [5] (fun t => ∃ k : Nat, f ≤ k ∧ k ≤ 100000 ∧ t = .int .i64 k ∧ ∀ i, f ≤ i → i < k → S.testBit i = true) (fun t => 100001 - (intOf t).toNat)
  case atStart => exact ⟨f, Nat.le_refl _, hf0, rfl, fun i h1 h2 => by omega⟩
  case round =>
    obtain ⟨k, hfk, hk, rfl, hall⟩ := hrel
    have HAll := Lib.hid hall
    clear hall
    by_cases hlt2 : k < n
    · cases hb : S.testBit k with
      | true =>
        have HB := Lib.hid hb
        have hres : hasBit n S (k : Int) = true := by unfold hasBit; simp [hb, hlt2]
        have HR := Lib.hid hres
        clear hb hres
        go_wp2_with (go_at_call 53; refine (has_calls p q n S (k : Int) w h0).mono ?_; rw [HR.out]; rintro e w1 ⟨rfl, rfl⟩)
        go_round
        case rel =>
          refine ⟨k + 1, by omega, by omega, by go_num, fun i h1 h2 => ?_⟩
          by_cases e : i = k
          · subst e; exact HB.out
          · exact HAll.out i h1 (by omega)
        case measure => simp [intOf]; omega
      | false =>
        have hres : hasBit n S (k : Int) = false := by unfold hasBit; simp [hb]
        have HR := Lib.hid hres
        have HG := Lib.hid (gapFrom_some hfk hlt2 hb HAll.out)
        clear hb hres
        go_wp2_with (go_at_call 53; refine (has_calls p q n S (k : Int) w h0).mono ?_; rw [HR.out]; rintro e w1 ⟨rfl, rfl⟩)
        go_ret
        exact ⟨by rw [HG.out]; rfl, rfl⟩
    · have HG := Lib.hid (gapFrom_none (n := n) (S := S) (f := f) fun i h1 h2 => HAll.out i h1 (by omega))
      go_wp2
      go_ret
      exact ⟨by rw [HG.out]; rfl, rfl⟩

theorem bitsUp_zero (n : Nat) : bitsUp n 0 = [] := by unfold bitsUp; rw [List.filter_eq_nil_iff]; intro i _; simp
theorem and_pred (x : Nat) (hx : x < 18446744073709551616) (h0 : x ≠ 0) : bits .and .u64 (x : Int) (IntKind.u64.wrap ((x : Int) - 1)) = ((x &&& (x - 1) : Nat) : Int) ∧ x &&& (x - 1) < x := by
  have e : (x : Int) - 1 = ((x - 1 : Nat) : Int) := by omega
  rw [e, u64_of_nat _ (by omega), bits_and_u64_nat x (x - 1) hx (by omega)]
  have : x &&& (x - 1) ≤ x - 1 := Nat.and_le_right
  exact ⟨rfl, by omega⟩

set_option maxRecDepth 100000 in
set_option maxHeartbeats 2000000 in
theorem list_calls (p q n S : Nat) (w : World) (h : SetAt w p q n S) (hT : Tab w) :
    Calls Tryd.prog 23 #[.pointer (some ⟨p, 0, none⟩)] w fun e w' => Any fun u => e = .returned u ∧ w'.ownsRow w.heap.size 3 1 u (ups n S).length (i64s (ups n S)) ∧ Keeps [] w w' := by
  obtain ⟨i0, hi, hz0, hz1, hz2⟩ := info_parts info_int
  obtain ⟨v, hB, hS, hpq, hp, hq, hlt, hn, hvn⟩ := h
  have c1 := hB.cell 1
  simp at c1
  obtain ⟨a, cap, rfl, hcap, hmax, ha⟩ := hS.shape
  have hnw : nw n ≤ 48 := by unfold nw; omega
  have hle : ∀ k, (upTo S k).length ≤ 64 * k := fun k => by unfold upTo bitsUp; exact Nat.le_trans (List.length_filter_le _ _) (by simp)
  have HS := Lib.hid hS
  have HA := Lib.hid ha
  have HLE := Lib.hid hle
  have HT := Lib.hid hT
  clear hS ha hle hB hT
  go_enter Tryd.func23, Tryd.ntmps23
  go_wp2
  clear c1
  go_loopw [3, 11] (fun u t wr => ∃ k : Nat, k ≤ nw n ∧ t = .int .i64 k ∧ wr.ownsRow w.heap.size 3 1 u (upTo S k).length (i64s ((upTo S k).map Int.ofNat)) ∧ Keeps [] w wr) (fun _ t _ => nw n - (intOf t).toNat)
  case atStart => exact ⟨0, by omega, rfl, by simpa [upTo, bitsUp, i64s] using World.ownsRow_nil w w.heap.size 3 1, Keeps.refl _ _⟩
  case round =>
    obtain ⟨k, hk, rfl, hO, hK⟩ := hrel
    by_cases hlt2 : k < nw n
    · obtain rfl := HA.out (by omega)
      have hqn : q < w.heap.size := HS.out.lt (by omega)
      have cw := wordsL_cell (HS.out.same (hK.block q hqn (by simp))) hlt2
      obtain ⟨x, hx⟩ : ∃ x, word S k = x := ⟨_, rfl⟩
      have hxl : Hid (x < 18446744073709551616) := by show x < _; rw [← hx]; exact word_lt _ _
      rw [hx] at cw
      have HX := Lib.hid hx
      have HO := Lib.hid hO
      have HK := Lib.hid hK
      clear hx hO hK
      obtain ⟨wo, hwo⟩ : ∃ wo : World, wo = wr := ⟨_, rfl⟩
      subst hwo
      go_wp2
      go_loopw [3, 5] (fun u t wr => ∃ (y : Nat) (L : List Nat), t = .int .u64 y ∧ y < 18446744073709551616 ∧ L ++ (bitsUp 64 y).map (64 * k + ·) = upTo S (k + 1) ∧ wr.ownsRow w.heap.size 3 1 u L.length (i64s (L.map Int.ofNat)) ∧ Keeps [] w wr) (fun _ t _ => (intOf t).toNat)
      case atStart => exact ⟨x, upTo S k, rfl, hxl.out, by rw [upTo_succ, HX.out], HO.out, HK.out⟩
      case round =>
        obtain ⟨y, L, rfl, hy, hL, hO, hK⟩ := hrel
        have HL := Lib.hid hL
        have HO1 := Lib.hid hO
        have HK1 := Lib.hid hK
        have HY := Lib.hid hy
        clear hL hO hy
        by_cases hy0 : y = 0
        · subst hy0
          clear hK
          go_wp2
          go_roundw
          case rel =>
            refine ⟨k + 1, by omega, by go_num, ?_, HK1.out⟩
            have e : L = upTo S (k + 1) := by have := HL.out; rw [bitsUp_zero] at this; simpa using this
            rw [← e]; exact HO1.out
          case measure => simp [intOf]; omega
        · obtain ⟨ht, hbits, hclr⟩ := ctz_facts y hy0 HY.out
          obtain ⟨hand, hlty⟩ := and_pred y HY.out hy0
          have hLl := HLE.out (k + 1)
          rw [← HL.out] at hLl
          simp only [List.length_append, List.length_map] at hLl
          obtain ⟨z, hz⟩ : ∃ z, y &&& (y - 1) = z := ⟨_, rfl⟩
          rw [hz] at hand hbits hlty
          have htz := tz_calls y wr HY.out hy0 (HT.out.keeps hK (by simp))
          obtain ⟨tz, htz2⟩ : ∃ tz, Lib.ctz 64 y = tz := ⟨_, rfl⟩
          rw [htz2] at ht hbits htz
          have HTZ := Lib.hid htz
          have HBits := Lib.hid hbits
          have hne : ((y : Int) != 0) = true := by simp; omega
          clear hz hclr htz htz2 hbits hK hy0
          go_wp2_with (first | (go_at_call 57; refine HTZ.out.mono ?_; rintro e w1 ⟨rfl, rfl⟩) |
            (at_builtin; refine wpList_append_own _ rfl _ _ 54 rfl w.heap.size 3 i0 (.int .i64 0) 1 8 Tryd.underlying54 hi hz0 hz1 hz2 rfl (by decide) _ _ _ rfl (HO1.out.alloc _) ⟨wr.heap.size, 0, none⟩ 1 1 [.int .i64 ((k : Int) * 64 + tz)] rfl rfl ?c1 ?c2 ?c3 ?c4 ?c5 ?_))
          case c1 => exact one_cell_new wr _ _
          case c2 => intro u hu; simp at hu; subst hu; rfl
          case c3 => unfold maxLen; omega
          case c4 => omega
          case c5 => simp only [World.size_alloc]; exact Nat.le_succ_of_le HK1.out.size
          intro v2 w2 hO2 hG2 hnil
          have hG3 := Lib.hid hG2
          have hO3 := Lib.hid hO2
          clear hG2 hO2 hnil
          go_wp2
          go_roundw
          case rel =>
            have hy := HY.out
            refine ⟨z, L ++ [64 * k + tz], rfl, by omega, ?_, ?_, ?_⟩
            · have := HL.out
              rw [HBits.out] at this
              simpa using this
            · have := hO3.out
              simp only [List.length_append, List.length_cons, List.length_nil, List.map_append, List.map_cons, List.map_nil, i64s, Nat.zero_add] at this ⊢
              rw [show Int.ofNat (64 * k + tz) = (k : Int) * 64 + (tz : Int) by rw [Int.ofNat_eq_natCast]; omega]
              exact this
            · refine (HK1.out.alloc _).grown hG3.out fun j hj hlt3 => ?_
              have := (HO1.out.lt j hj).1
              omega
          case measure => simp [intOf]; omega
    · obtain rfl : k = nw n := by omega
      rw [upTo_nw n S hlt] at hO
      go_wp2
      go_ret
      refine Any.mk _ ⟨rfl, ?_, hK⟩
      simpa [ups] using hO
end Go.Proofs.YtfpdikhdfcppeaaDoor
