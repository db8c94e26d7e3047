/- Walks of package press. -/
import Derived.Test.YtfpdikhdfcppeaaDoorA9
namespace Go.Proofs.YtfpdikhdfcppeaaDoor
open Go.RowKit Go.Proofs

def pressMay (D : Dev) (at_ : Int) : Int := if at_ < 0 ∨ ((D.cells.length / 8 : Nat) : Int) ≤ at_ then 2 else 0

set_option maxHeartbeats 400000 in
theorem pmay_calls (b c : Nat) (D : Dev) (at_ m : Int) (w : World) (h : DevAt w b c D) (hm : Hid (pressMay D at_ = m)) :
    Calls Tryd.prog 81 #[.pointer (some ⟨b, 0, none⟩), .int .i64 at_] w fun e w' => e = .returned (.int .i64 m) ∧ w = w' := by
  rw [← hm.out]
  have hcs : D.cells.length ≤ 32768 := by obtain ⟨_, _, _, _, hs⟩ := h; exact hs
  unfold pressMay
  clear hm
  obtain ⟨n, hn⟩ : ∃ n, D.cells.length / 8 = n := ⟨_, rfl⟩
  rw [hn]
  have hn2 : n ≤ 4096 := by omega
  have HL := Lib.hid (lines_calls b c D w h)
  rw [hn] at HL
  have HN := Lib.hid hn
  clear hn hcs h
  by_cases h1 : at_ < 0
  · rw [if_pos (.inl h1)]
    go_enter Tryd.func81, Tryd.ntmps81
    go_wp2
    go_ret
    exact ⟨rfl, rfl⟩
  · by_cases h2 : (n : Int) ≤ at_
    · rw [if_pos (.inr h2)]
      go_enter Tryd.func81, Tryd.ntmps81
      go_wp2_with (go_at_call 49; refine HL.out.mono ?_; rintro e w1 ⟨rfl, rfl⟩)
      go_ret
      exact ⟨rfl, rfl⟩
    · rw [if_neg (by omega)]
      go_enter Tryd.func81, Tryd.ntmps81
      go_wp2_with (go_at_call 49; refine HL.out.mono ?_; rintro e w1 ⟨rfl, rfl⟩)
      go_ret
      exact ⟨rfl, rfl⟩

set_option maxHeartbeats 1000000 in
theorem pstore_calls (b c B : Nat) (D : Dev) (line first : Int) (v : Value) (ws : List Int) (w : World) (h : DevAt w b c D) (hr : Rd .u64 w v B ws) (hBb : B ≠ b) (hBc : B ≠ c)
    (h1 : 0 ≤ line) (h2 : line ≤ 4096) (h3 : 0 ≤ first) (h4 : first ≤ 8) (h5 : ws.length ≤ 8) :
    Calls Tryd.prog 95 #[.pointer (some ⟨b, 0, none⟩), .int .i64 line, .int .i64 first, v] w fun e w' =>
      e = .returned (.int .i64 (D.lay line first ws).1) ∧ DevAt w' b c (D.lay line first ws).2 ∧ Keeps [b, c] w w' := by
  obtain ⟨a, cap, rfl, hcap, hmax⟩ := hr.shape
  have HR := Lib.hid hr
  have HD := Lib.hid h
  clear hr h
  go_enter Tryd.func95, Tryd.ntmps95
  go_wp2
  go_loopw [14] (fun t wr => ∃ (k : Nat) (Dk : Dev), k ≤ ws.length ∧ t = .int .i64 k ∧ D.stores (line * 8 + first) (ws.take k) = (0, Dk) ∧ DevAt wr b c Dk ∧ Keeps [b, c] w wr) (fun t _ => ws.length - (intOf t).toNat)
  case atStart => exact ⟨0, D, by omega, rfl, rfl, HD.out, Keeps.refl _ _⟩
  case round =>
    obtain ⟨k, Dk, hk, rfl, hs, hD, hK⟩ := hrel
    by_cases hlt : k < ws.length
    · obtain ⟨o, cap1, hv, c0⟩ := (HR.out.keeps hK (by simp; exact ⟨hBb, hBc⟩)).get hlt
      obtain ⟨rfl, rfl⟩ : a = some ⟨B, o, none⟩ ∧ cap1 = cap := by injection hv with h1 h2 h3; exact ⟨h1, h3.symm⟩
      obtain ⟨x, hxe⟩ : ∃ x, ws.getD k 0 = x := ⟨_, rfl⟩
      rw [hxe] at c0
      have HX : Hid (ws[k]? = some x) := by show _ = _; rw [List.getElem?_eq_getElem hlt, ← hxe, getD_lt _ _ hlt]
      have HS := Lib.hid hs
      have HC := Lib.hid (store_calls b c Dk (line * 8 + first + k) x wr hD)
      clear hxe hv hs hD
      by_cases hok : (Dk.store (line * 8 + first + k) x).1 = 0
      · have HN := Lib.hid (stores_next HS.out HX.out hok)
        rw [hok] at HC
        clear hok
        go_wp2_with (go_at_call 102; refine HC.out.mono ?_; rintro e w1 ⟨rfl, hD1, hK1⟩)
        go_roundw
        case rel => exact ⟨k + 1, _, by omega, by go_num, HN.out, hD1, hK.trans hK1 (by simp)⟩
        case measure => simp [intOf]; omega
      · have HN := Lib.hid (stores_fail HS.out HX.out hok)
        have HRes : Hid (D.lay line first ws = Dk.store (line * 8 + first + k) x) := by
          show _ = _
          unfold Dev.lay
          rw [HN.out, if_pos hok]
        obtain ⟨m, hm⟩ : ∃ m, (Dk.store (line * 8 + first + k) x).1 = m := ⟨_, rfl⟩
        rw [hm] at HC hok
        have hne : (m != 0) = true := by simpa using hok
        have HM := Lib.hid hm
        clear hm hok
        go_wp2_with (go_at_call 102; refine HC.out.mono ?_; rintro e w1 ⟨rfl, hD1, hK1⟩)
        go_ret
        refine ⟨?_, ?_, hK.trans hK1 (by simp)⟩
        · rw [HRes.out, HM.out]; rfl
        · rw [HRes.out]; exact hD1
    · obtain rfl : k = ws.length := by omega
      rw [List.take_length] at hs
      have HRes : Hid (D.lay line first ws = Dk.flush line) := by show _ = _; unfold Dev.lay; rw [hs, if_neg (by simp)]
      clear hs
      go_wp2_with (go_at_call 103; refine (flush_calls b c Dk line wr hD).mono ?_; rintro e w1 ⟨rfl, hD1, hK1⟩)
      go_ret
      rw [HRes.out]
      exact ⟨rfl, hD1, hK.trans hK1 (by simp)⟩

def Dev.write (D : Dev) (at_ : Int) (bs : List Int) : Int × Dev :=
  if pressMay D at_ ≠ 0 then (2, D) else if bs.length ≠ 64 then (2, D) else D.lay at_ 0 (wordsOf bs 8)

theorem pressMay_cases (D : Dev) (at_ : Int) : pressMay D at_ = 2 ∨ (pressMay D at_ = 0 ∧ 0 ≤ at_ ∧ at_ < ((D.cells.length / 8 : Nat) : Int)) := by
  unfold pressMay
  split
  · exact .inl rfl
  · exact .inr ⟨rfl, by omega, by omega⟩

set_option maxHeartbeats 1000000 in
theorem write_calls (b c B : Nat) (D : Dev) (at_ : Int) (v : Value) (bs : List Int) (w : World) (h : DevAt w b c D) (hr : Rd .u8 w v B bs) (hb : ∀ x ∈ bs, 0 ≤ x ∧ x < 256) :
    Calls Tryd.prog 79 #[.pointer (some ⟨b, 0, none⟩), .int .i64 at_, v] w fun e w' =>
      e = .returned (.int .i64 (D.write at_ bs).1) ∧ DevAt w' b c (D.write at_ bs).2 ∧ Keeps [b, c] w w' := by
  have hcs : D.cells.length ≤ 32768 := by obtain ⟨_, _, _, _, hs⟩ := h; exact hs
  obtain ⟨a, cap, rfl, hcap, hmax⟩ := hr.shape
  have hbl : b < w.heap.size ∧ (0 < D.cells.length → c < w.heap.size) := by
    obtain ⟨_, hB, hS, _⟩ := h
    exact ⟨hB.lt, hS.lt⟩
  rcases pressMay_cases D at_ with hm | ⟨hm, h0, h1⟩
  · have hw : D.write at_ bs = (2, D) := by unfold Dev.write; rw [hm, if_pos (by omega)]
    rw [hw]
    have HM := Lib.hid hm
    clear hm hw hr
    go_enter Tryd.func79, Tryd.ntmps79
    go_wp2_with (go_at_call 81; refine (pmay_calls b c D at_ 2 w h HM).mono ?_; rintro e w1 ⟨rfl, rfl⟩)
    go_ret
    exact ⟨rfl, h, Keeps.refl _ _⟩
  · have HM := Lib.hid hm
    by_cases hl : bs.length = 64
    · have hw : D.write at_ bs = D.lay at_ 0 (wordsOf bs 8) := by unfold Dev.write; rw [hm, if_neg (by omega), if_neg (by omega)]
      rw [hw]
      have HL := Lib.hid hl
      have HR := Lib.hid hr
      have HB := Lib.hid hb
      have HWL : Hid ((wordsOf bs 8).length ≤ 8) := by show _ ≤ _; simp [wordsOf]
      have hne : ((bs.length : Int) != 64) = false := by simp [hl]
      have h88 : Hid (bs.length / 8 = 8) := by show _ = _; rw [hl]
      clear hm hw hl hr hb
      go_enter Tryd.func79, Tryd.ntmps79
      go_wp2_with (first | (go_at_call 81; refine (pmay_calls b c D at_ 0 w h HM).mono ?_; rintro e w1 ⟨rfl, rfl⟩) |
        (go_at_call 96; refine (words_calls B _ bs w HR.out HB.out (by rw [HL.out]; omega)).mono ?_; rw [h88.out]; rintro e w1 ⟨u, rfl, hO, hK1⟩; obtain ⟨hul, B2, hB2, hR2⟩ := Rd.of_owns hO; have hD1 : DevAt w1 b c D := h.keeps hK1 (by simp) (by simp) (hbl.2 (by omega)); have HUL := Lib.hid hul; clear hul hO) |
        (go_at_call 95; refine (pstore_calls b c B2 D at_ 0 u (wordsOf bs 8) w1 hD1 hR2 (by omega) (by have := hbl.2 (by omega); omega) h0 (by omega) (by omega) (by omega) HWL.out).mono ?_; rintro e w2 ⟨rfl, hD2, hK2⟩))
      go_ret
      exact ⟨rfl, hD2, (hK1.mono (S' := [b, c]) (by simp)).trans hK2 (by intro k hk _; exact hk)⟩
    · have hw : D.write at_ bs = (2, D) := by unfold Dev.write; rw [hm, if_neg (by omega), if_pos hl]
      rw [hw]
      have hne : ((bs.length : Int) != 64) = true := by simp; omega
      clear hm hw hr hl
      go_enter Tryd.func79, Tryd.ntmps79
      go_wp2_with (go_at_call 81; refine (pmay_calls b c D at_ 0 w h HM).mono ?_; rintro e w1 ⟨rfl, rfl⟩)
      go_ret
      exact ⟨rfl, h, Keeps.refl _ _⟩

def lineOf (D : Dev) (k : Nat) : List Int := ((D.cells.drop (8 * k)).take 8).map DCell.stored
def Dev.read (D : Dev) (at_ : Int) : List Int × Int :=
  if pressMay D at_ ≠ 0 then ([], 2) else if D.off = true then ([], 3) else (bytesOf (lineOf D at_.toNat), 0)

theorem load_ok (D : Dev) (i : Nat) (h : i < D.cells.length) (ho : D.off = false) : D.load i = ((D.cells.getD i default).stored, 0) := by
  unfold Dev.load Dev.may
  rw [if_neg (by simp [ho]; omega)]
  rfl
theorem load_off (D : Dev) (i : Int) (ho : D.off = true) : D.load i = (0, 3) := by
  unfold Dev.load Dev.may
  simp [ho]

set_option maxRecDepth 100000 in
set_option maxHeartbeats 1000000 in
theorem pread_calls (b c : Nat) (D : Dev) (at_ : Int) (w : World) (h : DevAt w b c D) (hpos : ∀ d ∈ D.cells, 0 ≤ d.stored) :
    Calls Tryd.prog 56 #[.pointer (some ⟨b, 0, none⟩), .int .i64 at_] w fun e w' => Any fun u => e = .returned (.tuple #[u, .int .i64 (D.read at_).2]) ∧
      w'.ownsRow w.heap.size 5 1 u (D.read at_).1.length (u8s (D.read at_).1) ∧ Keeps [] w w' := by
  have hcs : D.cells.length ≤ 32768 := by obtain ⟨_, _, _, _, hs⟩ := h; exact hs
  rcases pressMay_cases D at_ with hm | ⟨hm, h0, h1⟩
  · have hw : D.read at_ = ([], 2) := by unfold Dev.read; rw [hm, if_pos (by omega)]
    rw [hw]
    have HM := Lib.hid hm
    clear hm hw
    go_enter Tryd.func56, Tryd.ntmps56
    go_wp2_with (go_at_call 81; refine (pmay_calls b c D at_ 2 w h HM).mono ?_; rintro e w1 ⟨rfl, rfl⟩)
    go_ret2
    exact Any.mk _ ⟨rfl, World.ownsRow_nil _ _ _ _, Keeps.refl _ _⟩
  · have HM := Lib.hid hm
    obtain ⟨k0, rfl⟩ := Int.eq_ofNat_of_zero_le h0
    have hbl : b < w.heap.size ∧ (0 < D.cells.length → c < w.heap.size) := by
      obtain ⟨_, hB, hS, _⟩ := h
      exact ⟨hB.lt, hS.lt⟩
    have hcl := hbl.2 (by omega)
    cases ho : D.off with
    | true =>
      have hw : D.read k0 = ([], 3) := by unfold Dev.read; rw [hm, if_neg (by omega), if_pos ho]
      rw [hw]
      have HO := Lib.hid ho
      have HH := Lib.hid h
      clear hm hw ho h
      go_enter Tryd.func56, Tryd.ntmps56
      go_wp2_with (go_at_call 81; refine (pmay_calls b c D k0 0 w HH.out HM).mono ?_; rintro e w1 ⟨rfl, rfl⟩)
      refine wp_loop_rounds 1 ?_
      rw [rounds_succ]
      go_wp2_with fail
      refine (load_calls b c D _ _ (HH.out.keeps ((Keeps.refl [] w).alloc _) (by simp) (by simp) hcl)).mono ?_
      rw [load_off D _ HO.out]
      rintro e w1 ⟨rfl, rfl⟩
      go_wp2
      go_ret2
      exact Any.mk _ ⟨rfl, World.ownsRow_nil _ _ _ _, (Keeps.refl _ _).alloc _⟩
    | false =>
      have hw : D.read k0 = (bytesOf (lineOf D k0), 0) := by unfold Dev.read; rw [hm, if_neg (by omega), if_neg (by simp [ho])]; rfl
      rw [hw]
      have HO := Lib.hid ho
      have HH := Lib.hid h
      have HP := Lib.hid hpos
      have hk8 : 8 * k0 + 8 ≤ D.cells.length := by omega
      have hll : (lineOf D k0).length = 8 := by unfold lineOf; simp; omega
      have HLL := Lib.hid hll
      have HZ : Hid (Blk (w.alloc (.cells #[.int .u64 0, .int .u64 0, .int .u64 0, .int .u64 0, .int .u64 0, .int .u64 0, .int .u64 0, .int .u64 0] 129)) w.heap.size 129 (List.replicate 8 (.int .u64 0))) := Blk.new w 129 (List.replicate 8 (.int .u64 0))
      clear hm hw ho h hpos hll
      go_enter Tryd.func56, Tryd.ntmps56
      go_wp2_with (go_at_call 81; refine (pmay_calls b c D k0 0 w HH.out HM).mono ?_; rintro e w1 ⟨rfl, rfl⟩)
      go_loopw [17] (fun t wr => ∃ k : Nat, k ≤ 8 ∧ t = .int .i64 k ∧ Blk wr w.heap.size 129 (u64s ((lineOf D k0).take k) ++ List.replicate (8 - k) (.int .u64 0)) ∧ Keeps [] w wr) (fun t _ => 8 - (intOf t).toNat)
      case atStart => exact ⟨0, by omega, rfl, by simpa [u64s] using HZ.out, (Keeps.refl _ _).alloc _⟩
      case round =>
        obtain ⟨k, hk, rfl, hB, hK⟩ := hrel
        by_cases hlt : k < 8
        · have hD := HH.out.keeps hK (by simp) (by simp) hcl
          have hget : (lineOf D k0)[k]? = some (D.cells.getD (k0 * 8 + k) default).stored := by
            unfold lineOf
            have : k0 * 8 + k < D.cells.length := by omega
            simp [hlt, List.getD, List.getElem?_eq_getElem this, Nat.mul_comm 8 k0]
          have hld := load_ok D (k0 * 8 + k) (by omega) HO.out
          obtain ⟨x, hx⟩ : ∃ x, (D.cells.getD (k0 * 8 + k) default).stored = x := ⟨_, rfl⟩
          rw [hx] at hget hld
          have hlc := load_calls b c D ((k0 : Int) * 8 + k) wr hD
          rw [show ((k0 : Int) * 8 + k) = ((k0 * 8 + k : Nat) : Int) by omega, hld] at hlc
          rw [show ((k0 * 8 + k : Nat) : Int) = ((k0 : Int) * 8 + k) by omega] at hlc
          have HC := Lib.hid hlc
          have c0 : wr.cell? ⟨w.heap.size, k, none⟩ = some (.int .u64 0) := by
            rw [hB.cell, List.getElem?_append_right (by simp [u64s, HLL.out]; omega), List.getElem?_replicate, if_pos (by simp [u64s, HLL.out]; omega)]
          have f0 := hB.free k
          have HG := Lib.hid hget
          have HB := Lib.hid hB
          clear hD hget hld hx hlc hB
          go_wp2_with (go_at_call 82; refine HC.out.mono ?_; rintro e w1 ⟨rfl, rfl⟩)
          go_roundw
          case rel =>
            refine ⟨k + 1, by omega, by go_num, ?_, hK.set (by omega) _ _⟩
            have := HB.out.set k (.int .u64 x)
            have hl : (u64s ((lineOf D k0).take k)).length = k := by simp [u64s, HLL.out]; omega
            rw [List.set_append_right _ _ (by omega), hl, Nat.sub_self, show 8 - k = (8 - (k + 1)) + 1 by omega, List.replicate_succ] at this
            have hk2 : k < (lineOf D k0).length := by rw [HLL.out]; exact hlt
            have hxk : (lineOf D k0)[k] = x := by have := HG.out; rw [List.getElem?_eq_getElem hk2] at this; injection this
            rw [List.take_succ_eq_append_getElem hk2, hxk]
            simpa [u64s] using this
          case measure => simp [intOf]; omega
        · obtain rfl : k = 8 := by omega
          have hR : Rd .u64 wr (.slice (some ⟨w.heap.size, 0, none⟩) 8 8) w.heap.size (lineOf D k0) := by
            refine .inr ⟨0, 8, by rw [HLL.out], by rw [HLL.out]; omega, by unfold maxLen; omega, fun i hi => ?_⟩
            rw [HLL.out] at hi
            rw [hB.cell, show (lineOf D k0).take 8 = lineOf D k0 from List.take_of_length_le (by rw [HLL.out]; omega), Nat.sub_self, List.replicate_zero, List.append_nil, getD_lt _ _ (by rw [HLL.out]; exact hi)]
            simp [u64s, HLL.out, hi]
          have HR := Lib.hid hR
          clear hR hB
          go_wp2_with (go_at_call 83; refine (octets_calls w.heap.size _ (lineOf D k0) wr HR.out (by intro x hx; obtain ⟨d, hd, rfl⟩ := List.mem_map.1 hx; exact HP.out d (List.mem_of_mem_drop (List.mem_of_mem_take hd))) (by rw [HLL.out]; omega)).mono ?_; rintro e w1 ⟨u, rfl, hO, hK1⟩)
          go_ret2
          refine Any.mk u ⟨rfl, ?_, hK.trans hK1 (by simp)⟩
          rw [bytesOf_length]
          exact ownsRow_base hO hK.size

theorem sure_calls (b c : Nat) (D : Dev) (w : World) (h : DevAt w b c D) :
    Calls Tryd.prog 58 #[.pointer (some ⟨b, 0, none⟩)] w fun e w' => e = .returned (.int .i64 D.fence.1) ∧ DevAt w' b c D.fence.2 ∧ Keeps [b, c] w w' := by
  go_enter Tryd.func58, Tryd.ntmps58
  go_wp2_with (go_at_call 84; refine (fence_calls b c D w h).mono ?_; rintro e w1 ⟨rfl, hD, hK⟩)
  go_ret
  exact ⟨rfl, hD, hK⟩
end Go.Proofs.YtfpdikhdfcppeaaDoor
