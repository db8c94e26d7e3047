/- Walks of package pmem: what lasts, and what was stored, as octets. -/
import Derived.Test.YtfpdikhdfcppeaaDoorA3
namespace Go.Proofs.YtfpdikhdfcppeaaDoor
open Go.RowKit Go.Proofs

set_option maxHeartbeats 400000 in
theorem Image_one (g o : Nat) (x : Int) (w : World) (h0 : w.cell? ⟨g, o, none⟩ = some (.int .u64 x)) :
    Calls Tryd.prog 60 #[.pointer (some ⟨g, o, none⟩)] w fun e w' => e = .returned (.int .u64 x) ∧ w = w' := by
  go_enter Tryd.func60, Tryd.ntmps60
  go_wp2
  go_ret
  exact ⟨rfl, rfl⟩

set_option maxRecDepth 100000 in
set_option maxHeartbeats 1000000 in
theorem octets_Image (b c : Nat) (D : Dev) (w : World) (h : DevAt w b c D) (hpos : ∀ d ∈ D.cells, 0 ≤ d.lasts) :
    Calls Tryd.prog 59 #[.pointer (some ⟨b, 0, none⟩), .func (.func 60) #[] #[]] w fun e w' => Any fun u => e = .returned u ∧
      w'.ownsRow w.heap.size 5 1 u (D.cells.length * 8) (u8s (bytesOf (D.cells.map DCell.lasts))) ∧ Keeps [] w w' := by
  obtain ⟨i0, hi, hz0, hz1, hz2⟩ := info_parts info_u64
  obtain ⟨v, hB, hS, hne, hs⟩ := h
  obtain ⟨a, cap, rfl, hcap, hmax, ha⟩ := hS.shape
  have c0 := hB.cell 0
  simp at c0
  obtain ⟨n, hn⟩ : ∃ n, D.cells.length = n := ⟨_, rfl⟩
  rw [hn] at c0 hS hB hcap ha hs ⊢
  have HN := Lib.hid hn
  have HP := Lib.hid hpos
  clear hn hpos
  have hmk := run_make (P := Tryd.prog) w 80 107 i0 _ Tryd.underlying80 hi hz0 .i64 .i64 (n : Int) (n : Int) (by omega) (by omega) (by rw [hz2]; omega) (by omega)
  rw [hz1] at hmk
  simp only [Value.cells] at hmk
  rw [made_one] at hmk
  simp at hmk
  clear hz0 hz1 hz2 hi
  have hbl := hB.lt
  have HB := Lib.hid hB
  have HS := Lib.hid hS
  clear hB hS
  go_enter Tryd.func59, Tryd.ntmps59
  go_wp2
  clear c0 hmk
  go_loopw [18] (fun t wr => ∃ k : Nat, k ≤ n ∧ t = .int .i64 k ∧ Blk wr w.heap.size 107 (u64s ((D.cells.take k).map DCell.lasts) ++ List.replicate (n - k) (.int .u64 0)) ∧ Keeps [] w wr) (fun t _ => n - (intOf t).toNat)
  case atStart =>
    refine ⟨0, by omega, rfl, ?_, (Keeps.refl _ _).alloc _⟩
    have := Blk.new w 107 (List.replicate n (.int .u64 0))
    simpa [u64s] using this
  case round =>
    obtain ⟨k, hk, rfl, hW, hK⟩ := hrel
    by_cases hlt : k < n
    · obtain rfl := ha (by omega)
      obtain ⟨d, hd⟩ : ∃ d, D.cells[k]? = some d := ⟨_, List.getElem?_eq_getElem (by rw [HN.out]; exact hlt)⟩
      have hcl := HS.out.lt (by omega)
      have c0 := (hK.blk HB.out (by simp)).cell 0
      simp at c0
      have c1 : wr.cell? ⟨c, k * 4, none⟩ = some (.int .u64 d.lasts) := (cell_facts (HS.out.same (hK.block c hcl (by simp))) HN.out hd).1
      have z0 : wr.cell? ⟨w.heap.size, k, none⟩ = some (.int .u64 0) := by
        rw [hW.cell, List.getElem?_append_right (by simp [u64s]; omega)]
        rw [List.getElem?_replicate, if_pos (by simp [u64s]; have := HN.out; omega)]
      have zf := hW.free k
      obtain ⟨x, hx⟩ : ∃ x, d.lasts = x := ⟨_, rfl⟩
      rw [hx] at c1
      have HX := Lib.hid hx
      have HD := Lib.hid hd
      have HW := Lib.hid hW
      clear hd hx hW
      go_wp2_with (go_at_call 60; refine (Image_one c (k * 4) x wr c1).mono ?_; rintro e w1 ⟨rfl, rfl⟩)
      go_roundw
      case rel =>
        refine ⟨k + 1, by omega, by go_num, ?_, hK.set (by omega) _ _⟩
        have := HW.out.set k (.int .u64 x)
        have hl : (u64s ((D.cells.take k).map DCell.lasts)).length = k := by simp [u64s]; have := HN.out; omega
        rw [List.set_append_right _ _ (by omega), hl] at this
        have h1 : n - k = (n - (k + 1)) + 1 := by omega
        have hk2 : k < D.cells.length := by rw [HN.out]; exact hlt
        have hdk : D.cells[k] = d := by have := HD.out; rw [List.getElem?_eq_getElem hk2] at this; injection this
        rw [h1, List.replicate_succ] at this
        rw [List.take_succ_eq_append_getElem hk2, hdk]
        simpa [u64s, HX.out] using this
      case measure => simp [intOf]; omega
    · obtain rfl : k = n := by omega
      have hR : Rd .u64 wr (.slice (some ⟨w.heap.size, 0, none⟩) k k) w.heap.size (D.cells.map DCell.lasts) := by
        refine .inr ⟨0, k, by simp [HN.out], by simp [HN.out], by unfold maxLen; omega, fun i hi => ?_⟩
        simp only [List.length_map] at hi
        rw [hW.cell, show D.cells.take k = D.cells from List.take_of_length_le (by have := HN.out; omega), Nat.sub_self, List.replicate_zero, List.append_nil, getD_lt _ _ (by simpa using hi)]
        simp [u64s, hi]
      have HW := Lib.hid hR
      clear hW
      go_wp2_with (go_at_call 83; refine (octets_calls w.heap.size _ (D.cells.map DCell.lasts) wr HW.out (by intro x hx; obtain ⟨d, hd, rfl⟩ := List.mem_map.1 hx; exact HP.out d hd) (by rw [List.length_map, HN.out]; omega)).mono ?_; rintro e w1 ⟨u, rfl, hO, hK1⟩)
      go_ret
      refine Any.mk _ ⟨rfl, ?_, hK.trans hK1 (by simp)⟩
      have := ownsRow_base hO hK.size
      simpa [HN.out] using this

set_option maxHeartbeats 400000 in
theorem Image_calls (b c : Nat) (D : Dev) (w : World) (h : DevAt w b c D) (hpos : ∀ d ∈ D.cells, 0 ≤ d.lasts) :
    Calls Tryd.prog 29 #[.pointer (some ⟨b, 0, none⟩)] w fun e w' => Any fun u => e = .returned u ∧
      w'.ownsRow w.heap.size 5 1 u (D.cells.length * 8) (u8s (bytesOf (D.cells.map DCell.lasts))) ∧ Keeps [] w w' := by
  go_enter Tryd.func29, Tryd.ntmps29
  go_wp2_with (go_at_call 59; refine (octets_Image b c D w h hpos).mono ?_; rintro e w1 ⟨u, rfl, hO, hK1⟩)
  go_ret
  exact Any.mk _ ⟨rfl, hO, hK1⟩

set_option maxHeartbeats 400000 in
theorem View_one (g o : Nat) (x : Int) (w : World) (h0 : w.cell? ⟨g, o + 1, none⟩ = some (.int .u64 x)) :
    Calls Tryd.prog 75 #[.pointer (some ⟨g, o, none⟩)] w fun e w' => e = .returned (.int .u64 x) ∧ w = w' := by
  go_enter Tryd.func75, Tryd.ntmps75
  go_wp2
  go_ret
  exact ⟨rfl, rfl⟩

set_option maxRecDepth 100000 in
set_option maxHeartbeats 1000000 in
theorem octets_View (b c : Nat) (D : Dev) (w : World) (h : DevAt w b c D) (hpos : ∀ d ∈ D.cells, 0 ≤ d.stored) :
    Calls Tryd.prog 59 #[.pointer (some ⟨b, 0, none⟩), .func (.func 75) #[] #[]] w fun e w' => Any fun u => e = .returned u ∧
      w'.ownsRow w.heap.size 5 1 u (D.cells.length * 8) (u8s (bytesOf (D.cells.map DCell.stored))) ∧ Keeps [] w w' := by
  obtain ⟨i0, hi, hz0, hz1, hz2⟩ := info_parts info_u64
  obtain ⟨v, hB, hS, hne, hs⟩ := h
  obtain ⟨a, cap, rfl, hcap, hmax, ha⟩ := hS.shape
  have c0 := hB.cell 0
  simp at c0
  obtain ⟨n, hn⟩ : ∃ n, D.cells.length = n := ⟨_, rfl⟩
  rw [hn] at c0 hS hB hcap ha hs ⊢
  have HN := Lib.hid hn
  have HP := Lib.hid hpos
  clear hn hpos
  have hmk := run_make (P := Tryd.prog) w 80 107 i0 _ Tryd.underlying80 hi hz0 .i64 .i64 (n : Int) (n : Int) (by omega) (by omega) (by rw [hz2]; omega) (by omega)
  rw [hz1] at hmk
  simp only [Value.cells] at hmk
  rw [made_one] at hmk
  simp at hmk
  clear hz0 hz1 hz2 hi
  have hbl := hB.lt
  have HB := Lib.hid hB
  have HS := Lib.hid hS
  clear hB hS
  go_enter Tryd.func59, Tryd.ntmps59
  go_wp2
  clear c0 hmk
  go_loopw [18] (fun t wr => ∃ k : Nat, k ≤ n ∧ t = .int .i64 k ∧ Blk wr w.heap.size 107 (u64s ((D.cells.take k).map DCell.stored) ++ List.replicate (n - k) (.int .u64 0)) ∧ Keeps [] w wr) (fun t _ => n - (intOf t).toNat)
  case atStart =>
    refine ⟨0, by omega, rfl, ?_, (Keeps.refl _ _).alloc _⟩
    have := Blk.new w 107 (List.replicate n (.int .u64 0))
    simpa [u64s] using this
  case round =>
    obtain ⟨k, hk, rfl, hW, hK⟩ := hrel
    by_cases hlt : k < n
    · obtain rfl := ha (by omega)
      obtain ⟨d, hd⟩ : ∃ d, D.cells[k]? = some d := ⟨_, List.getElem?_eq_getElem (by rw [HN.out]; exact hlt)⟩
      have hcl := HS.out.lt (by omega)
      have c0 := (hK.blk HB.out (by simp)).cell 0
      simp at c0
      have c1 : wr.cell? ⟨c, k * 4 + 1, none⟩ = some (.int .u64 d.stored) := (cell_facts (HS.out.same (hK.block c hcl (by simp))) HN.out hd).2.1
      have z0 : wr.cell? ⟨w.heap.size, k, none⟩ = some (.int .u64 0) := by
        rw [hW.cell, List.getElem?_append_right (by simp [u64s]; omega)]
        rw [List.getElem?_replicate, if_pos (by simp [u64s]; have := HN.out; omega)]
      have zf := hW.free k
      obtain ⟨x, hx⟩ : ∃ x, d.stored = x := ⟨_, rfl⟩
      rw [hx] at c1
      have HX := Lib.hid hx
      have HD := Lib.hid hd
      have HW := Lib.hid hW
      clear hd hx hW
      go_wp2_with (go_at_call 75; refine (View_one c (k * 4) x wr c1).mono ?_; rintro e w1 ⟨rfl, rfl⟩)
      go_roundw
      case rel =>
        refine ⟨k + 1, by omega, by go_num, ?_, hK.set (by omega) _ _⟩
        have := HW.out.set k (.int .u64 x)
        have hl : (u64s ((D.cells.take k).map DCell.stored)).length = k := by simp [u64s]; have := HN.out; omega
        rw [List.set_append_right _ _ (by omega), hl] at this
        have h1 : n - k = (n - (k + 1)) + 1 := by omega
        have hk2 : k < D.cells.length := by rw [HN.out]; exact hlt
        have hdk : D.cells[k] = d := by have := HD.out; rw [List.getElem?_eq_getElem hk2] at this; injection this
        rw [h1, List.replicate_succ] at this
        rw [List.take_succ_eq_append_getElem hk2, hdk]
        simpa [u64s, HX.out] using this
      case measure => simp [intOf]; omega
    · obtain rfl : k = n := by omega
      have hR : Rd .u64 wr (.slice (some ⟨w.heap.size, 0, none⟩) k k) w.heap.size (D.cells.map DCell.stored) := by
        refine .inr ⟨0, k, by simp [HN.out], by simp [HN.out], by unfold maxLen; omega, fun i hi => ?_⟩
        simp only [List.length_map] at hi
        rw [hW.cell, show D.cells.take k = D.cells from List.take_of_length_le (by have := HN.out; omega), Nat.sub_self, List.replicate_zero, List.append_nil, getD_lt _ _ (by simpa using hi)]
        simp [u64s, hi]
      have HW := Lib.hid hR
      clear hW
      go_wp2_with (go_at_call 83; refine (octets_calls w.heap.size _ (D.cells.map DCell.stored) wr HW.out (by intro x hx; obtain ⟨d, hd, rfl⟩ := List.mem_map.1 hx; exact HP.out d hd) (by rw [List.length_map, HN.out]; omega)).mono ?_; rintro e w1 ⟨u, rfl, hO, hK1⟩)
      go_ret
      refine Any.mk _ ⟨rfl, ?_, hK.trans hK1 (by simp)⟩
      have := ownsRow_base hO hK.size
      simpa [HN.out] using this

set_option maxHeartbeats 400000 in
theorem View_calls (b c : Nat) (D : Dev) (w : World) (h : DevAt w b c D) (hpos : ∀ d ∈ D.cells, 0 ≤ d.stored) :
    Calls Tryd.prog 43 #[.pointer (some ⟨b, 0, none⟩)] w fun e w' => Any fun u => e = .returned u ∧
      w'.ownsRow w.heap.size 5 1 u (D.cells.length * 8) (u8s (bytesOf (D.cells.map DCell.stored))) ∧ Keeps [] w w' := by
  go_enter Tryd.func43, Tryd.ntmps43
  go_wp2_with (go_at_call 59; refine (octets_View b c D w h hpos).mono ?_; rintro e w1 ⟨u, rfl, hO, hK1⟩)
  go_ret
  exact Any.mk _ ⟨rfl, hO, hK1⟩
end Go.Proofs.YtfpdikhdfcppeaaDoor
