/- Walks: shadow.New; the law's Made, whole, awake. -/
import Derived.Test.YtfpdikhdfcppeaaDoorB3
namespace Go.Proofs.YtfpdikhdfcppeaaDoor
open Go.RowKit Go.Proofs

set_option maxHeartbeats 400000 in
theorem newstore_nil1 (v : Value) (w : World) : Calls Tryd.prog 12 #[.pointer none, v] w fun e w' => e = .returned (.tuple #[.pointer none, .int .i64 1]) ∧ w = w' := by
  go_enter Tryd.func12, Tryd.ntmps12
  go_wp2
  go_ret2
  exact ⟨rfl, rfl⟩
set_option maxHeartbeats 400000 in
theorem newstore_nil2 (b : Nat) (w : World) : Calls Tryd.prog 12 #[.pointer (some ⟨b, 0, none⟩), .pointer none] w fun e w' => e = .returned (.tuple #[.pointer none, .int .i64 1]) ∧ w = w' := by
  go_enter Tryd.func12, Tryd.ntmps12
  go_wp2
  go_ret2
  exact ⟨rfl, rfl⟩

section
variable (b c a n : Nat) (r : Int) (D : Dev) (M : Nat → Nat) (F : List Nat) (w : World) (hD : DevAt w b c D) (hA : AllocAt w a n r M F) (hT : Tab w)
include hD hA hT

set_option maxHeartbeats 400000 in
theorem newstore_bad (hcl : c < w.heap.size) (hn : D.cells.length / 8 < n) :
    Calls Tryd.prog 12 #[.pointer (some ⟨b, 0, none⟩), .pointer (some ⟨a, 0, none⟩)] w fun e w' => e = .returned (.tuple #[.pointer none, .int .i64 2]) ∧ Keeps [] w w' := by
  have hw := Lib.hid (works_calls a n r M F w hA hT)
  obtain ⟨k, hk⟩ : ∃ k, D.cells.length / 8 = k := ⟨_, rfl⟩
  have HK := Lib.hid hk
  rw [hk] at hn
  clear hk
  go_enter Tryd.func12, Tryd.ntmps12
  go_wp2_with (first | (go_at_call 22; refine hw.out.mono ?_; rintro e w1 ⟨p1, q1, rfl, hS1, hK1, _, _⟩) |
    (go_at_call 46; refine (size_calls p1 q1 n _ w1 hS1).mono ?_; rintro e w2 ⟨rfl, rfl⟩) |
    (go_at_call 49; refine (lines_calls b c D w1 (hD.keeps hK1 (by simp) (by simp) hcl)).mono ?_; rw [HK.out]; rintro e w2 ⟨rfl, rfl⟩))
  go_ret2
  exact ⟨rfl, hK1⟩

set_option maxHeartbeats 400000 in
theorem newstore_good (hcl : c < w.heap.size) (hn : n ≤ D.cells.length / 8) (hb : b ∉ F) (hc : c ∉ F) (hb0 : 0 < b) (hc0 : 0 < c) (hok : D.Ok) :
    Calls Tryd.prog 12 #[.pointer (some ⟨b, 0, none⟩), .pointer (some ⟨a, 0, none⟩)] w fun e w' => Any fun s => e = .returned (.tuple #[.pointer (some ⟨s, 0, none⟩), .int .i64 0]) ∧
      ShAt w' s b c a n r D M F ∧ Keeps [] w w' ∧ w.heap.size ≤ s := by
  have hw := Lib.hid (works_calls a n r M F w hA hT)
  obtain ⟨k, hk⟩ : ∃ k, D.cells.length / 8 = k := ⟨_, rfl⟩
  have HK := Lib.hid hk
  rw [hk] at hn
  clear hk
  go_enter Tryd.func12, Tryd.ntmps12
  go_wp2_with (first | (go_at_call 22; refine hw.out.mono ?_; rintro e w1 ⟨p1, q1, rfl, hS1, hK1, _, _⟩) |
    (go_at_call 46; refine (size_calls p1 q1 n _ w1 hS1).mono ?_; rintro e w2 ⟨rfl, rfl⟩) |
    (go_at_call 49; refine (lines_calls b c D w1 (hD.keeps hK1 (by simp) (by simp) hcl)).mono ?_; rw [HK.out]; rintro e w2 ⟨rfl, rfl⟩))
  go_ret2
  have hsz := hK1.size
  have hbl : b < w.heap.size := by obtain ⟨_, hB, _⟩ := hD; exact hB.lt
  have hK2 : Keeps [] w (w1.alloc (.cells #[.pointer (some ⟨b, 0, none⟩), .pointer (some ⟨a, 0, none⟩)] 102)) := hK1.alloc _
  refine Any.mk w1.heap.size ⟨rfl, ⟨Blk.new w1 _ [.pointer (some ⟨b, 0, none⟩), .pointer (some ⟨a, 0, none⟩)], hD.keeps hK2 (by simp) (by simp) hcl, hA.keeps hK2 (by simp), ?_, hb, hc, ⟨by omega, hb0, hc0⟩, by simp; omega, hT.keeps hK2 (by simp), hok⟩, hK2, hsz⟩
  simp only [List.mem_cons, not_or]
  exact ⟨by omega, by omega, fun h => by have := (hA.lt _ h).2; omega⟩
end

set_option maxRecDepth 100000 in
set_option maxHeartbeats 1000000 in
theorem whole_calls (x : Int) (w : World) :
    Calls Tryd.prog 45 #[.int .u8 x] w fun e w' => Any fun v => Any fun B => e = .returned v ∧ Rd .u8 w' v B (List.replicate 64 x) ∧ Keeps [] w w' ∧ w.heap.size ≤ B := by
  obtain ⟨i0, hi, hz0, hz1, hz2⟩ := info_parts info_u8
  have hmk := run_make (P := Tryd.prog) w 43 5 i0 _ Tryd.underlying43 hi hz0 .i64 .i64 64 64 (by omega) (by omega) (by rw [hz2]; omega) (by omega)
  rw [hz1] at hmk
  simp only [Value.cells] at hmk
  rw [made_one, show (64 : Int).toNat = 64 from rfl, Nat.mul_one] at hmk
  clear hz0 hz1 hz2 hi
  generalize hL : List.replicate 64 (Value.int IntKind.u8 0) = L at hmk
  have HL := Lib.hid hL
  clear hL
  go_enter Tryd.func45, Tryd.ntmps45
  go_wp2
  clear hmk
  go_loopw [4] (fun t wr => ∃ k : Nat, k ≤ 64 ∧ t = .int .i64 k ∧ Blk wr w.heap.size 5 (u8s (List.replicate k x) ++ List.replicate (64 - k) (.int .u8 0)) ∧ Keeps [] w wr) (fun t _ => 64 - (intOf t).toNat)
  case atStart =>
    refine ⟨0, by omega, rfl, ?_, (Keeps.refl _ _).alloc _⟩
    have := Blk.new w 5 L
    simpa [u8s, ← HL.out] using this
  case round =>
    obtain ⟨k, hk, rfl, hB, hK⟩ := hrel
    by_cases hlt : k < 64
    · have c0 : wr.cell? ⟨w.heap.size, k, none⟩ = some (.int .u8 0) := by
        rw [hB.cell, List.getElem?_append_right (by simp [u8s]), List.getElem?_replicate, if_pos (by simp [u8s]; omega)]
      have f0 := hB.free k
      have HB := Lib.hid hB
      clear hB
      go_wp2
      go_roundw
      case rel =>
        refine ⟨k + 1, by omega, by go_num, ?_, hK.set (by omega) _ _⟩
        have := HB.out.set k (.int .u8 x)
        rw [List.set_append_right _ _ (by simp [u8s]), show 64 - k = (64 - (k + 1)) + 1 by omega, List.replicate_succ] at this
        have e : List.replicate (k + 1) x = List.replicate k x ++ [x] := by rw [List.replicate_succ']
        rw [e]
        simpa [u8s] using this
      case measure => simp [intOf]; omega
    · obtain rfl : k = 64 := by omega
      have hR : Rd .u8 wr (.slice (some ⟨w.heap.size, 0, none⟩) 64 64) w.heap.size (List.replicate 64 x) := by
        refine .inr ⟨0, 64, by simp, by simp, by unfold maxLen; omega, fun i hi => ?_⟩
        simp only [List.length_replicate] at hi
        rw [hB.cell, u8s, List.map_replicate, Nat.sub_self, List.replicate_zero, List.append_nil, Nat.zero_add, List.getElem?_replicate, if_pos hi, getD_lt _ _ (by rw [List.length_replicate]; exact hi), List.getElem_replicate]
      have HR := Lib.hid hR
      clear hR hB
      go_wp2
      go_ret
      exact Any.mk _ (Any.mk w.heap.size ⟨rfl, HR.out, hK, Nat.le_refl _⟩)

theorem Rd.two (w : World) (t : TypeId) (x y : Int) : Rd .i64 (w.alloc (.cells #[.int .i64 x, .int .i64 y] t)) (.slice (some ⟨w.heap.size, 0, none⟩) 2 2) w.heap.size [x, y] := by
  refine .inr ⟨0, 2, rfl, by simp, by unfold maxLen; omega, fun i hi => ?_⟩
  have h2 : i = 0 ∨ i = 1 := by simp at hi; omega
  rcases h2 with rfl | rfl
  · rw [World.cell?_alloc_new]; rfl
  · rw [World.cell?_alloc_new]; rfl

theorem run_str0 {P : Program} {src dst e : TypeId} (hs : P.underlying src = some (.slice e)) (he : P.underlying e = some (.int .u8)) (hd : P.underlying dst = some .string) (w : World) (a : Option Addr) (cap : Nat) :
    (convert src dst (.slice a 0 cap)).run P w = .ok (.string (strOfNums [])) w := by
  cases a with
  | none => exact run_convert_bytes_nil w src e hs he 0 cap dst hd
  | some a =>
    have hl : (loadCells a 0).run P w = .ok #[] w := by simpa using run_loadCells_list (P := P) w a [] (by simp)
    rw [run_convert_bytes_string w src dst e _ 0 cap hs he hd, run_bytesToString w a 0 cap [] (by simpa using hl), foldl_push_bytes]
    rfl
/-- string(b) -/
theorem run_str {P : Program} {src dst e : TypeId} (hs : P.underlying src = some (.slice e)) (he : P.underlying e = some (.int .u8)) (hd : P.underlying dst = some .string) {w : World} {v : Value} {B : Nat} {bs : List Int} (h : Rd .u8 w v B bs) :
    (convert src dst v).run P w = .ok (.string (strOfNums bs)) w := by
  rcases h with ⟨a, cap, rfl, hc, rfl⟩ | ⟨o, cap, rfl, h1, h2, h3⟩
  · exact run_str0 hs he hd w a cap
  · exact run_convert_bytes_arg w src e hs he B o bs.length cap bs rfl h3 dst hd
theorem ShAt.far {w : World} {s b c a n : Nat} {r : Int} {D : Dev} {M : Nat → Nat} {F : List Nat} (h : ShAt w s b c a n r D M F) {B : Nat} (hB : w.heap.size ≤ B) : B ∉ b :: c :: F := by
  obtain ⟨l1, l2, l3, l4⟩ := h.lt
  simp only [List.mem_cons, not_or]
  exact ⟨by omega, by omega, fun h => by have := l4 _ h; omega⟩
def madeM (n : Nat) : Nat → Nat := mNew (addAll n 0 [0, 1]) 0
theorem new_ok (n : Nat) : (Dev.new n).Ok := by
  intro d hd
  simp only [Dev.new, List.mem_replicate] at hd
  rw [hd.2]; exact ⟨by simp, by simp, by simp⟩

set_option maxHeartbeats 1000000 in
theorem made_calls (n k : Nat) (w : World) (hT : Tab w) (hn : n ≤ 3072) :
    Calls Tryd.prog 14 #[.int .i64 n, .int .i64 k] w fun e w' => Any fun s => Any fun b => Any fun c => Any fun a => Any fun F =>
      e = .returned (.tuple #[.pointer (some ⟨s, 0, none⟩), .pointer (some ⟨b, 0, none⟩), .pointer (some ⟨a, 0, none⟩)]) ∧ ShAt w' s b c a n k (Dev.new (n * 8)) (madeM n) F ∧ Keeps [] w w' ∧ ∀ x ∈ s :: b :: c :: F, w.heap.size ≤ x := by
  have h0 : 0 < w.heap.size := hT.1
  have HT := Lib.hid hT
  clear hT
  go_enter Tryd.func14, Tryd.ntmps14
  go_wp2_with fail
  refine (new_good n w (by omega)).mono ?_
  rintro e w1 ⟨b, c, rfl, hD, hK1, hb, hc, hbl, hcl⟩
  go_wp2_with fail
  have hk2 : Keeps [] w (w1.alloc (.cells #[.int .i64 0, .int .i64 1] 3)) := hK1.alloc _
  refine (of_calls n w1.heap.size _ [0, 1] _ hn (Rd.two w1 _ 0 1) (by simp) (by simp)).mono ?_
  rintro e w2 ⟨p1, q1, rfl, hS1, hK2, hp1, hq1⟩
  have hK12 := hk2.trans hK2 (by simp)
  go_wp2_with fail
  refine (of_calls n 0 _ [] _ hn (Rd.nil _ _ _) (by have := hK12.size; omega) (by have := hK12.size; omega)).mono ?_
  rintro e w3 ⟨p2, q2, rfl, hS2, hK3, hp2, hq2⟩
  have hK13 := hK12.trans hK3 (by simp)
  go_wp2_with fail
  refine (newalloc_good p1 q1 n _ p2 q2 _ k w3 (hS1.keeps hK3 (by simp) (by simp)) hS2 (by omega) (HT.out.keeps hK13 (by simp))).mono ?_
  rintro e w4 ⟨a, F, rfl, hA, hG⟩
  have hF : ∀ x ∈ F, w3.heap.size ≤ x := fun x hx => by
    rcases hG.1 x hx with h | h
    · cases h
    · exact h
  have hK4 : Keeps [] w3 w4 := hG.2
  have hK14 := hK13.trans hK4 (by simp)
  have hK1' : Keeps [] w1 w4 := ((((Keeps.refl [] w1).alloc _).trans hK2 (by simp)).trans hK3 (by simp)).trans hK4 (by simp)
  have hsz := hK1'.size
  have hsz3 : w1.heap.size ≤ w3.heap.size := ((((Keeps.refl [] w1).alloc _).trans hK2 (by simp)).trans hK3 (by simp)).size
  go_wp2_with fail
  refine (newstore_good b c a n k (Dev.new (n * 8)) _ F w4 (hD.keeps hK1' (by simp) (by simp) hcl) hA (HT.out.keeps hK14 (by simp)) (by omega) (by simp [Dev.new]) (fun h => by have := hF _ h; omega) (fun h => by have := hF _ h; omega) (by omega) (by omega) (new_ok _)).mono ?_
  rintro e w5 ⟨s, rfl, hSh, hK5, hs⟩
  go_wp2_with fail
  go_ret3
  refine Any.mk s (Any.mk b (Any.mk c (Any.mk a (Any.mk F ⟨rfl, hSh, hK14.trans hK5 (by simp), fun x hx => ?_⟩))))
  simp only [List.mem_cons] at hx
  have := hK14.size
  have := hK13.size
  rcases hx with rfl | rfl | rfl | hx
  · omega
  · exact hb
  · exact hc
  · have := hF x hx; omega
end Go.Proofs.YtfpdikhdfcppeaaDoor
