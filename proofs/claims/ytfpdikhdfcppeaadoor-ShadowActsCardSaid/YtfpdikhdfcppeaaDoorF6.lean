/- The reference's device: Text and New. -/
import Derived.Test.YtfpdikhdfcppeaaDoorF5
namespace Go.Proofs.YtfpdikhdfcppeaaDoor
open Go.RowKit Go.Proofs

set_option maxRecDepth 100000 in
set_option maxHeartbeats 4000000 in
theorem rtext_calls (v : Value) (B : Nat) (ws : List Int) (w : World) (hr : Rd .u64 w v B ws) (hx : ∀ x ∈ ws, 0 ≤ x) (hl : ws.length ≤ 100000) :
    Calls Tryd.prog 44 #[v] w fun e w' => e = .returned (.string (strOfNums (bytesOf ws))) ∧ Keeps [] w w' := by
  obtain ⟨va, vcap, rfl, hvc, hvm⟩ := id hr.shape
  unfold maxLen at hvm
  obtain ⟨i0, hi, hz0, hz1, hz2⟩ := info_parts info_u8
  have HR := Lib.hid hr
  have HX := Lib.hid hx
  clear hr hx
  go_enter Tryd.func44, Tryd.ntmps44
  go_wp2
  go_loopw [3, 4] (fun u t wr => ∃ i : Nat, i ≤ ws.length ∧ t = .int .i64 i ∧ Keeps [] w wr ∧ wr.ownsRow w.heap.size 5 1 u (i * 8) (u8s (bytesOf (ws.take i)))) (fun _ t _ => ws.length - (intOf t).toNat)
  case atStart => exact ⟨0, by omega, rfl, Keeps.refl _ _, by simpa [bytesOf, u8s] using World.ownsRow_nil w w.heap.size 5 1⟩
  case round =>
    obtain ⟨i, hi0, rfl, hK, hO⟩ := hrel
    have HK := Lib.hid hK
    have HO := Lib.hid hO
    clear hK hO
    by_cases hlt : i < ws.length
    · obtain ⟨lo, lc2, hv, c0⟩ := (HR.out.keeps HK.out (by simp)).get hlt
      obtain ⟨rfl, rfl⟩ : va = some ⟨B, lo, none⟩ ∧ lc2 = vcap := by injection hv with h1 h2 h3; exact ⟨h1, h3.symm⟩
      clear hv
      obtain ⟨x, hxx⟩ : ∃ x, ws.getD i 0 = x := ⟨_, rfl⟩
      have htk : ws.take (i + 1) = ws.take i ++ [x] := by
        rw [List.take_succ_eq_append_getElem hlt, ← hxx, getD_lt _ _ hlt]
      have hx0 : 0 ≤ x := by rw [← hxx, getD_lt _ _ hlt]; exact HX.out _ (List.getElem_mem hlt)
      rw [hxx] at c0
      have HT := Lib.hid htk
      have HG := Lib.hid hxx
      clear htk hxx c0
      go_wp2
      go_loopw [3, 5] (fun u t wx => ∃ k : Nat, k ≤ 8 ∧ t = .int .i64 k ∧ Keeps [] w wx ∧ wx.ownsRow w.heap.size 5 1 u (i * 8 + k) (u8s (bytesOf (ws.take i) ++ leBytes x k))) (fun _ t _ => 8 - (intOf t).toNat)
      case atStart => exact ⟨0, by omega, rfl, HK.out, by simpa [leBytes] using HO.out⟩
      case round =>
        obtain ⟨k, hk, rfl, hK2, hO2⟩ := hrel
        have HK2 := Lib.hid hK2
        have HO2 := Lib.hid hO2
        clear hK2 hO2
        by_cases hlt2 : k < 8
        · obtain ⟨lo', lc3, hv, c0⟩ := (HR.out.keeps HK2.out (by simp)).get hlt
          have e1 : lo' = lo := by injection hv with h1 h2 h3; injection h1 with h1; injection h1 with _ h1 _; exact h1.symm
          subst e1
          rw [HG.out] at c0
          clear hv
          have hel : leBytes x (k + 1) = leBytes x k ++ [x / 2 ^ (8 * k) % 256] := by
            rw [leBytes_snoc, Int.pow_mul]; rfl
          have HEl := Lib.hid hel
          clear hel
          go_wp2_with (at_builtin; refine wpList_append_own _ rfl _ _ 43 rfl w.heap.size 5 i0 (.int .u8 0) 1 1 Tryd.underlying43 hi hz0 hz1 hz2 rfl (by decide) _ _ _ rfl (HO2.out.alloc _) ⟨wr.heap.size, 0, none⟩ 1 1 [.int .u8 (x / 2 ^ (8 * k) % 256)] rfl rfl ?c1 ?c2 ?c3 ?c4 ?c5 ?_)
          case c1 => exact one_cell_new wr _ _
          case c2 => intro u hu; simp at hu; subst hu; rfl
          case c3 => unfold maxLen; omega
          case c4 => omega
          case c5 => simp only [World.size_alloc]; have := HK2.out.size; omega
          intro vv w8 hO8 hG8 hnil
          have hK8 : Keeps [] w w8 := (HK2.out.alloc _).grown hG8 fun g hg hlt3 => by have := (HO2.out.lt g hg).1; omega
          have HK8 := Lib.hid hK8
          have HO8 := Lib.hid hO8
          clear hO8 hG8 hnil hK8
          go_wp2
          go_roundw
          case rel =>
            refine ⟨k + 1, by omega, by go_num, HK8.out, ?_⟩
            have := HO8.out
            rw [HEl.out]
            simpa [u8s, Nat.add_assoc] using this
          case measure => simp [intOf]; omega
        · obtain rfl : k = 8 := by omega
          go_wp2
          go_roundw
          case rel =>
            refine ⟨i + 1, by omega, by go_num, HK2.out, ?_⟩
            have := HO2.out
            rw [HT.out, bytesOf_snoc, show (i + 1) * 8 = i * 8 + 8 by omega]
            exact this
          case measure => simp [intOf]; omega
    · obtain rfl : i = ws.length := by omega
      have hO := HO.out
      rw [List.take_length] at hO
      obtain ⟨_, Bu, _, hRu⟩ := Rd.of_owns hO
      have hcv := run_str (P := Tryd.prog) (w := wr) Tryd.underlying43 Tryd.underlying5 Tryd.underlying9 hRu
      clear hRu hO
      go_wp2
      go_ret
      exact ⟨rfl, HK.out⟩

theorem made_rep (v : Value) (n : Nat) : madeCells #[v] (n * 1) = (List.replicate n v).toArray := by
  apply Array.ext
  · simp [madeCells]
  · intro i h1 h2
    simp [madeCells, Nat.mod_one]
theorem info_bool : (Tryd.prog.info? 4).map (fun i => (i.zero, i.size, i.bytes)) = some (some (.bool false), 1, 1) := by kernel_rfl
theorem blk_new {w : World} {k : Nat} (h : k = w.heap.size) (e : TypeId) (l : List Value) : Blk (w.alloc (.cells l.toArray e)) k e l := h ▸ Blk.new w e l
theorem rnew_fin {w W : World} {d p0 p1 p2 p3 N : Nat} (hN : N ≤ 32768)
    (hd : Blk W d 83 [.slice (some ⟨p0, 0, none⟩) N N, .slice (some ⟨p1, 0, none⟩) N N, .slice (some ⟨p2, 0, none⟩) N N, .slice (some ⟨p3, 0, none⟩) N N, .slice none 0 0, .int .i64 0, .int .i64 (-1), .int .i64 0])
    (h0 : Blk W p0 107 (List.replicate N (.int .u64 0))) (h1 : Blk W p1 107 (List.replicate N (.int .u64 0))) (h2 : Blk W p2 107 (List.replicate N (.int .u64 0))) (h3 : Blk W p3 4 (List.replicate N (.bool false)))
    (hne : (d ≠ p0 ∧ d ≠ p1 ∧ d ≠ p2 ∧ d ≠ p3) ∧ (p0 ≠ p1 ∧ p0 ≠ p2 ∧ p0 ≠ p3) ∧ (p1 ≠ p2 ∧ p1 ≠ p3) ∧ p2 ≠ p3) (hk : Keeps [] w W) (hge : w.heap.size ≤ d ∧ w.heap.size ≤ p0 ∧ w.heap.size ≤ p1 ∧ w.heap.size ≤ p2 ∧ w.heap.size ≤ p3) :
    Any fun d' => Any fun p0 => Any fun p1 => Any fun p2 => Any fun p3 =>
      Ending.returned (.pointer (some ⟨d, 0, none⟩)) = .returned (.pointer (some ⟨d', 0, none⟩)) ∧ RAt W d' p0 p1 p2 p3 N (Dev.new N) ∧ Keeps [] w W ∧ ∀ x ∈ [d', p0, p1, p2, p3], w.heap.size ≤ x := by
  refine Any.mk d (Any.mk p0 (Any.mk p1 (Any.mk p2 (Any.mk p3 ⟨rfl, ⟨⟨hd, ?_, ?_, ?_, ?_, by simp [Dev.new], hN, hne⟩, fun _ h => by cases h⟩, hk, ?_⟩))))
  · simpa [Dev.new, u64s] using h0
  · simpa [Dev.new, u64s] using h1
  · simpa [Dev.new, u64s] using h2
  · simpa [Dev.new] using h3
  · intro x hx
    simp only [List.mem_cons, List.not_mem_nil, or_false] at hx
    omega
set_option maxRecDepth 100000 in
set_option maxHeartbeats 8000000 in
theorem rnew_calls (n : Nat) (w : World) (h : n ≤ 4096) :
    Calls Tryd.prog 31 #[.int .i64 n] w fun e w' => Any fun d => Any fun p0 => Any fun p1 => Any fun p2 => Any fun p3 =>
      e = .returned (.pointer (some ⟨d, 0, none⟩)) ∧ RAt w' d p0 p1 p2 p3 (n * 8) (Dev.new (n * 8)) ∧ Keeps [] w w' ∧ ∀ x ∈ [d, p0, p1, p2, p3], w.heap.size ≤ x := by
  obtain ⟨i0, hi, hz0, hz1, hz2⟩ := info_parts info_u64
  obtain ⟨j0, hj, hy0, hy1, hy2⟩ := info_parts info_bool
  have hmk := fun W : World => run_make (P := Tryd.prog) W 80 107 i0 _ Tryd.underlying80 hi hz0 .i64 .i64 (8 * (n : Int)) (8 * (n : Int)) (by omega) (by omega) (by rw [hz2]; omega) (by omega)
  have hmb := fun W : World => run_make (P := Tryd.prog) W 81 4 j0 _ Tryd.underlying81 hj hy0 .i64 .i64 (8 * (n : Int)) (8 * (n : Int)) (by omega) (by omega) (by rw [hy2]; omega) (by omega)
  rw [hz1] at hmk
  rw [hy1] at hmb
  simp only [Value.cells] at hmk hmb
  rw [show (8 * (n : Int)).toNat = n * 8 from by omega, made_rep] at hmk hmb
  obtain ⟨LA, hLA⟩ : ∃ LA, List.replicate (n * 8) (Value.int .u64 0) = LA := ⟨_, rfl⟩
  obtain ⟨LB, hLB⟩ : ∃ LB, List.replicate (n * 8) (Value.bool false) = LB := ⟨_, rfl⟩
  rw [hLA] at hmk
  rw [hLB] at hmb
  have HLA := Lib.hid hLA
  have HLB := Lib.hid hLB
  clear hLA hLB
  clear hz0 hz1 hz2 hi hy0 hy1 hy2 hj
  go_enter Tryd.func31, Tryd.ntmps31
  go_wp2_with fail
  go_region
  all_goals (go_wp2; go_ret)
  all_goals
    refine rnew_fin (by omega) (Blk.drew (blk_new (by simp only [World.size_alloc]) _ _)) ?_ ?_ ?_ ?_ ?_ ?_ ?_
    · rw [HLA.out]; refine Blk.drew ?_; repeat (first | (refine blk_new ?_ _ _; simp only [World.size_alloc]; done) | refine Blk.alloc ?_ _)
    · rw [HLA.out]; refine Blk.drew ?_; repeat (first | (refine blk_new ?_ _ _; simp only [World.size_alloc]; done) | refine Blk.alloc ?_ _)
    · rw [HLA.out]; refine Blk.drew ?_; repeat (first | (refine blk_new ?_ _ _; simp only [World.size_alloc]; done) | refine Blk.alloc ?_ _)
    · rw [HLB.out]; refine Blk.drew ?_; repeat (first | (refine blk_new ?_ _ _; simp only [World.size_alloc]; done) | refine Blk.alloc ?_ _)
    · refine ⟨⟨?_, ?_, ?_, ?_⟩, ⟨?_, ?_, ?_⟩, ⟨?_, ?_⟩, ?_⟩ <;> omega
    · exact (((((((Keeps.refl _ _).alloc _).alloc _).alloc _).alloc _).alloc _)).drew
    · refine ⟨?_, ?_, ?_, ?_, ?_⟩ <;> omega
end Go.Proofs.YtfpdikhdfcppeaaDoor
