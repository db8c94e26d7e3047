/- The reference's lists: Has and Drop. -/
import Derived.Test.YtfpdikhdfcppeaaDoorF6
namespace Go.Proofs.YtfpdikhdfcppeaaDoor
open Go.RowKit Go.Proofs

set_option maxHeartbeats 1000000 in
theorem rhas_calls (v : Value) (B : Nat) (l : List Int) (x : Int) (w : World) (hr : Rd .i64 w v B l) :
    Calls Tryd.prog 66 #[v, .int .i64 x] w fun e w' => e = .returned (.bool (l.contains x)) ∧ w = w' := by
  obtain ⟨va, vcap, rfl, hvc, hvm⟩ := id hr.shape
  unfold maxLen at hvm
  have HR := Lib.hid hr
  clear hr
  go_enter Tryd.func66, Tryd.ntmps66
  go_wp2
  go_loopw [5] (fun t wr => ∃ k : Nat, k ≤ l.length ∧ t = .int .i64 k ∧ w = wr ∧ (l.take k).contains x = false) (fun t _ => l.length - (intOf t).toNat)
  case atStart => exact ⟨0, by omega, rfl, rfl, by simp⟩
  case round =>
    obtain ⟨k, hk, rfl, rfl, hno⟩ := hrel
    have HNo := Lib.hid hno
    clear hno
    by_cases hlt : k < l.length
    · obtain ⟨lo, lc2, hv, c0⟩ := HR.out.get hlt
      obtain ⟨rfl, rfl⟩ : va = some ⟨B, lo, none⟩ ∧ lc2 = vcap := by injection hv with h1 h2 h3; exact ⟨h1, h3.symm⟩
      rw [getD_lt _ _ hlt] at c0
      obtain ⟨y, hy⟩ : ∃ y, l[k] = y := ⟨_, rfl⟩
      rw [hy] at c0
      have htk : l.take (k + 1) = l.take k ++ [y] := by rw [List.take_succ_eq_append_getElem hlt, hy]
      have hmem : y ∈ l := by rw [← hy]; exact List.getElem_mem hlt
      have HT := Lib.hid htk
      have HMem := Lib.hid hmem
      clear hy hv htk hmem
      by_cases hyx : y = x
      · subst hyx
        go_wp2
        go_ret
        exact ⟨by rw [List.contains_iff_mem.2 HMem.out]; rfl, rfl⟩
      · have hb : (y == x) = false := by simpa using hyx
        have HYX := Lib.hid hyx
        clear hyx
        go_wp2
        go_roundw
        case rel =>
          refine ⟨k + 1, by omega, by go_num, by first | rfl | trivial, ?_⟩
          have h1 := HNo.out
          have h2 := HYX.out
          rw [HT.out]
          simp only [List.contains_eq_mem, List.mem_append, List.mem_singleton, decide_eq_false_iff_not, not_or] at h1 ⊢
          exact ⟨h1, fun e => h2 e.symm⟩
        case measure => simp [intOf]; omega
    · obtain rfl : k = l.length := by omega
      have h1 := HNo.out
      rw [List.take_length] at h1
      have H1 := Lib.hid h1
      clear h1
      go_wp2
      go_ret
      exact ⟨by rw [H1.out]; rfl, rfl⟩

set_option maxRecDepth 100000 in
set_option maxHeartbeats 2000000 in
theorem rdrop_calls (v : Value) (B : Nat) (l : List Int) (x : Int) (w : World) (hr : Rd .i64 w v B l) (hl : l.length ≤ 100000) :
    Calls Tryd.prog 68 #[v, .int .i64 x] w fun e w' => Any fun u => e = .returned u ∧ w'.ownsRow w.heap.size 3 1 u (l.filter fun y => y != x).length (i64s (l.filter fun y => y != x)) ∧ Keeps [] w w' := by
  obtain ⟨va, vcap, rfl, hvc, hvm⟩ := id hr.shape
  unfold maxLen at hvm
  obtain ⟨i0, hi, hz0, hz1, hz2⟩ := info_parts info_int
  have HR := Lib.hid hr
  clear hr
  go_enter Tryd.func68, Tryd.ntmps68
  go_wp2
  go_loopw [5, 6] (fun u t wr => ∃ k : Nat, k ≤ l.length ∧ t = .int .i64 k ∧ Keeps [] w wr ∧ wr.ownsRow w.heap.size 3 1 u ((l.take k).filter fun y => y != x).length (i64s ((l.take k).filter fun y => y != x))) (fun _ t _ => l.length - (intOf t).toNat)
  case atStart => exact ⟨0, by omega, rfl, Keeps.refl _ _, by simpa [i64s] using World.ownsRow_nil w w.heap.size 3 1⟩
  case round =>
    obtain ⟨k, hk, rfl, hK, hO⟩ := hrel
    have HK := Lib.hid hK
    have HO := Lib.hid hO
    clear hK hO
    by_cases hlt : k < l.length
    · obtain ⟨lo, lc2, hv, c0⟩ := (HR.out.keeps HK.out (by simp)).get hlt
      obtain ⟨rfl, rfl⟩ : va = some ⟨B, lo, none⟩ ∧ lc2 = vcap := by injection hv with h1 h2 h3; exact ⟨h1, h3.symm⟩
      rw [getD_lt _ _ hlt] at c0
      obtain ⟨y, hy⟩ : ∃ y, l[k] = y := ⟨_, rfl⟩
      rw [hy] at c0
      have htk : (l.take (k + 1)).filter (fun y => y != x) = (l.take k).filter (fun y => y != x) ++ [y].filter (fun y => y != x) := by rw [List.take_succ_eq_append_getElem hlt, hy, List.filter_append]
      have hle : ((l.take k).filter fun y => y != x).length ≤ 100000 := Nat.le_trans (List.length_filter_le _ _) (by rw [List.length_take]; omega)
      have HLe := Lib.hid hle
      have HT := Lib.hid htk
      clear hy hv htk hle
      by_cases hyx : y = x
      · subst hyx
        go_wp2
        go_roundw
        case rel => exact ⟨k + 1, by omega, by go_num, HK.out, by rw [HT.out]; simpa using HO.out⟩
        case measure => simp [intOf]; omega
      · have hb : (y != x) = true := by simpa using hyx
        have HYX := Lib.hid hyx
        clear hyx
        go_wp2_with (at_builtin; refine wpList_append_own _ rfl _ _ 54 rfl w.heap.size 3 i0 (.int .i64 0) 1 8 Tryd.underlying54 hi hz0 hz1 hz2 rfl (by decide) _ _ _ rfl (HO.out.alloc _) ⟨wr.heap.size, 0, none⟩ 1 1 [.int .i64 y] rfl rfl ?c1 ?c2 ?c3 ?c4 ?c5 ?_)
        case c1 => exact one_cell_new wr _ _
        case c2 => intro u hu; simp at hu; subst hu; rfl
        case c3 => have := HLe.out; unfold maxLen; omega
        case c4 => have := HLe.out; omega
        case c5 => simp only [World.size_alloc]; have := HK.out.size; omega
        intro vv w8 hO8 hG8 hnil
        have hK8 : Keeps [] w w8 := (HK.out.alloc _).grown hG8 fun g hg hlt3 => by have := (HO.out.lt g hg).1; omega
        have HK8 := Lib.hid hK8
        have HO8 := Lib.hid hO8
        clear hO8 hG8 hnil hK8
        go_wp2
        go_roundw
        case rel =>
          refine ⟨k + 1, by omega, by go_num, HK8.out, ?_⟩
          have := HO8.out
          rw [HT.out]
          simpa [i64s, HYX.out] using this
        case measure => simp [intOf]; omega
    · obtain rfl : k = l.length := by omega
      have hO := HO.out
      rw [List.take_length] at hO
      have HO2 := Lib.hid hO
      clear hO
      go_wp2
      go_ret
      exact Any.mk _ ⟨rfl, HO2.out, HK.out⟩
end Go.Proofs.YtfpdikhdfcppeaaDoor
