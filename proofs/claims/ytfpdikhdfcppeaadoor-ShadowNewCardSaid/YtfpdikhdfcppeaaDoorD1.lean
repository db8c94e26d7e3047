/- Walk of the law ShadowNew. -/
import Derived.Test.YtfpdikhdfcppeaaDoorC2
import Derived.LaidEqlPtr
namespace Go.Proofs.YtfpdikhdfcppeaaDoor
open Go.RowKit Go.Proofs

theorem info_alloc : (Tryd.prog.info? 96).isSome = true := by kernel_rfl

set_option maxRecDepth 100000 in
set_option maxHeartbeats 2000000 in
theorem shadowNew_walk (l k : Nat) (hl : l < 256) (hk : k < 256) (w : World) (hT : Tab w) :
    Calls Tryd.prog 3 #[.int .u8 l, .int .u8 k] w fun e w' => e = .returned (.bool true) ∧ Keeps [] w w' := by
  have h0 : 0 < w.heap.size := hT.1
  go_enter Tryd.func3, Tryd.ntmps3
  go_wp2_with fail
  refine (awake_calls w hT).mono ?_
  rintro e w1 ⟨rfl, hK1⟩
  go_wp2_with fail
  refine (new_good l w1 (by omega)).mono ?_
  rintro e w2 ⟨b, c, rfl, hD, hK2, hb, hc, hbl, hcl⟩
  have hK12 := hK1.trans hK2 (by simp)
  have s1 := hK1.size
  have s2 := hK12.size
  go_wp2_with fail
  refine (of_calls k 0 _ [] _ (by omega) (.inl ⟨rfl, rfl⟩) (by omega) (by omega)).mono ?_
  rintro e w3 ⟨p1, q1, rfl, hS1, hK3, hp1, hq1⟩
  have hK13 := hK12.trans hK3 (by simp)
  have s3 := hK13.size
  have hD3 := hD.keeps hK3 (by simp) (by simp) hcl
  go_wp2_with fail
  refine (of_calls k 0 _ [] _ (by omega) (.inl ⟨rfl, rfl⟩) (by omega) (by omega)).mono ?_
  rintro e w4 ⟨p2, q2, rfl, hS2, hK4, hp2, hq2⟩
  have hK14 := hK13.trans hK4 (by simp)
  have s4 := hK14.size
  have s24 := (hK3.trans hK4 (by simp)).size
  have hD4 := hD3.keeps hK4 (by simp) (by simp) (by have := hK3.size; omega)
  go_wp2_with fail
  refine (newalloc_good p1 q1 k _ p2 q2 _ 0 w4 (hS1.keeps hK4 (by simp) (by simp)) hS2 (by omega) (hT.keeps hK14 (by simp))).mono ?_
  rintro e w5 ⟨a, F, rfl, hA, hG⟩
  have hF : ∀ x ∈ F, w4.heap.size ≤ x := fun x hx => by
    rcases hG.1 x hx with h | h
    · cases h
    · exact h
  have hK5 : Keeps [] w4 w5 := hG.2
  have hK15 := hK14.trans hK5 (by simp)
  have hD5 := hD4.keeps hK5 (by simp) (by simp) (by omega)
  have s5 := hK5.size
  have hT5 := hT.keeps hK15 (by simp)
  have HF := Lib.hid hF
  clear hF
  go_wp2_with fail
  refine (newstore_nil1 _ w5).mono ?_
  rintro e w6 ⟨rfl, rfl⟩
  go_wp2_with fail
  refine (newstore_nil2 b w5).mono ?_
  rintro e w6 ⟨rfl, rfl⟩
  go_wp2_with fail
  have hlen : (Dev.new (l * 8)).cells.length / 8 = l := by simp [Dev.new]
  have HLen := Lib.hid hlen
  clear hlen
  by_cases hkl : l < k
  · refine (newstore_bad b c a k 0 _ _ F w5 hD5 hA hT5 (by omega) (by rw [HLen.out]; exact hkl)).mono ?_
    rintro e w6 ⟨rfl, hK6⟩
    go_wp2_with fail
    go_ret
    exact ⟨rfl, hK15.trans hK6 (by simp)⟩
  · refine (newstore_good b c a k 0 _ _ F w5 hD5 hA hT5 (by omega) (by rw [HLen.out]; omega) (fun h => by have := HF.out _ h; omega) (fun h => by have := HF.out _ h; omega) (by omega) (by omega) (new_ok _)).mono ?_
    rintro e w6 ⟨s, rfl, hSh, hK6, hs⟩
    obtain ⟨j, hj⟩ := Option.isSome_iff_exists.1 info_alloc
    have hptr := fun W => run_eql_ptr_same (P := Tryd.prog) W ⟨a, 0, none⟩ Tryd.underlying27 hj
    go_wp2_with (go_at_call 13; refine (shAlloc_calls s b c a k 0 _ _ F w6 hSh).mono ?_; rintro e w7 ⟨rfl, rfl⟩)
    go_ret
    exact ⟨rfl, hK15.trans hK6 (by simp)⟩
end Go.Proofs.YtfpdikhdfcppeaaDoor
