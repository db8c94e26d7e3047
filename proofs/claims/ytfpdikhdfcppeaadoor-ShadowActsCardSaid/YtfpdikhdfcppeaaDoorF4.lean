/- The reference's device: Flush and Fence. -/
import Derived.Test.YtfpdikhdfcppeaaDoorF3
namespace Go.Proofs.YtfpdikhdfcppeaaDoor
open Go.RowKit Go.Proofs

section
variable {w : World} {d p0 p1 p2 p3 n : Nat} {D : Dev}

set_option maxHeartbeats 2000000 in
theorem rflush_calls (h : RAt w d p0 p1 p2 p3 n D) (line : Int) :
    Calls Tryd.prog 89 #[.pointer (some ⟨d, 0, none⟩), .int .i64 line] w fun e w' => e = .returned (.int .i64 (D.flush line).1) ∧ RAt w' d p0 p1 p2 p3 n (D.flush line).2 ∧ Keeps [d, p0, p1, p2, p3] w w' := by
  have c0 := h.dev.cell 0
  simp at c0
  have hlen := h.dev.len
  have hmax := h.dev.max
  obtain ⟨⟨n1, n2, n3, n4⟩, ⟨n5, n6, n7⟩, ⟨n8, n9⟩, n10⟩ := h.dev.ne
  obtain ⟨m, hm⟩ : ∃ m, D.may line ((n / 8 : Nat) : Int) = m := ⟨_, rfl⟩
  have he := h.err line ((n / 8 : Nat) : Int) m hm
  have hdiv : (n : Int).tdiv 8 = ((n / 8 : Nat) : Int) := by
    rw [Int.tdiv_eq_ediv_of_nonneg (by omega)]; omega
  unfold Dev.flush
  rw [hlen]
  by_cases h0 : m = 0
  · subst h0
    rw [if_neg (fun h => h hm)]
    obtain ⟨ho, hr0, hr1⟩ := Dev.may_zero hm
    obtain ⟨ln, rfl⟩ := Int.eq_ofNat_of_zero_le hr0
    have hk : ln * 8 + 8 ≤ n := by omega
    have H := Lib.hid h
    have HE := Lib.hid he
    clear h he hm
    go_enter Tryd.func89, Tryd.ntmps89
    go_wp2_with fail
    first
      | refine HE.out.mono ?_
      | (have hh := HE.out; rw [← hdiv] at hh; refine hh.mono ?_)
      | (have hh := HE.out; simp only [Nat.cast_ediv, Int.natCast_ediv] at hh; refine hh.mono ?_)
    rintro e w1 ⟨rfl, rfl⟩
    go_wp2
    go_loopw [6] (fun t wr => ∃ k : Nat, k ≤ 8 ∧ t = .int .i64 ((ln * 8 + k : Nat) : Int) ∧ RDev wr d p0 p1 p2 p3 n (flushAt D.cells (ln * 8) k) D.steps (leftOf D) D.steps ∧ Keeps [d, p0, p1, p2, p3] w wr) (fun t _ => (8 * ln + 8 - (intOf t)).toNat)
    case atStart => exact ⟨0, by omega, by go_num, H.out.dev, Keeps.refl _ _⟩
    case round =>
      obtain ⟨k, hk8, rfl, hR, hK⟩ := hrel
      have c1 := hR.cell 1
      have c2 := hR.cell 2
      have c3 := hR.cell 3
      simp at c1 c2 c3
      have f2 := hR.b2.free
      have f3 := hR.b3.free
      have hfl := flushAt_length D.cells (ln * 8) k
      by_cases hlt : k < 8
      · obtain ⟨dd, hdd⟩ : ∃ dd, (flushAt D.cells (ln * 8) k)[ln * 8 + k]? = some dd := ⟨_, List.getElem?_eq_getElem (by omega)⟩
        have g1 : wr.cell? ⟨p1, ln * 8 + k, none⟩ = some (.int .u64 dd.stored) := by rw [hR.b1.cell]; simp [u64s, hdd]
        have g2 : wr.cell? ⟨p2, ln * 8 + k, none⟩ = some (.int .u64 dd.sent) := by rw [hR.b2.cell]; simp [u64s, hdd]
        have g3 : wr.cell? ⟨p3, ln * 8 + k, none⟩ = some (.bool dd.flushed) := by rw [hR.b3.cell]; simp [hdd]
        have hnew := (hR.set2 (ln * 8 + k) dd.stored).set3 (ln * 8 + k) true
        have e1 : ((flushAt D.cells (ln * 8) k).modify (ln * 8 + k) fun c => { c with sent := dd.stored }).modify (ln * 8 + k) (fun c => { c with flushed := true }) = flushAt D.cells (ln * 8) (k + 1) := by
          rw [modify_twice]
          show _ = (flushAt D.cells (ln * 8) k).modify (ln * 8 + k) _
          rw [modify_of_get _ _ _ _ hdd, modify_of_get _ _ _ _ hdd]
        rw [e1] at hnew
        have HN := Lib.hid hnew
        have HK := Lib.hid hK
        clear hnew e1 hdd hfl hR hK
        go_wp2_with fail
        go_region
        go_wp2
        go_roundw
        case rel => exact ⟨k + 1, by omega, by go_num, HN.out.drew, ((HK.out.set (by simp) _ _).set (by simp) _ _).drew⟩
        case measure => simp [intOf]; omega
      · obtain rfl : k = 8 := by omega
        have hst := rstep_calls hR
        have HST := Lib.hid hst
        have HR := Lib.hid hR
        have HK := Lib.hid hK
        clear hst hR hK
        go_wp2_with fail
        refine HST.out.mono ?_
        rintro e w2 ⟨rfl, hR2, hK2⟩
        go_wp2
        go_ret
        refine ⟨rfl, ?_, HK.out.trans hK2 (fun k hk _ => hk)⟩
        exact RAt.step (D' := { D with cells := flushAt D.cells (ln * 8) 8 }) H.out.wf ho HR.out hR2
  · rw [if_pos (by rw [hm]; exact h0), hm]
    have hb : (m == 0) = false := by simpa using h0
    have H := Lib.hid h
    have HE := Lib.hid he
    clear h he hm hlen
    go_enter Tryd.func89, Tryd.ntmps89
    go_wp2_with fail
    first
      | refine HE.out.mono ?_
      | (have hh := HE.out; rw [← hdiv] at hh; refine hh.mono ?_)
      | (have hh := HE.out; simp only [Int.natCast_ediv] at hh; refine hh.mono ?_)
    rintro e w1 ⟨rfl, rfl⟩
    go_wp2
    go_ret
    exact ⟨rfl, H.out, Keeps.refl _ _⟩

set_option maxHeartbeats 2000000 in
theorem rfence_calls (h : RAt w d p0 p1 p2 p3 n D) :
    Calls Tryd.prog 37 #[.pointer (some ⟨d, 0, none⟩)] w fun e w' => e = .returned (.int .i64 D.fence.1) ∧ RAt w' d p0 p1 p2 p3 n D.fence.2 ∧ Keeps [d, p0, p1, p2, p3] w w' := by
  have c0 := h.dev.cell 0
  simp at c0
  have hlen := h.dev.len
  have hmax := h.dev.max
  obtain ⟨⟨n1, n2, n3, n4⟩, ⟨n5, n6, n7⟩, ⟨n8, n9⟩, n10⟩ := h.dev.ne
  unfold Dev.fence
  by_cases ho : D.off = true
  · rw [if_pos ho]
    have he := h.err 0 1 3 (by unfold Dev.may; rw [if_pos ho])
    have H := Lib.hid h
    have HE := Lib.hid he
    clear h he
    go_enter Tryd.func37, Tryd.ntmps37
    go_wp2_with fail
    refine HE.out.mono ?_
    rintro e w1 ⟨rfl, rfl⟩
    go_wp2
    go_ret
    exact ⟨rfl, H.out, Keeps.refl _ _⟩
  · rw [if_neg ho]
    have ho : D.off = false := by simpa using ho
    have he := h.err 0 1 0 (by unfold Dev.may; rw [if_neg (by simp [ho]), if_neg (by decide)])
    have H := Lib.hid h
    have HE := Lib.hid he
    clear h he
    go_enter Tryd.func37, Tryd.ntmps37
    go_wp2_with fail
    refine HE.out.mono ?_
    rintro e w1 ⟨rfl, rfl⟩
    go_wp2
    go_loopw [4] (fun t wr => ∃ k : Nat, k ≤ n ∧ t = .int .i64 k ∧ RDev wr d p0 p1 p2 p3 n (mapTo DCell.fence D.cells k) D.steps (leftOf D) D.steps ∧ Keeps [d, p0, p1, p2, p3] w wr) (fun t _ => n - (intOf t).toNat)
    case atStart => exact ⟨0, by omega, rfl, by rw [mapTo_zero]; exact H.out.dev, Keeps.refl _ _⟩
    case round =>
      obtain ⟨k, hk, rfl, hR, hK⟩ := hrel
      have c0' := hR.cell 0
      have c2 := hR.cell 2
      have c3 := hR.cell 3
      simp at c0' c2 c3
      by_cases hlt : k < n
      · obtain ⟨dd, hdd⟩ : ∃ dd, D.cells[k]? = some dd := ⟨_, List.getElem?_eq_getElem (by omega)⟩
        have hmk : (mapTo DCell.fence D.cells k)[k]? = some dd := by rw [mapTo_get, hdd]
        have g2 : wr.cell? ⟨p2, k, none⟩ = some (.int .u64 dd.sent) := by rw [hR.b2.cell]; simp [u64s, hmk]
        have g3 : wr.cell? ⟨p3, k, none⟩ = some (.bool dd.flushed) := by rw [hR.b3.cell]; simp [hmk]
        have hnx := mapTo_next DCell.fence D.cells k dd hdd
        have HK := Lib.hid hK
        have HR := Lib.hid hR
        cases hf : dd.flushed with
        | true =>
          rw [hf] at g3
          have hla := rlast_calls hR k hlt dd.sent
          have e1 : (mapTo DCell.fence D.cells k).modify k (fun c => c.keep dd.sent) = mapTo DCell.fence D.cells (k + 1) := by
            rw [modify_of_get _ _ _ _ hmk, hnx]
            unfold DCell.fence
            rw [if_pos hf]
          rw [e1] at hla
          have HL := Lib.hid hla
          clear hla e1 hnx hmk hdd hf hR hK
          go_wp2_with fail
          refine HL.out.mono ?_
          rintro e w2 ⟨rfl, hR2, hK2⟩
          go_wp2
          go_roundw
          case rel => exact ⟨k + 1, by omega, by go_num, hR2, HK.out.trans hK2 (fun k hk _ => hk)⟩
          case measure => simp [intOf]; omega
        | false =>
          rw [hf] at g3
          have e1 : mapTo DCell.fence D.cells k = mapTo DCell.fence D.cells (k + 1) := by
            rw [hnx]
            have : dd.fence = dd := by unfold DCell.fence; rw [if_neg (by simp [hf])]
            rw [this, List.set_eq_of_getElem? hmk]
          have HE1 := Lib.hid e1
          clear e1 hnx hmk hdd hf hR hK
          go_wp2
          go_roundw
          case rel => exact ⟨k + 1, by omega, by go_num, by rw [← HE1.out]; exact HR.out, HK.out⟩
          case measure => simp [intOf]; omega
      · obtain rfl : k = n := by omega
        have hst := rstep_calls hR
        have HST := Lib.hid hst
        have HR := Lib.hid hR
        have HK := Lib.hid hK
        clear hst hR hK
        go_wp2_with fail
        refine HST.out.mono ?_
        rintro e w2 ⟨rfl, hR2, hK2⟩
        go_wp2
        go_ret
        refine ⟨rfl, ?_, HK.out.trans hK2 (fun k hk _ => hk)⟩
        have e1 : mapTo DCell.fence D.cells k = D.cells.map DCell.fence := by rw [← hlen, mapTo_all]
        have h1 := HR.out
        rw [e1] at h1 hR2
        exact RAt.step (D' := { D with cells := D.cells.map DCell.fence }) H.out.wf ho h1 hR2
end
end Go.Proofs.YtfpdikhdfcppeaaDoor
