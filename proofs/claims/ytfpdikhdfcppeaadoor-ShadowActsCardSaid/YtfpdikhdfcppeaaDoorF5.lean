/- The reference's press: Write and Read. -/
import Derived.Test.YtfpdikhdfcppeaaDoorF4
namespace Go.Proofs.YtfpdikhdfcppeaaDoor
open Go.RowKit Go.Proofs

theorem lines_test {D : Dev} {at_ : Int} {n : Nat} (hl : D.cells.length = n) : pressMay D at_ = if at_ < 0 ∨ ((n / 8 : Nat) : Int) ≤ at_ then 2 else 0 := by unfold pressMay; rw [hl]
section
variable {w : World} {d p0 p1 p2 p3 n : Nat} {D : Dev}

set_option maxRecDepth 100000 in
set_option maxHeartbeats 4000000 in
theorem rwrite_calls (h : RAt w d p0 p1 p2 p3 n D) (at_ : Int) (bv : Value) (B : Nat) (bs : List Int) (hr : Rd .u8 w bv B bs) (hu : U8 bs) (hB : B ∉ [d, p0, p1, p2, p3]) :
    Calls Tryd.prog 65 #[.pointer (some ⟨d, 0, none⟩), .int .i64 at_, bv] w fun e w' => e = .returned (.int .i64 (D.write at_ bs).1) ∧ RAt w' d p0 p1 p2 p3 n (D.write at_ bs).2 ∧ Keeps [d, p0, p1, p2, p3] w w' := by
  have hlen := h.dev.len
  have hmax := h.dev.max
  have hln := rlines_calls h
  rw [hlen] at hln
  obtain ⟨ba, bcap, rfl, hbc, hbm⟩ := id hr.shape
  unfold maxLen at hbm
  have H := Lib.hid h
  have HR := Lib.hid hr
  have HL := Lib.hid hln
  have HB := Lib.hid hB
  unfold Dev.write
  rw [lines_test hlen]
  clear h hr hln hB
  by_cases h1 : at_ < 0
  · rw [if_pos (by rw [if_pos (.inl h1)]; simp)]
    go_enter Tryd.func65, Tryd.ntmps65
    go_wp2
    go_ret
    exact ⟨rfl, H.out, Keeps.refl _ _⟩
  · by_cases h2 : ((n / 8 : Nat) : Int) ≤ at_
    · rw [if_pos (by rw [if_pos (.inr h2)]; simp)]
      go_enter Tryd.func65, Tryd.ntmps65
      go_wp2_with fail
      refine HL.out.mono ?_
      rintro e w1 ⟨rfl, rfl⟩
      go_wp2
      go_ret
      exact ⟨rfl, H.out, Keeps.refl _ _⟩
    · rw [if_neg (by rw [if_neg (by omega)]; simp)]
      by_cases h3 : bs.length = 64
      · rw [if_neg (by simp [h3])]
        obtain ⟨ln, rfl⟩ := Int.eq_ofNat_of_zero_le (by omega : 0 ≤ at_)
        obtain ⟨bb, bo, rfl⟩ : ∃ bb bo, ba = some ⟨bb, bo, none⟩ := by
          obtain ⟨o, cap, hv, _⟩ := HR.out.get (i := 0) (by omega)
          injection hv with e1 _ _
          exact ⟨_, _, e1⟩
        have hbb : bb = B := by
          obtain ⟨o, cap, hv, _⟩ := HR.out.get (i := 0) (by omega)
          injection hv with e1 _ _
          injection e1 with e1
          injection e1
        subst hbb
        have hww : (wordsOf bs 8).length = 8 := by simp [wordsOf]
        rw [h3] at hbc ⊢
        have HWW := Lib.hid hww
        have H3 := Lib.hid h3
        clear hww h3
        go_enter Tryd.func65, Tryd.ntmps65
        go_wp2_with fail
        refine HL.out.mono ?_
        rintro e w1 ⟨rfl, rfl⟩
        go_wp2
        go_loopw [7] (fun t wr => ∃ (k : Nat) (D1 : Dev), k ≤ 8 ∧ t = .int .i64 k ∧ D.stores ((ln : Int) * 8 + 0) ((wordsOf bs 8).take k) = (0, D1) ∧ RAt wr d p0 p1 p2 p3 n D1 ∧ Keeps [d, p0, p1, p2, p3] w wr) (fun t _ => 8 - (intOf t).toNat)
        case atStart => exact ⟨0, D, by omega, rfl, rfl, H.out, Keeps.refl _ _⟩
        case round =>
          obtain ⟨k, D1, hk, rfl, hs, hR, hK⟩ := hrel
          have HS := Lib.hid hs
          have HRA := Lib.hid hR
          have HK := Lib.hid hK
          clear hs hR hK
          by_cases hlt : k < 8
          · obtain ⟨i8, hi8, _, hz8, _⟩ := info_parts info_u8
            have hrr := HR.out.keeps HK.out (fun hm => HB.out hm)
            have hp := hrr.part (l := 8 * k) (h := 8 * k + 8) (by omega) (by rw [H3.out]; omega) (by omega)
            rw [show 8 * k + 8 - 8 * k = 8 by omega] at hp
            have hsl : ∀ W : World, (Instr.slice 43 (.slice (some ⟨bb, bo, none⟩) 64 bcap) (some (.int .i64 (8 * (k : Int)))) (some (.int .i64 (8 * (k : Int) + 8))) none).run Tryd.prog W = .ok (.slice (some ⟨bb, bo + 8 * k, none⟩) 8 (bcap - 8 * k)) W := fun W => by
              have := run_slice_part (P := Tryd.prog) Tryd.underlying43 hi8 hz8 .i64 .i64 (8 * k) (8 * k + 8) 64 bcap bb bo (by omega) (by omega) W
              rw [if_neg (by omega), show 8 * k + 8 - 8 * k = 8 by omega, Nat.mul_one] at this
              push_cast at this
              exact this
            have hcv := run_str (P := Tryd.prog) (w := wr) Tryd.underlying43 Tryd.underlying5 Tryd.underlying9 hp
            have hnum := rnumber_calls ((bs.drop (8 * k)).take 8) (by rw [List.length_take, List.length_drop, H3.out]; omega) (fun x hx => hu x (List.mem_of_mem_drop (List.mem_of_mem_take hx))) wr
            obtain ⟨st, hst⟩ : ∃ st, strOfNums ((bs.drop (8 * k)).take 8) = st := ⟨_, rfl⟩
            obtain ⟨x, hx⟩ : ∃ x, leWord ((bs.drop (8 * k)).take 8) = x := ⟨_, rfl⟩
            rw [hst] at hcv
            rw [hst, hx] at hnum
            have hwx : (wordsOf bs 8)[k]? = some x := by rw [← hx]; simp [wordsOf, hlt]
            have e0 : (8 * (ln : Int) + k) = (ln : Int) * 8 + 0 + k := by omega
            have hsto := rstore_calls HRA.out (8 * (ln : Int) + k) x
            rw [e0] at hsto
            obtain ⟨m, hm⟩ : ∃ m, (D1.store ((ln : Int) * 8 + 0 + k) x).1 = m := ⟨_, rfl⟩
            rw [hm, ← e0] at hsto
            have HN := Lib.hid hnum
            have HST := Lib.hid hsto
            have HM := Lib.hid hm
            have HX := Lib.hid hwx
            have HE0 := Lib.hid e0
            clear hnum hsto hm hwx e0 hst hx hp hrr hi8 hz8
            go_wp2_with fail
            refine HN.out.mono ?_
            rintro e w2 ⟨rfl, rfl⟩
            go_wp2_with fail
            refine HST.out.mono ?_
            rintro e w2 ⟨rfl, hR2, hK2⟩
            rw [HE0.out] at hR2
            have HR2 := Lib.hid hR2
            have HK2 := Lib.hid hK2
            clear hR2 hK2
            by_cases hm0 : m = 0
            · subst hm0
              go_wp2
              go_roundw
              case rel => exact ⟨k + 1, _, by omega, by go_num, stores_next HS.out HX.out HM.out, HR2.out, HK.out.trans HK2.out (fun k hk _ => hk)⟩
              case measure => simp [intOf]; omega
            · have hb : (m != 0) = true := by simpa using hm0
              have hfail := stores_fail HS.out HX.out (by rw [HM.out]; exact hm0)
              have hlay : D.lay ln 0 (wordsOf bs 8) = D1.store ((ln : Int) * 8 + 0 + k) x := by
                unfold Dev.lay
                rw [hfail, if_pos (by rw [HM.out]; exact hm0)]
              have HLay := Lib.hid hlay
              clear hfail hlay hm0
              go_wp2
              go_ret
              rw [HLay.out]
              exact ⟨by rw [HM.out]; rfl, HR2.out, HK.out.trans HK2.out (fun k hk _ => hk)⟩
          · obtain rfl : k = 8 := by omega
            have hfl := rflush_calls HRA.out ln
            have hs8 := HS.out
            rw [List.take_of_length_le (by rw [HWW.out]; omega)] at hs8
            have hlay : D.lay ln 0 (wordsOf bs 8) = D1.flush ln := by
              unfold Dev.lay
              rw [hs8, if_neg (by simp)]
            have HLay := Lib.hid hlay
            have HF := Lib.hid hfl
            clear hlay hfl hs8
            go_wp2_with fail
            refine HF.out.mono ?_
            rintro e w2 ⟨rfl, hR2, hK2⟩
            go_wp2
            go_ret
            rw [HLay.out]
            exact ⟨rfl, hR2, HK.out.trans hK2 (fun k hk _ => hk)⟩
      · rw [if_pos h3]
        have hb : (bs.length == 64) = false := by simpa using h3
        have hb2 : ((bs.length : Int) != 64) = true := by simp; omega
        clear h3
        go_enter Tryd.func65, Tryd.ntmps65
        go_wp2_with fail
        refine HL.out.mono ?_
        rintro e w1 ⟨rfl, rfl⟩
        go_wp2
        go_ret
        exact ⟨rfl, H.out, Keeps.refl _ _⟩

/-- The words are numbers of 64 bits. -/
def Dev.Fit (D : Dev) : Prop := ∀ c ∈ D.cells, 0 ≤ c.stored ∧ c.stored < 18446744073709551616
set_option maxRecDepth 100000 in
set_option maxHeartbeats 4000000 in
theorem rread_calls (h : RAt w d p0 p1 p2 p3 n D) (hfit : D.Fit) (at_ : Int) :
    Calls Tryd.prog 36 #[.pointer (some ⟨d, 0, none⟩), .int .i64 at_] w fun e w' => e = .returned (.tuple #[.string (strOfNums (D.read at_).1), .int .i64 (D.read at_).2]) ∧ Keeps [] w w' := by
  have hlen := h.dev.len
  have hmax := h.dev.max
  have hln := rlines_calls h
  rw [hlen] at hln
  have H := Lib.hid h
  have HL := Lib.hid hln
  have HF := Lib.hid hfit
  unfold Dev.read
  rw [lines_test hlen]
  clear h hln hfit
  by_cases h1 : at_ < 0
  · rw [if_pos (by rw [if_pos (.inl h1)]; simp)]
    go_enter Tryd.func36, Tryd.ntmps36
    go_wp2
    go_ret2
    exact ⟨rfl, Keeps.refl _ _⟩
  · by_cases h2 : ((n / 8 : Nat) : Int) ≤ at_
    · rw [if_pos (by rw [if_pos (.inr h2)]; simp)]
      go_enter Tryd.func36, Tryd.ntmps36
      go_wp2_with fail
      refine HL.out.mono ?_
      rintro e w1 ⟨rfl, rfl⟩
      go_wp2
      go_ret2
      exact ⟨rfl, Keeps.refl _ _⟩
    · rw [if_neg (by rw [if_neg (by omega)]; simp)]
      obtain ⟨ln, rfl⟩ := Int.eq_ofNat_of_zero_le (by omega : 0 ≤ at_)
      have hl8 : ln * 8 + 8 ≤ n := by omega
      by_cases ho : D.off = true
      · rw [if_pos ho]
        have hld := rload_calls H.out (8 * (ln : Int) + 0)
        have e1 : D.load (8 * (ln : Int) + 0) = (0, 3) := by unfold Dev.load Dev.may; simp [ho]
        rw [e1] at hld
        have HLd := Lib.hid hld
        clear hld e1 ho
        go_enter Tryd.func36, Tryd.ntmps36
        go_wp2_with fail
        refine HL.out.mono ?_
        rintro e w1 ⟨rfl, rfl⟩
        go_wp2
        go_loopw [6, 7] (fun u t wr => u = .string ByteArray.empty ∧ t = .int .i64 0 ∧ w = wr) (fun _ t _ => 8 - (intOf t).toNat)
        case atStart => exact ⟨rfl, rfl, rfl⟩
        case round =>
          obtain ⟨rfl, rfl, rfl⟩ := hrel
          go_wp2_with fail
          refine HLd.out.mono ?_
          rintro e w2 ⟨rfl, rfl⟩
          go_wp2
          go_ret2
          exact ⟨rfl, Keeps.refl _ _⟩
      · rw [if_neg ho]
        have ho : D.off = false := by simpa using ho
        have hll : (lineOf D ln).length = 8 := lineOf_length D ln (by rw [hlen]; omega)
        have HLL := Lib.hid hll
        have HO := Lib.hid ho
        clear hll ho
        simp only [Int.toNat_natCast]
        go_enter Tryd.func36, Tryd.ntmps36
        go_wp2_with fail
        refine HL.out.mono ?_
        rintro e w1 ⟨rfl, rfl⟩
        go_wp2
        go_loopw [6, 7] (fun u t wr => ∃ k : Nat, k ≤ 8 ∧ u = .string (strOfNums (bytesOf ((lineOf D ln).take k))) ∧ t = .int .i64 k ∧ Keeps [] w wr) (fun _ t _ => 8 - (intOf t).toNat)
        case atStart => exact ⟨0, by omega, rfl, rfl, Keeps.refl _ _⟩
        case round =>
          obtain ⟨k, hk, rfl, rfl, hK⟩ := hrel
          have HK := Lib.hid hK
          clear hK
          by_cases hlt : k < 8
          · have hkl : k < (lineOf D ln).length := by rw [HLL.out]; exact hlt
            have hcl : 8 * ln + k < D.cells.length := by rw [hlen]; omega
            have hx1 : (lineOf D ln)[k]? = some (D.cells[8 * ln + k]).stored := by rw [lineOf_get _ _ _ hlt, List.getElem?_eq_getElem hcl]; rfl
            have hft := HF.out _ (List.getElem_mem hcl)
            obtain ⟨x, hx⟩ : ∃ x, (D.cells[8 * ln + k]).stored = x := ⟨_, rfl⟩
            rw [hx] at hx1 hft
            have hld := rload_calls (H.out.keeps HK.out (by simp)) (8 * (ln : Int) + k)
            have e1 : D.load (8 * (ln : Int) + k) = (x, 0) := by
              rw [show (8 * (ln : Int) + k) = ((8 * ln + k : Nat) : Int) by push_cast; rfl]
              unfold Dev.load Dev.may
              rw [if_neg (by rw [if_neg (by simp [HO.out]), if_neg (by omega)]; simp)]
              rw [Int.toNat_natCast]
              simp [List.getElem?_eq_getElem hcl, hx]
            rw [e1] at hld
            have htk : (lineOf D ln).take (k + 1) = (lineOf D ln).take k ++ [x] := by
              rw [List.take_succ_eq_append_getElem hkl]
              rw [List.getElem?_eq_getElem hkl] at hx1
              rw [Option.some.inj hx1]
            have hadd : ∀ W : World, (Op.stringOp .add (strOfNums (bytesOf ((lineOf D ln).take k))) (strOfNums (leBytes x 8))).run Tryd.prog W = .ok (.string (strOfNums (bytesOf ((lineOf D ln).take (k + 1))))) W := fun W => by
              rw [run_string_add _ _ _ (by rw [strOfNums_size, bytesOf_length, List.length_take]; omega) (by rw [strOfNums_size, leBytes_length]; omega), strOf_append, htk, bytesOf_snoc]
            have HLd := Lib.hid hld
            have HFt := Lib.hid hft
            clear hld e1 htk hx1 hx hkl hcl hft
            go_wp2_with fail
            refine HLd.out.mono ?_
            rintro e w2 ⟨rfl, rfl⟩
            go_wp2_with fail
            refine (rlay_calls x 8 HFt.out.1 HFt.out.2 (by omega) wr).mono ?_
            rintro e w2 ⟨rfl, hK2⟩
            go_wp2
            go_roundw
            case rel => exact ⟨k + 1, by omega, rfl, by go_num, HK.out.trans hK2 (by simp)⟩
            case measure => simp [intOf]; omega
          · obtain rfl : k = 8 := by omega
            have hall : (lineOf D ln).take 8 = lineOf D ln := List.take_of_length_le (by rw [HLL.out]; omega)
            rw [hall]
            clear hall
            go_wp2
            go_ret2
            exact ⟨rfl, HK.out⟩
end
end Go.Proofs.YtfpdikhdfcppeaaDoor
