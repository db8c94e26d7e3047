/- The reference's store: Turn. -/
import Derived.Test.YtfpdikhdfcppeaaDoorG2
namespace Go.Proofs.YtfpdikhdfcppeaaDoor
open Go.RowKit Go.Proofs

theorem hasBit_addOne {n S : Nat} {g a : Int} (h : hasBit n S a = true) : hasBit n (addOne n S g) a = true := by
  obtain ⟨k, rfl, hk, hb⟩ := hasBit_nat h
  refine hasBit_of hk ?_
  unfold addOne
  split
  · rw [or_bit, hb]; rfl
  · exact hb
theorem turn_give {n : Nat} {r : Int} {D : Dev} {M : Nat → Nat} {bs : List Int} {at_ : Int} (h : hasBit n (M 3) at_ = true) (he : (shMake n r D M bs).2.1 = 0) : (mGive n (shMake n r D M bs).2.2.2 at_).1 = 0 := by
  have key : ∃ g, (shMake n r D M bs).2.2.2 = upd M 3 (addOne n (M 3) g) := by
    unfold shMake at he ⊢
    by_cases hl : bs.length ≠ 64
    · rw [if_pos hl] at he; simp at he
    · rw [if_neg hl] at he ⊢
      by_cases ht : (mTake n M r).2.1 ≠ 0
      · rw [if_pos ht] at he; exact absurd he ht
      · rw [if_neg ht]
        unfold mTake at ht ⊢
        split at ht
        · simp at ht
        · rename_i h2
          rw [if_neg h2]
          exact ⟨_, rfl⟩
  obtain ⟨g, hg⟩ := key
  rw [hg]
  unfold mGive
  have : hasBit n (upd M 3 (addOne n (M 3) g) 3) at_ = true := hasBit_addOne h
  rw [if_pos this]

section
variable (m d p0 p1 p2 p3 A n : Nat) (r : Int) (D : Dev) (M : Nat → Nat) (F : List Nat) (w : World) (h : RSt w m d p0 p1 p2 p3 A n r D M F) (hr0 : 0 ≤ r)
variable (B : Nat) (v : Value) (bs : List Int) (hr : Rd .u8 w v B bs) (hu : U8 bs) (hB : B < w.heap.size ∧ B ∉ sfoot m d p0 p1 p2 p3 F)
include h hr hu hB hr0

set_option maxHeartbeats 2000000 in
theorem rturn_calls (at_ : Int) : Calls Tryd.prog 34 #[.pointer (some ⟨m, 0, none⟩), .int .i64 at_, v] w fun e w' => Any fun F' =>
    e = .returned (.tuple #[.int .i64 (shTurn n r D M at_ bs).1, .int .i64 (shTurn n r D M at_ bs).2.1]) ∧ RSt w' m d p0 p1 p2 p3 A n r (shTurn n r D M at_ bs).2.2.1 (shTurn n r D M at_ bs).2.2.2 F' ∧ Grows w w' (sfoot m d p0 p1 p2 p3 F) (sfoot m d p0 p1 p2 p3 F') := by
  have hmk := rmake_calls m d p0 p1 p2 p3 A n r D M F w h hr0 B v bs hr hu hB
  have hown := rown_calls A n r M F w h.alc at_
  obtain ⟨va, cap, rfl, hcap, hmax⟩ := hr.shape
  unfold maxLen at hmax
  have c0 := h.blk.cell 0
  have c1 := h.blk.cell 1
  simp at c0 c1
  obtain ⟨V, G, hF, ha⟩ := id h.alc
  have cW := ha.cellOf (i := 3) (by omega)
  simp at cW
  have hhas := rhas_calls (V 3) (G 3) _ at_ w (ha.rd 3 (by omega))
  rw [has_ups] at hhas
  have HR := Lib.hid hr
  have HU := Lib.hid hu
  have HB := Lib.hid hB
  have H := Lib.hid h
  by_cases hl : bs.length = 64
  · have hne : ((bs.length : Int) != 64) = false := by simp [hl]
    cases hb : hasBit n (M 3) at_ with
    | false =>
      have hs : shTurn n r D M at_ bs = (0, 2, D, M) := by unfold shTurn; rw [if_pos (.inr hb)]
      rw [hs]
      rw [hb] at hhas
      have HH := Lib.hid hhas
      clear hl hs hr hu hB hb hhas hmk hown h ha hF
      go_enter Tryd.func34, Tryd.ntmps34
      go_wp2_with fail
      refine HH.out.mono ?_
      rintro e w1 ⟨rfl, rfl⟩
      go_wp2
      go_ret2
      exact Any.mk F ⟨rfl, H.out, Grows.refl _ _⟩
    | true =>
      rw [hb] at hhas
      have HBit := Lib.hid hb
      cases ho : (hasBit n (M 3) at_ && !hasBit n (M 2) at_) with
      | true =>
        rw [ho] at hown
        have hs : shTurn n r D M at_ bs = ((shWritten D at_ bs).1, (shWritten D at_ bs).2.1, (shWritten D at_ bs).2.2, M) := by
          unfold shTurn; rw [if_neg (by rw [hb]; simp [hl]), if_pos ho]
        rw [hs]
        have HH := Lib.hid hhas
        have HOwn := Lib.hid hown
        have hwr := rwrite_calls h.dev at_ _ B bs hr hu (fun hm => hB.2 (mem_sfoot.2 (.inr (.inl hm))))
        unfold shWritten
        by_cases hw : (D.write at_ bs).1 = 0
        · rw [if_neg (by omega)]
          rw [hw] at hwr
          have HWr := Lib.hid hwr
          clear hl hs hr hu hB hb ho hhas hmk hown h ha hF hwr hw
          go_enter Tryd.func34, Tryd.ntmps34
          go_wp2_with fail
          refine HH.out.mono ?_
          rintro e w1 ⟨rfl, rfl⟩
          go_wp2_with fail
          refine HOwn.out.mono ?_
          rintro e w1 ⟨rfl, rfl⟩
          go_wp2_with fail
          refine HWr.out.mono ?_
          rintro e w2 ⟨rfl, hD2, hK2⟩
          obtain ⟨h2, g2⟩ := H.out.onDev hD2 hK2
          have H2 := Lib.hid h2
          have G2 := Lib.hid g2
          clear h2 g2 hD2 hK2
          go_wp2
          go_ret2
          exact Any.mk F ⟨rfl, H2.out, G2.out⟩
        · rw [if_pos hw]
          obtain ⟨z, hz⟩ : ∃ z, (D.write at_ bs).1 = z := ⟨_, rfl⟩
          rw [hz] at hw hwr ⊢
          have hne2 : (z != 0) = true := by simpa using hw
          have HWr := Lib.hid hwr
          clear hl hs hr hu hB hb ho hhas hmk hown h ha hF hwr hz
          go_enter Tryd.func34, Tryd.ntmps34
          go_wp2_with fail
          refine HH.out.mono ?_
          rintro e w1 ⟨rfl, rfl⟩
          go_wp2_with fail
          refine HOwn.out.mono ?_
          rintro e w1 ⟨rfl, rfl⟩
          go_wp2_with fail
          refine HWr.out.mono ?_
          rintro e w2 ⟨rfl, hD2, hK2⟩
          obtain ⟨h2, g2⟩ := H.out.onDev hD2 hK2
          have H2 := Lib.hid h2
          have G2 := Lib.hid g2
          clear h2 g2 hD2 hK2
          go_wp2
          go_ret2
          exact Any.mk F ⟨rfl, H2.out, G2.out⟩
      | false =>
        rw [ho] at hown
        have HH := Lib.hid hhas
        have HOwn := Lib.hid hown
        by_cases he : (shMake n r D M bs).2.1 = 0
        · have hgv := turn_give (r := r) (D := D) (bs := bs) hb he
          have hs : shTurn n r D M at_ bs = ((shMake n r D M bs).1, (mGive n (shMake n r D M bs).2.2.2 at_).1, (shMake n r D M bs).2.2.1, (mGive n (shMake n r D M bs).2.2.2 at_).2) := by
            unfold shTurn; rw [if_neg (by rw [hb]; simp [hl]), if_neg (by rw [ho]; simp), if_neg (by omega)]
          rw [hs]
          rw [hgv]
          rw [he] at hmk
          generalize (shMake n r D M bs).1 = x at *
          generalize (shMake n r D M bs).2.2.1 = D2 at *
          generalize (shMake n r D M bs).2.2.2 = M2 at *
          have HMk := Lib.hid hmk
          clear hl hs hr hu hB hb ho hhas hmk hown h ha hF he hgv
          go_enter Tryd.func34, Tryd.ntmps34
          go_wp2_with fail
          refine HH.out.mono ?_
          rintro e w1 ⟨rfl, rfl⟩
          go_wp2_with fail
          refine HOwn.out.mono ?_
          rintro e w1 ⟨rfl, rfl⟩
          go_wp2_with fail
          refine HMk.out.mono ?_
          rintro e w2 ⟨F2, rfl, h2, g2⟩
          have k1 := h2.blk.cell 1
          simp at k1
          have hgiv := rgive_calls A n r M2 F2 w2 h2.alc at_
          have HGiv := Lib.hid hgiv
          have H2 := Lib.hid h2
          have G2 := Lib.hid g2
          clear h2 g2 hgiv
          go_wp2_with fail
          refine HGiv.out.mono ?_
          rintro e w3 ⟨F3, rfl, hA3, hG3⟩
          obtain ⟨h3, g3⟩ := H2.out.onAlc hA3 hG3
          have H3 := Lib.hid h3
          have G3 := Lib.hid (G2.out.trans g3)
          clear h3 g3 hA3 hG3
          go_wp2
          go_ret2
          exact Any.mk F3 ⟨rfl, H3.out, G3.out⟩
        · have hs : shTurn n r D M at_ bs = (0, (shMake n r D M bs).2.1, (shMake n r D M bs).2.2.1, (shMake n r D M bs).2.2.2) := by
            unfold shTurn; rw [if_neg (by rw [hb]; simp [hl]), if_neg (by rw [ho]; simp), if_pos he]
          rw [hs]
          generalize (shMake n r D M bs).1 = x at *
          generalize (shMake n r D M bs).2.1 = z at *
          generalize (shMake n r D M bs).2.2.1 = D2 at *
          generalize (shMake n r D M bs).2.2.2 = M2 at *
          have hne2 : (z != 0) = true := by simpa using he
          have HMk := Lib.hid hmk
          clear hl hs hr hu hB hb ho hhas hmk hown h ha hF
          go_enter Tryd.func34, Tryd.ntmps34
          go_wp2_with fail
          refine HH.out.mono ?_
          rintro e w1 ⟨rfl, rfl⟩
          go_wp2_with fail
          refine HOwn.out.mono ?_
          rintro e w1 ⟨rfl, rfl⟩
          go_wp2_with fail
          refine HMk.out.mono ?_
          rintro e w2 ⟨F2, rfl, h2, g2⟩
          have H2 := Lib.hid h2
          have G2 := Lib.hid g2
          clear h2 g2
          go_wp2
          go_ret2
          exact Any.mk F2 ⟨rfl, H2.out, G2.out⟩
  · have hne : ((bs.length : Int) != 64) = true := by simp; omega
    have hs : shTurn n r D M at_ bs = (0, 2, D, M) := by unfold shTurn; rw [if_pos (.inl hl)]
    rw [hs]
    clear hl hs hr hu hB hhas hmk hown h ha hF
    go_enter Tryd.func34, Tryd.ntmps34
    go_wp2
    go_ret2
    exact Any.mk F ⟨rfl, H.out, Grows.refl _ _⟩
end
end Go.Proofs.YtfpdikhdfcppeaaDoor
