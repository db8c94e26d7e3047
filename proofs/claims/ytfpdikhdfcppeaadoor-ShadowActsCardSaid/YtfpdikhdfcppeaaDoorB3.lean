/- Walks of package shadow: Make, Turn, New. -/
import Derived.Test.YtfpdikhdfcppeaaDoorB2
namespace Go.Proofs.YtfpdikhdfcppeaaDoor
open Go.RowKit Go.Proofs

section
variable (s b c a n : Nat) (r : Int) (D : Dev) (M : Nat → Nat) (F : List Nat) (w : World) (h : ShAt w s b c a n r D M F)
variable (B : Nat) (v : Value) (bs : List Int) (hr : Rd .u8 w v B bs) (hu : U8 bs) (hB : B ∉ b :: c :: F)
include h hr hu hB

set_option maxHeartbeats 1000000 in
theorem shMake_calls : Calls Tryd.prog 15 #[.pointer (some ⟨s, 0, none⟩), v] w fun e w' =>
    e = .returned (.tuple #[.int .i64 (shMake n r D M bs).1, .int .i64 (shMake n r D M bs).2.1]) ∧ ShAt w' s b c a n r (shMake n r D M bs).2.2.1 (shMake n r D M bs).2.2.2 F ∧ Grows w w' (b :: c :: F) (b :: c :: F) := by
  obtain ⟨va, cap, rfl, hcap, hmax⟩ := hr.shape
  have c1 := h.blk.cell 1
  simp at c1
  have HR := Lib.hid hr
  have HU := Lib.hid hu
  have HB := Lib.hid hB
  by_cases hl : bs.length = 64
  · have hne : ((bs.length : Int) != 64) = false := by simp [hl]
    have ht := Take_calls a n r M F w h.alc h.tab
    by_cases he : (mTake n M r).2.1 = 0
    · have hs : shMake n r D M bs = ((shWritten D (mTake n M r).1 bs).1, (shWritten D (mTake n M r).1 bs).2.1, (shWritten D (mTake n M r).1 bs).2.2, (mTake n M r).2.2) := by
        unfold shMake; rw [if_neg (by omega), if_neg (by omega)]
      rw [hs]
      rw [he] at ht
      obtain ⟨x, hx⟩ : ∃ x, (mTake n M r).1 = x := ⟨_, rfl⟩
      obtain ⟨M1, hM1⟩ : ∃ M1, (mTake n M r).2.2 = M1 := ⟨_, rfl⟩
      rw [hx, hM1] at ht ⊢
      have HT := Lib.hid ht
      clear hl hs he ht hr hu hB hx hM1
      go_enter Tryd.func15, Tryd.ntmps15
      go_wp2_with (first | (go_at_call 50; refine HT.out.mono ?_; rintro e w1 ⟨rfl, hA, hG⟩; obtain ⟨h1, g1⟩ := h.onAlc hA hG) |
        (go_at_call 51; refine (shWritten_calls s b c a n r D M1 F w1 h1 B _ bs (HR.out.keeps g1.2 HB.out) HU.out x).mono ?_; rintro e w2 ⟨rfl, h2, g2⟩))
      go_ret2
      exact ⟨rfl, h2, g1.trans g2⟩
    · have hs : shMake n r D M bs = (0, (mTake n M r).2.1, D, (mTake n M r).2.2) := by
        unfold shMake; rw [if_neg (by omega), if_pos he]
      rw [hs]
      obtain ⟨m, hm⟩ : ∃ m, (mTake n M r).2.1 = m := ⟨_, rfl⟩
      obtain ⟨M1, hM1⟩ : ∃ M1, (mTake n M r).2.2 = M1 := ⟨_, rfl⟩
      rw [hm, hM1] at ht ⊢
      rw [hm] at he
      have hne2 : (m != 0) = true := by simpa using he
      have HT := Lib.hid ht
      clear hl hs he ht hr hu hB hm hM1
      go_enter Tryd.func15, Tryd.ntmps15
      go_wp2_with (go_at_call 50; refine HT.out.mono ?_; rintro e w1 ⟨rfl, hA, hG⟩)
      go_ret2
      exact ⟨rfl, h.onAlc hA hG⟩
  · have hne : ((bs.length : Int) != 64) = true := by simp; omega
    have hs : shMake n r D M bs = (0, 2, D, M) := by unfold shMake; rw [if_pos hl]
    rw [hs]
    clear hl hs hr hu hB
    go_enter Tryd.func15, Tryd.ntmps15
    go_wp2
    go_ret2
    exact ⟨rfl, h, Grows.refl _ _⟩

set_option maxHeartbeats 2000000 in
theorem shTurn_calls (at_ : Int) : Calls Tryd.prog 17 #[.pointer (some ⟨s, 0, none⟩), .int .i64 at_, v] w fun e w' =>
    e = .returned (.tuple #[.int .i64 (shTurn n r D M at_ bs).1, .int .i64 (shTurn n r D M at_ bs).2.1]) ∧ ShAt w' s b c a n r (shTurn n r D M at_ bs).2.2.1 (shTurn n r D M at_ bs).2.2.2 F ∧ Grows w w' (b :: c :: F) (b :: c :: F) := by
  obtain ⟨va, cap, rfl, hcap, hmax⟩ := hr.shape
  have c1 := h.blk.cell 1
  simp at c1
  have HR := Lib.hid hr
  have HU := Lib.hid hu
  have HB := Lib.hid hB
  by_cases hl : bs.length = 64
  · have hne : ((bs.length : Int) != 64) = false := by simp [hl]
    have hwk := works_calls a n r M F w h.alc h.tab
    have HWK := Lib.hid hwk
    clear hwk
    cases hb : hasBit n (M 3) at_ with
    | false =>
      have hs : shTurn n r D M at_ bs = (0, 2, D, M) := by unfold shTurn; rw [if_pos (.inr hb)]
      rw [hs]
      have HBit := Lib.hid hb
      clear hl hs hr hu hB hb
      go_enter Tryd.func17, Tryd.ntmps17
      go_wp2_with (first | (go_at_call 22; refine HWK.out.mono ?_; rintro e w1 ⟨p1, q1, rfl, hS1, hK1, _, _⟩; have hh := has_calls p1 q1 n (M 3) at_ w1 hS1; rw [HBit.out] at hh; have HH := Lib.hid hh; clear hh) |
        (go_at_call 53; refine HH.out.mono ?_; rintro e w2 ⟨rfl, rfl⟩))
      go_ret2
      exact ⟨rfl, h.same hK1⟩
    | true =>
      have HBit := Lib.hid hb
      cases ho : (hasBit n (M 3) at_ && !hasBit n (M 2) at_) with
      | true =>
        have hs : shTurn n r D M at_ bs = ((shWritten D at_ bs).1, (shWritten D at_ bs).2.1, (shWritten D at_ bs).2.2, M) := by
          unfold shTurn; rw [if_neg (by rw [hb]; simp [hl]), if_pos ho]
        rw [hs]
        have HOwn := Lib.hid ho
        clear hl hs hr hu hB hb ho
        go_enter Tryd.func17, Tryd.ntmps17
        go_wp2_with fail
        refine HWK.out.mono ?_
        rintro e w1 ⟨p1, q1, rfl, hS1, hK1, _, _⟩
        have hh := has_calls p1 q1 n (M 3) at_ w1 hS1
        rw [HBit.out] at hh
        have HH := Lib.hid hh
        obtain ⟨h1, g1⟩ := h.same hK1
        have c2 := h1.blk.cell 1
        simp at c2
        have hown := own_calls a n r M F w1 h1.alc at_
        rw [HOwn.out] at hown
        have HO2 := Lib.hid hown
        clear hh hown
        go_wp2_with (first | (go_at_call 53; refine HH.out.mono ?_; rintro e w2 ⟨rfl, rfl⟩) |
          (go_at_call 54; refine HO2.out.mono ?_; rintro e w2 ⟨rfl, rfl⟩) |
          (go_at_call 51; refine (shWritten_calls s b c a n r D M F w1 h1 B _ bs (HR.out.keeps g1.2 HB.out) HU.out at_).mono ?_; rintro e w2 ⟨rfl, h2, g2⟩))
        go_ret2
        exact ⟨rfl, h2, g1.trans g2⟩
      | false =>
        have HOwn := Lib.hid ho
        by_cases he : (shMake n r D M bs).2.1 = 0
        · have hs : shTurn n r D M at_ bs = ((shMake n r D M bs).1, (mGive n (shMake n r D M bs).2.2.2 at_).1, (shMake n r D M bs).2.2.1, (mGive n (shMake n r D M bs).2.2.2 at_).2) := by
            unfold shTurn; rw [if_neg (by rw [hb]; simp [hl]), if_neg (by rw [ho]; simp), if_neg (by omega)]
          rw [hs]
          have hmk : Hid (∀ w1, ShAt w1 s b c a n r D M F → Rd .u8 w1 (.slice va bs.length cap) B bs → Calls Tryd.prog 15 #[.pointer (some ⟨s, 0, none⟩), .slice va bs.length cap] w1 fun e w' =>
              e = .returned (.tuple #[.int .i64 (shMake n r D M bs).1, .int .i64 0]) ∧ ShAt w' s b c a n r (shMake n r D M bs).2.2.1 (shMake n r D M bs).2.2.2 F ∧ Grows w1 w' (b :: c :: F) (b :: c :: F)) := by
            intro w1 h1 hr1
            have := shMake_calls s b c a n r D M F w1 h1 B _ bs hr1 HU.out HB.out
            rwa [he] at this
          generalize (shMake n r D M bs).1 = x at *
          generalize (shMake n r D M bs).2.2.1 = D2 at *
          generalize (shMake n r D M bs).2.2.2 = M2 at *
          clear hl hs hr hu hB hb ho he
          go_enter Tryd.func17, Tryd.ntmps17
          go_wp2_with fail
          refine HWK.out.mono ?_
          rintro e w1 ⟨p1, q1, rfl, hS1, hK1, _, _⟩
          have hh := has_calls p1 q1 n (M 3) at_ w1 hS1
          rw [HBit.out] at hh
          have HH := Lib.hid hh
          obtain ⟨h1, g1⟩ := h.same hK1
          have c2 := h1.blk.cell 1
          simp at c2
          have hown := own_calls a n r M F w1 h1.alc at_
          rw [HOwn.out] at hown
          have HO2 := Lib.hid hown
          clear hh hown
          go_wp2_with (first | (go_at_call 53; refine HH.out.mono ?_; rintro e w2 ⟨rfl, rfl⟩) |
            (go_at_call 54; refine HO2.out.mono ?_; rintro e w2 ⟨rfl, rfl⟩) |
            (go_at_call 15; refine (hmk.out w1 h1 (HR.out.keeps g1.2 HB.out)).mono ?_; rintro e w2 ⟨rfl, h2, g2⟩; have c3 := h2.blk.cell 1; simp at c3) |
            (go_at_call 55; refine (give_calls a n r M2 F at_ w2 h2.alc).mono ?_; rintro e w3 ⟨rfl, hA3, hG3⟩; obtain ⟨h3, g3⟩ := h2.onAlc hA3 hG3))
          go_ret2
          exact ⟨rfl, h3, (g1.trans g2).trans g3⟩
        · have hs : shTurn n r D M at_ bs = (0, (shMake n r D M bs).2.1, (shMake n r D M bs).2.2.1, (shMake n r D M bs).2.2.2) := by
            unfold shTurn; rw [if_neg (by rw [hb]; simp [hl]), if_neg (by rw [ho]; simp), if_pos he]
          rw [hs]
          have hmk : Hid (∀ w1, ShAt w1 s b c a n r D M F → Rd .u8 w1 (.slice va bs.length cap) B bs → Calls Tryd.prog 15 #[.pointer (some ⟨s, 0, none⟩), .slice va bs.length cap] w1 fun e w' =>
              e = .returned (.tuple #[.int .i64 (shMake n r D M bs).1, .int .i64 (shMake n r D M bs).2.1]) ∧ ShAt w' s b c a n r (shMake n r D M bs).2.2.1 (shMake n r D M bs).2.2.2 F ∧ Grows w1 w' (b :: c :: F) (b :: c :: F)) := by
            intro w1 h1 hr1
            exact shMake_calls s b c a n r D M F w1 h1 B _ bs hr1 HU.out HB.out
          generalize (shMake n r D M bs).1 = x at *
          generalize (shMake n r D M bs).2.1 = m at *
          generalize (shMake n r D M bs).2.2.1 = D2 at *
          generalize (shMake n r D M bs).2.2.2 = M2 at *
          have hne2 : (m != 0) = true := by simpa using he
          clear hl hs hr hu hB hb ho he
          go_enter Tryd.func17, Tryd.ntmps17
          go_wp2_with fail
          refine HWK.out.mono ?_
          rintro e w1 ⟨p1, q1, rfl, hS1, hK1, _, _⟩
          have hh := has_calls p1 q1 n (M 3) at_ w1 hS1
          rw [HBit.out] at hh
          have HH := Lib.hid hh
          obtain ⟨h1, g1⟩ := h.same hK1
          have c2 := h1.blk.cell 1
          simp at c2
          have hown := own_calls a n r M F w1 h1.alc at_
          rw [HOwn.out] at hown
          have HO2 := Lib.hid hown
          clear hh hown
          go_wp2_with (first | (go_at_call 53; refine HH.out.mono ?_; rintro e w2 ⟨rfl, rfl⟩) |
            (go_at_call 54; refine HO2.out.mono ?_; rintro e w2 ⟨rfl, rfl⟩) |
            (go_at_call 15; refine (hmk.out w1 h1 (HR.out.keeps g1.2 HB.out)).mono ?_; rintro e w2 ⟨rfl, h2, g2⟩))
          go_ret2
          exact ⟨rfl, h2, g1.trans g2⟩
  · have hne : ((bs.length : Int) != 64) = true := by simp; omega
    have hs : shTurn n r D M at_ bs = (0, 2, D, M) := by unfold shTurn; rw [if_pos (.inl hl)]
    rw [hs]
    clear hl hs hr hu hB
    go_enter Tryd.func17, Tryd.ntmps17
    go_wp2
    go_ret2
    exact ⟨rfl, h, Grows.refl _ _⟩
end
end Go.Proofs.YtfpdikhdfcppeaaDoor
