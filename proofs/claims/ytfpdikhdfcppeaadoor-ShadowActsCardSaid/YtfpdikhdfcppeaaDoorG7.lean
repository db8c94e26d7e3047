/- Walk of the law ShadowActs. -/
import Derived.Test.YtfpdikhdfcppeaaDoorG6
import Derived.Deep.DeepCutAuto
import Derived.Deep.CutBlock
namespace Go.Proofs.YtfpdikhdfcppeaaDoor
open Go.RowKit Go.Proofs

theorem two_first (n : Nat) (h : 2 ≤ n) (h2 : n ≤ 13) : ups n (addAll n 0 [0, 1]) = [0, 1] ∧ addAll n 0 [0, 1] < 2 ^ n := by
  have : n = 2 ∨ n = 3 ∨ n = 4 ∨ n = 5 ∨ n = 6 ∨ n = 7 ∨ n = 8 ∨ n = 9 ∨ n = 10 ∨ n = 11 ∨ n = 12 ∨ n = 13 := by omega
  rcases this with e | e | e | e | e | e | e | e | e | e | e | e <;> subst e <;> decide +kernel

theorem rd_two (w : World) (t : TypeId) : Rd .i64 (w.alloc (.cells #[.int .i64 0, .int .i64 1] t)) (.slice (some ⟨w.heap.size, 0, none⟩) 2 2) w.heap.size [0, 1] := by
  have hb : Blk (w.alloc (.cells #[.int .i64 0, .int .i64 1] t)) w.heap.size t [.int .i64 0, .int .i64 1] := Blk.new w t [.int .i64 0, .int .i64 1]
  refine .inr ⟨0, 2, rfl, by simp, by unfold maxLen; omega, fun i hi => ?_⟩
  have : i = 0 ∨ i = 1 := by simp at hi; omega
  rcases this with rfl | rfl
  · exact hb.cell 0
  · exact hb.cell 1
theorem ups_zero (n : Nat) : ups n 0 = [] := by unfold ups; rw [bitsUp_zero]; rfl

set_option maxRecDepth 100000 in
set_option maxHeartbeats 8000000 in
theorem shadowActs_walk (x y : Nat) (hx : x < 256) (hy : y < 256) (v1 : Value) (l1 : List GAct) (w : World) (hT : Tab w) (h0g : 0 < w.heap.size) (A1 : ActsAt w w.heap.size v1 l1) :
    Calls Tryd.prog 7 #[.int .u8 x, .int .u8 y, v1] w fun e w' => e = .returned (.bool true) ∧ Keeps [] w w' := by
  obtain ⟨a1, cap1, rfl, hc1, hm1, _⟩ := id A1
  have HA1 := Lib.hid A1
  unfold maxLen at hm1
  clear A1
  by_cases hs : smallB l1 30 = true
  · have HS1 := Lib.hid hs
    clear hs
    obtain ⟨n, hn⟩ : ∃ n, 2 + x % 12 = n := ⟨_, rfl⟩
    obtain ⟨q, hq⟩ : ∃ q, y % 4 = q := ⟨_, rfl⟩
    have e1 : 2 + (x : Int) % 12 = (n : Int) := by omega
    have e2 : (y : Int) % 4 = (q : Int) := by omega
    have hn2 : 2 ≤ n ∧ n ≤ 13 := by omega
    have hq3 : q ≤ 3 := by omega
    clear hn hq
    go_enter Tryd.func7, Tryd.ntmps7
    go_wp2_with fail
    refine (awake_calls w hT).mono ?_
    rintro e w1 ⟨rfl, hK1⟩
    have B1 := HA1.out.keeps hK1 (by simp) (Nat.le_refl _)
    have hsm1 := small_calls w.heap.size _ l1 30 w1 B1
    rw [HS1.out] at hsm1
    have HM1 := Lib.hid hsm1
    clear hsm1 B1
    go_wp2_with fail
    refine HM1.out.mono ?_
    rintro e w2 ⟨rfl, rfl⟩
    clear HM1
    go_wp2_with fail
    refine (made_calls n q w1 (hT.keeps hK1 (by simp)) (by omega)).mono ?_
    rintro e w2 ⟨s, b, c, a, F, rfl, hSh, hK2, hnew⟩
    have hKw2 := hK1.trans hK2 (by simp)
    have HKw2 := Lib.hid hKw2
    have HSh := Lib.hid hSh
    have HNew : Hid (∀ x ∈ s :: b :: c :: F, w.heap.size ≤ x) := fun x hx => by have := hnew x hx; have := hK1.size; omega
    clear hSh hnew hK1 hK2
    go_wp2_with fail
    refine (rnew_calls n w2 (by omega)).mono ?_
    rintro e w3 ⟨d, p0, p1, p2, p3, rfl, hR3, hK3, hd3⟩
    have HR3 := Lib.hid hR3
    have HK3 := Lib.hid hK3
    have HD3 := Lib.hid hd3
    clear hR3 hK3 hd3
    go_wp2_with fail
    have hRt : Rd .i64 (w3.alloc (.cells #[.int .i64 0, .int .i64 1] 3)) (.slice (some ⟨w3.heap.size, 0, none⟩) 2 2) w3.heap.size (ups n (addAll n 0 [0, 1])) := by
      rw [(two_first n hn2.1 hn2.2).1]; exact rd_two _ _
    refine (rnewal_calls n (addAll n 0 [0, 1]) 0 w3.heap.size w3.heap.size q _ _ _ hRt (by rw [ups_zero]; exact Rd.nil _ _ _) (by simp) (by simp) (two_first n hn2.1 hn2.2).2 (Nat.two_pow_pos n) (by omega)).mono ?_
    rintro e w4 ⟨A, rfl, hA4, hK4, hA0⟩
    have hkA : Keeps [] w3 w4 := ((Keeps.refl _ _).alloc _).trans hK4 (by simp)
    have HA4 := Lib.hid hA4
    have HKA := Lib.hid hkA
    have hA1 : w3.heap.size + 1 ≤ A := by have := hA0; simp at this; omega
    have HA0 := Lib.hid hA1
    clear hA4 hK4 hRt hkA hA0 hA1
    go_wp2_with fail
    have hB : Both w (w4.alloc (.cells #[.pointer (some ⟨d, 0, none⟩), .pointer (some ⟨A, 0, none⟩)] 71)) s b c a w4.heap.size d p0 p1 p2 p3 A n q (Dev.new (n * 8)) (madeM n) F (Dev.new (n * 8)) (madeM n) [A, w3.heap.size, w3.heap.size, w3.heap.size, w3.heap.size] := by
      have k34 := HKA.out
      have k45 : Keeps [] w4 (w4.alloc (.cells #[.pointer (some ⟨d, 0, none⟩), .pointer (some ⟨A, 0, none⟩)] 71)) := (Keeps.refl _ _).alloc _
      have s3 := HK3.out.size
      have s4 := k34.size
      have s2 := HKw2.out.size
      have lA := HA0.out
      have lAw := HA4.out.lt A (by simp)
      have lB : w3.heap.size < w4.heap.size := by omega
      have hlt : ∀ x ∈ [d, p0, p1, p2, p3], w2.heap.size ≤ x ∧ x < w3.heap.size := fun x hx => ⟨HD3.out x hx, HR3.out.dev.lt x hx⟩
      have hG : ∀ x ∈ sfoot w4.heap.size d p0 p1 p2 p3 [A, w3.heap.size, w3.heap.size, w3.heap.size, w3.heap.size], w2.heap.size ≤ x := fun x hx => by
        rcases mem_sfoot.1 hx with rfl | hx | hx
        · omega
        · exact (hlt x hx).1
        · simp at hx; omega
      refine ⟨(HSh.out.same (HK3.out.trans (k34.trans k45 (by simp)) (by simp))).1, ⟨Blk.new w4 _ [.pointer (some ⟨d, 0, none⟩), .pointer (some ⟨A, 0, none⟩)], HR3.out.keeps (k34.trans k45 (by simp)) (by simp), HA4.out.keeps k45 (by simp), ⟨fun hm => ?_, fun hm => ?_⟩, fun k hk hm => ?_⟩, new_fit _, fun x hx => HNew.out x hx, fun x hx => ?_, fun x hx hm => ?_, HKw2.out.trans (HK3.out.trans (k34.trans k45 (by simp)) (by simp)) (by simp), h0g⟩
      · have := (hlt _ hm).2; omega
      · simp at hm; omega
      · have := (hlt _ hk).2; simp at hm; omega
      · have := hG x hx; omega
      · have := hG x hx; have := HSh.out.below x hm; omega
    have HB := Lib.hid hB
    clear hB HSh HNew HR3 HK3 HD3 HA4 HKA HKw2 HA0
    generalize w4.alloc (.cells #[.pointer (some ⟨d, 0, none⟩), .pointer (some ⟨A, 0, none⟩)] 71) = w5 at *
    generalize w4.heap.size = m at *
    generalize [A, w3.heap.size, w3.heap.size, w3.heap.size, w3.heap.size] = G at *
    go_loopg [13] l1.length (fun g t wr => ∃ (k : Nat) (D : Dev) (M : Nat → Nat) (F : List Nat) (G : List Nat), k ≤ l1.length ∧ g = l1.length - k ∧ t = .int .i64 k ∧ Both w wr s b c a m d p0 p1 p2 p3 A n q D M F D M G)
    case atStart => exact ⟨0, _, _, F, G, by omega, by omega, rfl, HB.out⟩
    case round =>
      obtain ⟨k, D, M, F1, G1, hk, rfl, rfl, hB1⟩ := hrel
      have HB1 := Lib.hid hB1
      clear hB1 HB
      by_cases hlt : k < l1.length
      · obtain ⟨_, cap1', he1, _, _, hel⟩ := HA1.out.keeps HB1.out.keep (by simp) (Nat.le_refl _)
        obtain ⟨rfl, rfl⟩ : _ = a1 ∧ cap1' = cap1 := by injection he1 with h1 h2 h3; exact ⟨h1.symm, h3.symm⟩
        obtain ⟨z, hz⟩ : ∃ z, l1[k]? = some z := ⟨_, List.getElem?_eq_getElem hlt⟩
        obtain ⟨bb, o, bv, B, rfl, hbN, hBN, c0, c1, c2, hr, hu⟩ := hel k z hz
        obtain ⟨kind, at_, bs⟩ := z
        simp only at c0 c1 hr hu
        obtain ⟨va, vcap, rfl, hcap, hmax⟩ := id hr.shape
        unfold maxLen at hmax
        have HR := Lib.hid hr
        have HU := Lib.hid hu
        have hrest : ∀ W, Calls Tryd.prog 24 #[.int .i64 kind, .int .i64 10] W fun e w' => e = .returned (.int .i64 (kind % 10)) ∧ W = w' := fun W => rest_calls kind 10 W (by omega) (by omega)
        have hm0 : 0 ≤ kind % 10 ∧ kind % 10 < 10 := by omega
        generalize kind % 10 = κ at hrest hm0
        have HRest := Lib.hid hrest
        clear hel hz hr hu hrest he1
        go_upto_block 2 with (first | (go_at_call 24; refine (HRest.out _).mono ?_; rintro e w1 ⟨rfl, rfl⟩))
        have hX : Blk (wr.alloc (.cells #[.int .i64 kind, .int .i64 at_, .slice va bs.length vcap] 53)) wr.heap.size 53 [.int .i64 kind, .int .i64 at_, .slice va bs.length vcap] := Blk.new wr _ [.int .i64 kind, .int .i64 at_, .slice va bs.length vcap]
        have hX1 : wr.heap.size ∉ b :: c :: F1 := fun hm => by have := HB1.out.sh.below _ (List.mem_cons_of_mem _ hm); omega
        have hX2 : wr.heap.size ∉ sfoot m d p0 p1 p2 p3 G1 := fun hm => by have := HB1.out.rs.lt _ hm; omega
        have hK0 : Keeps [] wr (wr.alloc (.cells #[.int .i64 kind, .int .i64 at_, .slice va bs.length vcap] 53)) := (Keeps.refl _ _).alloc _
        have HX := Lib.hid hX
        have HX1 := Lib.hid hX1
        have HX2 := Lib.hid hX2
        have HB2 := Lib.hid (HB1.out.same hK0)
        have HR2 := Lib.hid (HR.out.keeps hK0 (by simp))
        clear hX hX1 hX2 hK0 HR
        go_cut [15, 16, 17, 18] (fun sA sK sF sE wx => ∃ (α ε : Int) (D' : Dev) (M' : Nat → Nat) (F' G' : List Nat), sA = .int .i64 α ∧ sK = .int .i64 α ∧ sF = .int .i64 ε ∧ sE = .int .i64 ε ∧ Both w wx s b c a m d p0 p1 p2 p3 A n q D' M' F' D' M' G')
        case first =>
          clear HRest
          refine actsWays κ hm0 s b c a m d p0 p1 p2 p3 A n q wr.heap.size B D M F1 G1 w _ kind at_ va vcap bs hq3 hcap hmax HB2.out hBN HX HX1 HX2 HR2 HU _ _ _ _ _ _ _ _ _ _ _ _ _ _ _ _ _ _ _ _ _ _ _ _ _ _ _ _ _ _ _ _ _ _ _ _ _ _ _ _ _ _ _ _ _ _ _ _ _ _ _ _ _ _ _ _ _ _ _ _ _ _ _ _ _ _ _ _ _ _ _ _ _ _ _ _ _ _ _ _ _ _ _ _ _ _ _ _ _ _ _ _ _ _ _ _ _ _ _ _ _ _ _ _ _ _ _ _ _ _ _ _ _ _ _ _ _ _ _ _ _ _ _ _ _ _ _ _ _ _ _ _ _ _ _ _ _ _ _ _ _ _ _ _ _ _ _ _ _ _ _ _ _ _ _ _ _ _ _ _ _ _ _ _ _ _ _ _ _ _ _ _ _ _ _ _ _ _ _ _ _ _ _ _ _ _ _ _ _ _ _ _ _ _ _ _ _ _ _ _ _ _ _ _ _ _ _ _ _ _ _ _ _ _ _ _ _ _ _ _ _ _ _ _ _ _ _ _ _ _ _ _ _ _ _ _ _ _ _ _ _ _ _ _ _ _ _ _ _ _ _ _ _ _ _ _ _ _ _ _ _ _ _ _ _ _ ?_
          intro α ε D' M' F' G' wx hB7
          intros
          go_wp2
          go_meet
          case rel => exact ⟨_, _, _, _, _, _, rfl, rfl, rfl, rfl, hB7⟩
        case rest =>
          obtain ⟨α, ε, D', M', F', G', rfl, rfl, rfl, rfl, hB3⟩ := hcut
          have HB3 := Lib.hid hB3
          clear hB3 HB2 HX HX1 HX2 HR2
          go_upto_region 49 with fail
          refine acts_test s b c a m d p0 p1 p2 p3 A n q α ε D' M' F' G' w _ HB3 _ _ _ _ _ _ _ _ _ _ _ _ _ _ _ _ _ _ _ _ _ _ _ _ _ _ _ _ _ _ _ _ _ _ _ _ _ _ _ _ _ _ _ _ _ _ _ _ _ _ _ _ _ _ _ _ _ _ _ _ _ _ _ _ _ _ _ _ _ _ _ _ _ _ _ _ _ _ _ _ _ _ _ _ _ _ _ _ _ _ _ _ _ _ _ _ _ _ _ _ _ _ _ _ _ _ _ _ _ _ _ _ _ _ _ _ _ _ _ _ _ _ _ _ _ _ _ _ _ _ _ _ _ _ _ _ _ _ _ _ _ _ _ _ _ _ _ _ _ _ _ _ _ _ _ _ _ _ _ _ _ _ _ _ _ _ _ _ _ _ _ _ _ _ _ _ _ _ _ _ _ _ _ _ _ _ _ _ _ _ _ _ _ _ _ _ _ _ _ _ _ _ _ _ _ _ _ _ _ _ _ _ _ _ _ _ _ _ _ _ _ _ _ _ _ _ _ _ _ _ _ _ _ _ _ _ _ _ _ _ _ _ _ _ _ _ _ _ _ _ _ _ _ _ _ _ _ _ _ _ _ _ _ _ _ _ _ _ _ _ ?_
          intro wx hB8
          intros
          have HB8 := Lib.hid hB8
          clear hB8 HB3
          go_wp2
          go_roundg (l1.length - (k + 1))
          case measure => omega
          case rel => exact ⟨k + 1, _, _, _, _, by omega, rfl, by go_num, HB8.out⟩
      · go_wp2
        go_ret
        exact ⟨rfl, HB1.out.keep⟩
  · have hs1 : smallB l1 30 = false := by simpa using hs
    have HS1 := Lib.hid hs1
    clear hs hs1
    go_enter Tryd.func7, Tryd.ntmps7
    go_wp2_with fail
    refine (awake_calls w hT).mono ?_
    rintro e w1 ⟨rfl, hK1⟩
    have hsm1 := small_calls w.heap.size _ l1 30 w1 (HA1.out.keeps hK1 (by simp) (Nat.le_refl _))
    rw [HS1.out] at hsm1
    have HM1 := Lib.hid hsm1
    have HT1 := Lib.hid (hT.keeps hK1 (by simp))
    have HK1 := Lib.hid hK1
    clear hsm1 hK1
    go_wp2_with fail
    refine HM1.out.mono ?_
    rintro e w2 ⟨rfl, rfl⟩
    go_wp2_with fail
    refine (awake_calls w1 HT1.out).mono ?_
    rintro e w2 ⟨rfl, hK2⟩
    go_wp2
    go_ret
    exact ⟨rfl, HK1.out.trans hK2 (by simp)⟩
end Go.Proofs.YtfpdikhdfcppeaaDoor
