/- Walks: the laws' acts. -/
import Derived.Test.YtfpdikhdfcppeaaDoorC2
import Derived.Test.YtfpdikhdfcppeaaDoorM3
namespace Go.Proofs.YtfpdikhdfcppeaaDoor
open Go.RowKit Go.Proofs

/-- An act of a law, as it is read. -/
structure GAct where
  kind : Int
  at_ : Int
  bs : List Int

/-- A slice of acts that lies in memory elder than block N. -/
def ActsAt (w : World) (N : Nat) (v : Value) (l : List GAct) : Prop :=
  ∃ a cap, v = .slice a l.length cap ∧ l.length ≤ cap ∧ cap ≤ maxLen ∧ ∀ i x, l[i]? = some x → ∃ b o bv B, a = some ⟨b, o, none⟩ ∧ b < N ∧ B < N ∧
    w.cell? ⟨b, o + i * 3, none⟩ = some (.int .i64 x.kind) ∧ w.cell? ⟨b, o + i * 3 + 1, none⟩ = some (.int .i64 x.at_) ∧ w.cell? ⟨b, o + i * 3 + 2, none⟩ = some bv ∧ Rd .u8 w bv B x.bs ∧ U8 x.bs
theorem ActsAt.keeps {S : List Nat} {w w' : World} {N : Nat} {v : Value} {l : List GAct} (h : ActsAt w N v l) (hk : Keeps S w w') (hS : ∀ k ∈ S, N ≤ k) (hN : N ≤ w.heap.size) : ActsAt w' N v l := by
  obtain ⟨a, cap, h1, h2, h3, h4⟩ := h
  refine ⟨a, cap, h1, h2, h3, fun i x hx => ?_⟩
  obtain ⟨b, o, bv, B, ha, hb, hB, c0, c1, c2, hr, hu⟩ := h4 i x hx
  have hbl := hk.block b (by omega) (fun h => by have := hS b h; omega)
  refine ⟨b, o, bv, B, ha, hb, hB, ?_, ?_, ?_, hr.keeps hk (fun h => by have := hS B h; omega), hu⟩
  · rw [World.cell?_of_block (w := w) (w' := w') hbl]; exact c0
  · rw [World.cell?_of_block (w := w) (w' := w') hbl]; exact c1
  · rw [World.cell?_of_block (w := w) (w' := w') hbl]; exact c2

theorem rest_eq (a b : Int) (hb : 0 < b) : (a.tmod b + b).tmod b = a % b := by
  have h1 := Int.emod_nonneg a (by omega : b ≠ 0)
  have h2 := Int.emod_lt_of_pos a hb
  have e1 : a.tmod b = a % b - (if 0 ≤ a ∨ b ∣ a then 0 else (b.natAbs : Int)) := by
    have := Int.tmod_eq_emod (a := a) (b := b)
    rw [this]; split <;> simp
  rw [e1]
  split
  · rw [Int.sub_zero, Int.tmod_eq_emod_of_nonneg (by omega), Int.add_emod_right]
    rw [Int.emod_emod_of_dvd _ (Int.dvd_refl b)]
  · have e : a % b - (b.natAbs : Int) + b = a % b := by omega
    rw [e, Int.tmod_eq_emod_of_nonneg h1]
    exact Int.emod_eq_of_lt h1 h2

set_option maxHeartbeats 400000 in
theorem rest_calls (a b : Int) (w : World) (hb : 0 < b) (hb2 : b ≤ 1000000) :
    Calls Tryd.prog 24 #[.int .i64 a, .int .i64 b] w fun e w' => e = .returned (.int .i64 (a % b)) ∧ w = w' := by
  have hr := rest_eq a b hb
  have hz : (b == 0) = false := by simp; omega
  have h1 : a.tmod b < b := Int.tmod_lt_of_pos a hb
  have h2 : -b < a.tmod b := by
    rcases Int.le_total 0 a with h | h
    · have := Int.tmod_nonneg b h; omega
    · have := Int.lt_tmod_of_pos a hb; omega
  have hw : wrap64 (a.tmod b + b) = a.tmod b + b := by unfold wrap64; omega
  obtain ⟨x, hx⟩ : ∃ x, a.tmod b = x := ⟨_, rfl⟩
  rw [hx] at hr hw
  obtain ⟨y, hy⟩ : ∃ y, a % b = y := ⟨_, rfl⟩
  rw [hy] at hr ⊢
  clear h1 h2
  go_enter Tryd.func24, Tryd.ntmps24
  go_wp2
  go_ret
  exact ⟨rfl, rfl⟩

/-- What an act does to the device and to the sets. -/
def doAct (n : Nat) (r : Int) (σ : Dev × (Nat → Nat)) (x : GAct) : Dev × (Nat → Nat) :=
  if x.kind % 10 = 0 then ((shMake n r σ.1 σ.2 x.bs).2.2.1, (shMake n r σ.1 σ.2 x.bs).2.2.2)
  else if x.kind % 10 = 1 then ((shTurn n r σ.1 σ.2 x.at_ x.bs).2.2.1, (shTurn n r σ.1 σ.2 x.at_ x.bs).2.2.2)
  else if x.kind % 10 = 2 then (σ.1, (mGive n σ.2 x.at_).2)
  else if x.kind % 10 = 4 then (σ.1.fence.2, σ.2)
  else if x.kind % 10 = 5 then (σ.1, mMark σ.2)
  else if x.kind % 10 = 6 then (σ.1, mBack σ.2)
  else if x.kind % 10 = 8 then (σ.1, mAbort σ.2)
  else σ

set_option maxHeartbeats 4000000 in
theorem do_calls (s b c a n : Nat) (r : Int) (D : Dev) (M : Nat → Nat) (F : List Nat) (w : World) (x : GAct) (bv : Value) (B : Nat) (h : ShAt w s b c a n r D M F) (hr : Rd .u8 w bv B x.bs) (hu : U8 x.bs) (hB : B ∉ b :: c :: F) :
    Calls Tryd.prog 21 #[.pointer (some ⟨s, 0, none⟩), .pointer (some ⟨a, 0, none⟩), .agg #[.int .i64 x.kind, .int .i64 x.at_, bv]] w fun e w' => Any fun F' =>
      e = .returned (.tuple #[]) ∧ ShAt w' s b c a n r (doAct n r (D, M) x).1 (doAct n r (D, M) x).2 F' ∧ Grows w w' (b :: c :: F) (b :: c :: F') := by
  obtain ⟨kind, at_, bs⟩ := x
  simp only at hr hu ⊢
  obtain ⟨va, cap, rfl, hcap, hmax⟩ := hr.shape
  have hrest := rest_calls kind 10 (w.alloc (.cells #[.int .i64 kind, .int .i64 at_, .slice va bs.length cap] 53)) (by omega) (by omega)
  have hk0 : Keeps [] w (w.alloc (.cells #[.int .i64 kind, .int .i64 at_, .slice va bs.length cap] 53)) := (Keeps.refl _ _).alloc _
  obtain ⟨h1, g1⟩ := h.same hk0
  have hr1 := hr.keeps hk0 (by simp)
  have H1 := Lib.hid h1
  have G1 := Lib.hid g1
  have HR := Lib.hid hr1
  have HU := Lib.hid hu
  have HB := Lib.hid hB
  have hm0 : 0 ≤ kind % 10 ∧ kind % 10 < 10 := by omega
  obtain ⟨m, hm⟩ : ∃ m, kind % 10 = m := ⟨_, rfl⟩
  rw [hm] at hrest hm0
  clear h hr hu hB hk0 h1 g1 hr1
  have hcase : m = 0 ∨ m = 1 ∨ m = 2 ∨ m = 4 ∨ m = 5 ∨ m = 6 ∨ m = 8 ∨ (m = 3 ∨ m = 7 ∨ m = 9) := by omega
  rcases hcase with e | e | e | e | e | e | e | e
  · have hd : doAct n r (D, M) ⟨kind, at_, bs⟩ = ((shMake n r D M bs).2.2.1, (shMake n r D M bs).2.2.2) := by
      unfold doAct; subst e; simp only [hm]; simp
    rw [hd]
    subst e
    have HRest := Lib.hid hrest
    clear hrest hd hm hm0
    go_enter Tryd.func21, Tryd.ntmps21
    go_wp2_with fail
    refine HRest.out.mono ?_
    rintro e w1 ⟨rfl, rfl⟩
    go_wp2_with (go_at_call 15; refine (shMake_calls s b c a n r D M F _ H1.out B _ bs HR.out HU.out HB.out).mono ?_; rintro e w2 ⟨rfl, h2, g2⟩)
    refine bodyPost_end (results_none rfl _ _ _) rfl ?_
    exact Any.mk F ⟨rfl, h2, G1.out.trans g2⟩
  · have hd : doAct n r (D, M) ⟨kind, at_, bs⟩ = ((shTurn n r D M at_ bs).2.2.1, (shTurn n r D M at_ bs).2.2.2) := by
      unfold doAct; subst e; simp only [hm]; simp
    rw [hd]
    subst e
    have HRest := Lib.hid hrest
    clear hrest hd hm hm0
    go_enter Tryd.func21, Tryd.ntmps21
    go_wp2_with fail
    refine HRest.out.mono ?_
    rintro e w1 ⟨rfl, rfl⟩
    go_wp2_with (go_at_call 17; refine (shTurn_calls s b c a n r D M F _ H1.out B _ bs HR.out HU.out HB.out at_).mono ?_; rintro e w2 ⟨rfl, h2, g2⟩)
    refine bodyPost_end (results_none rfl _ _ _) rfl ?_
    exact Any.mk F ⟨rfl, h2, G1.out.trans g2⟩
  · have hd : doAct n r (D, M) ⟨kind, at_, bs⟩ = (D, (mGive n M at_).2) := by
      unfold doAct; subst e; simp only [hm]; simp
    rw [hd]
    subst e
    have HRest := Lib.hid hrest
    clear hrest hd hm hm0
    go_enter Tryd.func21, Tryd.ntmps21
    go_wp2_with fail
    refine HRest.out.mono ?_
    rintro e w1 ⟨rfl, rfl⟩
    go_wp2_with (go_at_call 19; refine (shDrop_calls s b c a n r D M F _ H1.out at_).mono ?_; rintro e w2 ⟨rfl, h2, g2⟩)
    refine bodyPost_end (results_none rfl _ _ _) rfl ?_
    exact Any.mk F ⟨rfl, h2, G1.out.trans g2⟩
  · have hd : doAct n r (D, M) ⟨kind, at_, bs⟩ = (D.fence.2, M) := by
      unfold doAct; subst e; simp only [hm]; simp
    rw [hd]
    subst e
    have HRest := Lib.hid hrest
    clear hrest hd hm hm0
    go_enter Tryd.func21, Tryd.ntmps21
    go_wp2_with fail
    refine HRest.out.mono ?_
    rintro e w1 ⟨rfl, rfl⟩
    go_wp2_with (go_at_call 27; refine (shSure_calls s b c a n r D M F _ H1.out).mono ?_; rintro e w2 ⟨rfl, h2, g2⟩)
    refine bodyPost_end (results_none rfl _ _ _) rfl ?_
    exact Any.mk F ⟨rfl, h2, G1.out.trans g2⟩
  · have hd : doAct n r (D, M) ⟨kind, at_, bs⟩ = (D, mMark M) := by
      unfold doAct; subst e; simp only [hm]; simp
    rw [hd]
    subst e
    have HRest := Lib.hid hrest
    clear hrest hd hm hm0
    go_enter Tryd.func21, Tryd.ntmps21
    go_wp2_with fail
    refine HRest.out.mono ?_
    rintro e w1 ⟨rfl, rfl⟩
    go_wp2_with (go_at_call 16; refine (mark_calls a n r M F _ H1.out.alc H1.out.tab).mono ?_; rintro e w2 ⟨F2, rfl, hA2, hG2⟩; obtain ⟨h2, g2⟩ := H1.out.onAlc hA2 hG2)
    refine bodyPost_end (results_none rfl _ _ _) rfl ?_
    exact Any.mk F2 ⟨rfl, h2, G1.out.trans g2⟩
  · have hd : doAct n r (D, M) ⟨kind, at_, bs⟩ = (D, mBack M) := by
      unfold doAct; subst e; simp only [hm]; simp
    rw [hd]
    subst e
    have HRest := Lib.hid hrest
    clear hrest hd hm hm0
    go_enter Tryd.func21, Tryd.ntmps21
    go_wp2_with fail
    refine HRest.out.mono ?_
    rintro e w1 ⟨rfl, rfl⟩
    go_wp2_with (go_at_call 25; refine (back_calls a n r M F _ H1.out.alc H1.out.tab).mono ?_; rintro e w2 ⟨F2, rfl, hA2, hG2⟩; obtain ⟨h2, g2⟩ := H1.out.onAlc hA2 hG2)
    refine bodyPost_end (results_none rfl _ _ _) rfl ?_
    exact Any.mk F2 ⟨rfl, h2, G1.out.trans g2⟩
  · have hd : doAct n r (D, M) ⟨kind, at_, bs⟩ = (D, mAbort M) := by
      unfold doAct; subst e; simp only [hm]; simp
    rw [hd]
    subst e
    have HRest := Lib.hid hrest
    clear hrest hd hm hm0
    go_enter Tryd.func21, Tryd.ntmps21
    go_wp2_with fail
    refine HRest.out.mono ?_
    rintro e w1 ⟨rfl, rfl⟩
    go_wp2_with (go_at_call 39; refine (abort_calls a n r M F _ H1.out.alc H1.out.tab).mono ?_; rintro e w2 ⟨F2, rfl, hA2, hG2⟩; obtain ⟨h2, g2⟩ := H1.out.onAlc hA2 hG2)
    refine bodyPost_end (results_none rfl _ _ _) rfl ?_
    exact Any.mk F2 ⟨rfl, h2, G1.out.trans g2⟩
  · have hd : doAct n r (D, M) ⟨kind, at_, bs⟩ = (D, M) := by
      unfold doAct; simp only [hm]
      rcases e with rfl | rfl | rfl <;> simp
    rw [hd]
    have HRest := Lib.hid hrest
    clear hrest hd hm hm0
    rcases e with rfl | rfl | rfl
    all_goals
      go_enter Tryd.func21, Tryd.ntmps21
      go_wp2_with fail
      refine HRest.out.mono ?_
      rintro e w1 ⟨rfl, rfl⟩
      go_wp2
      refine bodyPost_end (results_none rfl _ _ _) rfl ?_
      exact Any.mk F ⟨rfl, H1.out, G1.out⟩

def smallB (l : List GAct) (most : Int) : Bool := decide ((l.length : Int) ≤ most) && l.all fun x => decide (x.bs.length ≤ 200)

set_option maxHeartbeats 1000000 in
theorem small_calls (N : Nat) (v : Value) (l : List GAct) (most : Int) (w : World) (h : ActsAt w N v l) :
    Calls Tryd.prog 20 #[v, .int .i64 most] w fun e w' => e = .returned (.bool (smallB l most)) ∧ w = w' := by
  obtain ⟨a, cap, rfl, hcap, hmax, hel⟩ := h
  have HEl := Lib.hid hel
  unfold maxLen at hmax
  clear hel
  by_cases hm : (l.length : Int) ≤ most
  · go_enter Tryd.func20, Tryd.ntmps20
    go_wp2
    go_loop [5] (fun t => ∃ k : Nat, k ≤ l.length ∧ t = .int .i64 k ∧ ((l.take k).all fun x => decide (x.bs.length ≤ 200)) = true) (fun t => l.length - (intOf t).toNat)
    case atStart => exact ⟨0, by omega, rfl, by simp⟩
    case round =>
      obtain ⟨k, hk, rfl, hall⟩ := hrel
      by_cases hlt : k < l.length
      · obtain ⟨b, o, bv, B, rfl, _, _, _, _, c2, hr, _⟩ := HEl.out k l[k] (List.getElem?_eq_getElem hlt)
        obtain ⟨va, vcap, rfl, _, _⟩ := hr.shape
        obtain ⟨z, hz⟩ : ∃ z, l[k].bs.length = z := ⟨_, rfl⟩
        rw [hz] at c2
        have HZ := Lib.hid hz
        have HAll := Lib.hid hall
        clear hz hr hall
        by_cases h200 : z ≤ 200
        · go_wp2
          go_round
          case rel =>
            refine ⟨k + 1, by omega, by go_num, ?_⟩
            rw [List.take_succ_eq_append_getElem hlt, List.all_append, HAll.out]
            simp [HZ.out, h200]
          case measure => simp [intOf]; omega
        · have hres : Hid (smallB l most = false) := by
            show _ = _
            unfold smallB
            have : (l.all fun x => decide (x.bs.length ≤ 200)) = false := by
              rw [List.all_eq_false]
              exact ⟨l[k], List.getElem_mem _, by simp [HZ.out]; omega⟩
            rw [this]; simp
          go_wp2
          go_ret
          exact ⟨by rw [hres.out]; rfl, rfl⟩
      · obtain rfl : k = l.length := by omega
        have hres : Hid (smallB l most = true) := by
          show _ = _
          unfold smallB
          rw [List.take_length] at hall
          rw [hall]; simp [hm]
        clear hall
        go_wp2
        go_ret
        exact ⟨by rw [hres.out]; rfl, rfl⟩
  · have hres : Hid (smallB l most = false) := by show _ = _; unfold smallB; simp [hm]
    go_enter Tryd.func20, Tryd.ntmps20
    go_wp2
    go_ret
    exact ⟨by rw [hres.out]; rfl, rfl⟩

set_option maxHeartbeats 1000000 in
theorem ints_calls (v1 v2 : Value) (B1 B2 : Nat) (l1 l2 : List Int) (w : World) (h1 : Rd .i64 w v1 B1 l1) (h2 : Rd .i64 w v2 B2 l2) :
    Calls Tryd.prog 26 #[v1, v2] w fun e w' => e = .returned (.bool (decide (l1 = l2))) ∧ Any fun n => w' = w.drewN n := by
  obtain ⟨a1, c1, rfl, hc1, hm1⟩ := h1.shape
  obtain ⟨a2, c2, rfl, hc2, hm2⟩ := h2.shape
  have H1 := Lib.hid h1
  have H2 := Lib.hid h2
  unfold maxLen at hm1 hm2
  clear h1 h2
  by_cases hl : l1.length = l2.length
  · have hne : ((l1.length : Int) != (l2.length : Int)) = false := by simp [hl]
    have HL := Lib.hid hl
    clear hl
    go_enter Tryd.func26, Tryd.ntmps26
    go_wp2
    go_loopw [5] (fun t wr => ∃ k n : Nat, k ≤ l1.length ∧ t = .int .i64 k ∧ wr = w.drewN n ∧ l1.take k = l2.take k) (fun t _ => l1.length - (intOf t).toNat)
    case atStart => exact ⟨0, 0, by omega, rfl, rfl, by simp⟩
    case round =>
      obtain ⟨k, n, hk, rfl, rfl, hall⟩ := hrel
      by_cases hlt : k < l1.length
      · have hlt2 : k < l2.length := by rw [← HL.out]; exact hlt
        obtain ⟨o1, cc1, hv1, d1⟩ := H1.out.get hlt
        obtain ⟨rfl, rfl⟩ : a1 = some ⟨B1, o1, none⟩ ∧ cc1 = c1 := by injection hv1 with h1 h2 h3; exact ⟨h1, h3.symm⟩
        obtain ⟨o2, cc2, hv2, d2⟩ := H2.out.get hlt2
        obtain ⟨rfl, rfl⟩ : a2 = some ⟨B2, o2, none⟩ ∧ cc2 = c2 := by injection hv2 with h1 h2 h3; exact ⟨h1, h3.symm⟩
        obtain ⟨x, hx⟩ : ∃ x, l1.getD k 0 = x := ⟨_, rfl⟩
        obtain ⟨y, hy⟩ : ∃ y, l2.getD k 0 = y := ⟨_, rfl⟩
        rw [hx] at d1
        rw [hy] at d2
        rw [getD_lt _ _ hlt] at hx
        rw [getD_lt _ _ hlt2] at hy
        have HX := Lib.hid hx
        have HY := Lib.hid hy
        have HAll := Lib.hid hall
        have b1 : (0 : Int) ≤ k := by omega
        have b2 : (k : Int) < l1.length := by omega
        have b3 : (k : Int) < l2.length := by omega
        clear hx hy hall hv1 hv2
        by_cases hxy : x = y
        · have hne2 : (x != y) = false := by simp [hxy]
          have HXY := Lib.hid hxy
          clear hxy
          go_wp2_with fail
          go_quiet (fail)
          go_wp2
          go_roundw
          case rel =>
            refine ⟨k + 1, _, by omega, by go_num, rfl, ?_⟩
            rw [List.take_succ_eq_append_getElem hlt, List.take_succ_eq_append_getElem hlt2, HAll.out, HX.out, HY.out, HXY.out]
          case measure => simp [intOf]; omega
        · have hne2 : (x != y) = true := by simpa using hxy
          have hres : Hid (decide (l1 = l2) = false) := by
            show _ = _
            rw [decide_eq_false_iff_not]
            intro e
            apply hxy
            rw [← HX.out, ← HY.out]
            simp only [e]
          clear hxy
          go_wp2_with fail
          go_quiet (fail)
          go_wp2
          go_ret
          exact ⟨by rw [hres.out]; rfl, Any.mk (n + nq) (by simp only [World.drewN, Nat.add_assoc])⟩
      · obtain rfl : k = l1.length := by omega
        have hres : Hid (decide (l1 = l2) = true) := by
          show _ = _
          rw [decide_eq_true_iff]
          rw [List.take_length] at hall
          rw [hall]
          exact List.take_of_length_le (by rw [HL.out]; exact Nat.le_refl _)
        clear hall
        go_wp2
        go_ret
        exact ⟨by rw [hres.out]; rfl, Any.mk n rfl⟩
  · have hne : ((l1.length : Int) != (l2.length : Int)) = true := by simp; omega
    have hres : Hid (decide (l1 = l2) = false) := by show _ = _; rw [decide_eq_false_iff_not]; intro e; exact hl (by rw [e])
    clear hl
    go_enter Tryd.func26, Tryd.ntmps26
    go_wp2
    go_ret
    exact ⟨by rw [hres.out]; rfl, Any.mk 0 rfl⟩
end Go.Proofs.YtfpdikhdfcppeaaDoor
