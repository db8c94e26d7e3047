/- The reference's device does as the program's. -/
import Derived.Test.YtfpdikhdfcppeaaDoorF2
namespace Go.Proofs.YtfpdikhdfcppeaaDoor
open Go.RowKit Go.Proofs

def leftOf (D : Dev) : Int := if D.off = true then 0 else if D.armed = true then D.left else -1
def Dev.Wf (D : Dev) : Prop := D.off = false → D.armed = true → 0 < D.left ∧ D.left ≤ 9223372036854775807
structure RAt (w : World) (d p0 p1 p2 p3 n : Nat) (D : Dev) : Prop where
  dev : RDev w d p0 p1 p2 p3 n D.cells D.steps (leftOf D) D.steps
  wf : D.Wf
theorem RAt.keeps {S : List Nat} {w w' : World} {d p0 p1 p2 p3 n : Nat} {D : Dev} (h : RAt w d p0 p1 p2 p3 n D) (hk : Keeps S w w') (hS : ∀ k ∈ S, k ∉ [d, p0, p1, p2, p3]) : RAt w' d p0 p1 p2 p3 n D := ⟨h.dev.keeps hk hS, h.wf⟩
theorem step_left {D : Dev} (ho : D.off = false) (h : D.Wf) : leftOf D.step = stepLeft (leftOf D) ∧ D.step.Wf ∧ D.step.steps = wrap64 (D.steps + 1) := by
  unfold Dev.step
  cases ha : D.armed with
  | false =>
    rw [if_neg (by simp)]
    refine ⟨?_, fun _ h2 => by simp [ha] at h2, rfl⟩
    simp [leftOf, ho, ha, stepLeft]
  | true =>
    rw [if_pos rfl]
    obtain ⟨h1, h2⟩ := h ho ha
    have hw : wrap64 (D.left - 1) = D.left - 1 := by unfold wrap64; omega
    refine ⟨?_, fun h3 _ => ?_, rfl⟩
    · simp only [leftOf, hw, ho, ha, stepLeft]
      by_cases h0 : D.left - 1 = 0
      · have e1 : D.left = 1 := by omega
        simp [e1, wrap64]
      · simp [h0, h1, hw]
    · simp only [hw] at h3 ⊢
      have : D.left - 1 ≠ 0 := by simpa using h3
      omega
theorem rErr_may {D : Dev} (h : D.Wf) (at_ m : Int) : rErr (leftOf D) at_ m = D.may at_ m := by
  unfold rErr Dev.may
  cases ho : D.off with
  | true => simp [leftOf, ho]
  | false =>
    have : leftOf D ≠ 0 := by
      unfold leftOf
      rw [if_neg (by simp [ho])]
      split
      · rename_i ha; have := (h ho ha).1; omega
      · omega
    rw [if_neg this]
    simp only [Bool.false_eq_true, if_false]
section
variable {w : World} {d p0 p1 p2 p3 n : Nat} {D : Dev}
theorem RAt.err (h : RAt w d p0 p1 p2 p3 n D) (at_ m k : Int) (hk : D.may at_ m = k) :
    Calls Tryd.prog 72 #[.pointer (some ⟨d, 0, none⟩), .int .i64 at_, .int .i64 m] w fun e w' => e = .returned (.int .i64 k) ∧ w = w' := by
  have := rerror_calls h.dev at_ m
  rwa [rErr_may h.wf, hk] at this
/-- Behind a step, with other words. -/
theorem RAt.step {D' : Dev} {w' : World} (hw : D'.Wf) (ho : D'.off = false) (h : RDev w d p0 p1 p2 p3 n D'.cells D'.steps (leftOf D') D'.steps)
    (hs : RDev w' d p0 p1 p2 p3 n D'.cells (wrap64 (D'.steps + 1)) (stepLeft (leftOf D')) (wrap64 (D'.steps + 1))) : RAt w' d p0 p1 p2 p3 n D'.step := by
  obtain ⟨a, b, c⟩ := step_left ho hw
  refine ⟨?_, b⟩
  rw [step_cells, a, c]
  exact hs

set_option maxHeartbeats 800000 in
theorem rstore_calls (h : RAt w d p0 p1 p2 p3 n D) (at_ v : Int) :
    Calls Tryd.prog 87 #[.pointer (some ⟨d, 0, none⟩), .int .i64 at_, .int .u64 v] w fun e w' => e = .returned (.int .i64 (D.store at_ v).1) ∧ RAt w' d p0 p1 p2 p3 n (D.store at_ v).2 ∧ Keeps [d, p0, p1, p2, p3] w w' := by
  have c0 := h.dev.cell 0
  have c1 := h.dev.cell 1
  simp at c0 c1
  have hlen := h.dev.len
  have hmax := h.dev.max
  obtain ⟨⟨n1, n2, n3, n4⟩, ⟨n5, n6, n7⟩, ⟨n8, n9⟩, n10⟩ := h.dev.ne
  obtain ⟨m, hm⟩ : ∃ m, D.may at_ n = m := ⟨_, rfl⟩
  have he := h.err at_ n m hm
  unfold Dev.store
  rw [hlen]
  by_cases h0 : m = 0
  · subst h0
    rw [if_neg (fun h => h hm)]
    obtain ⟨ho, hr0, hr1⟩ := Dev.may_zero hm
    obtain ⟨k, rfl⟩ := Int.eq_ofNat_of_zero_le hr0
    have hk : k < D.cells.length := by omega
    have g1 : w.cell? ⟨p1, k, none⟩ = some (.int .u64 (D.cells.getD k default).stored) := by rw [h.dev.b1.cell]; simp [u64s, List.getElem?_eq_getElem hk]
    have f1 := h.dev.b1.free
    have h2 := h.dev.set1 k v
    have hst := rstep_calls h2
    have H := Lib.hid h
    have H2 := Lib.hid h2
    have HE := Lib.hid he
    have HM := Lib.hid hm
    have HST := Lib.hid hst
    clear h h2 he hm hst
    go_enter Tryd.func87, Tryd.ntmps87
    go_wp2_with fail
    refine HE.out.mono ?_
    rintro e w1 ⟨rfl, rfl⟩
    go_wp2_with fail
    refine HST.out.mono ?_
    rintro e w2 ⟨rfl, hR, hK⟩
    go_wp2
    go_ret
    refine ⟨rfl, ?_, ((Keeps.refl _ _).set (by simp) _ _).trans hK (fun k hk _ => hk)⟩
    exact RAt.step (D' := { D with cells := D.cells.modify k fun c => { c with stored := v } }) H.out.wf ho H2.out hR
  · rw [if_pos (by rw [hm]; exact h0), hm]
    have hb : (m == 0) = false := by simpa using h0
    have H := Lib.hid h
    have HE := Lib.hid he
    clear h he hm hlen
    go_enter Tryd.func87, Tryd.ntmps87
    go_wp2_with fail
    refine HE.out.mono ?_
    rintro e w1 ⟨rfl, rfl⟩
    go_wp2
    go_ret
    exact ⟨rfl, H.out, Keeps.refl _ _⟩

set_option maxHeartbeats 800000 in
theorem rload_calls (h : RAt w d p0 p1 p2 p3 n D) (at_ : Int) :
    Calls Tryd.prog 70 #[.pointer (some ⟨d, 0, none⟩), .int .i64 at_] w fun e w' => e = .returned (.tuple #[.int .u64 (D.load at_).1, .int .i64 (D.load at_).2]) ∧ w = w' := by
  have c0 := h.dev.cell 0
  have c1 := h.dev.cell 1
  simp at c0 c1
  have hlen := h.dev.len
  have hmax := h.dev.max
  obtain ⟨m, hm⟩ : ∃ m, D.may at_ n = m := ⟨_, rfl⟩
  have he := h.err at_ n m hm
  unfold Dev.load
  rw [hlen]
  by_cases h0 : m = 0
  · subst h0
    rw [if_neg (fun h => h hm)]
    obtain ⟨ho, hr0, hr1⟩ := Dev.may_zero hm
    obtain ⟨k, rfl⟩ := Int.eq_ofNat_of_zero_le hr0
    have hk : k < D.cells.length := by omega
    have g1 : w.cell? ⟨p1, k, none⟩ = some (.int .u64 (D.cells.getD k default).stored) := by rw [h.dev.b1.cell]; simp [u64s, List.getElem?_eq_getElem hk]
    have HE := Lib.hid he
    clear h he hm
    go_enter Tryd.func70, Tryd.ntmps70
    go_wp2_with fail
    refine HE.out.mono ?_
    rintro e w1 ⟨rfl, rfl⟩
    go_wp2
    go_ret2
    exact ⟨by simp, rfl⟩
  · rw [if_pos (by rw [hm]; exact h0), hm]
    have hb : (m != 0) = true := by simpa using h0
    have HE := Lib.hid he
    clear h he hm hlen
    go_enter Tryd.func70, Tryd.ntmps70
    go_wp2_with fail
    refine HE.out.mono ?_
    rintro e w1 ⟨rfl, rfl⟩
    go_wp2
    go_ret2
    exact ⟨rfl, rfl⟩

theorem rlines_calls (h : RAt w d p0 p1 p2 p3 n D) :
    Calls Tryd.prog 69 #[.pointer (some ⟨d, 0, none⟩)] w fun e w' => e = .returned (.int .i64 ((D.cells.length / 8 : Nat) : Int)) ∧ w = w' := by
  have c0 := h.dev.cell 0
  simp at c0
  have hmax := h.dev.max
  rw [h.dev.len]
  clear h
  go_enter Tryd.func69, Tryd.ntmps69
  go_wp2
  go_ret
  exact ⟨by simp, rfl⟩

set_option maxHeartbeats 800000 in
theorem rarm_calls (h : RAt w d p0 p1 p2 p3 n D) (k : Int) (hk : 0 ≤ k) (hk2 : k ≤ 1000) :
    Calls Tryd.prog 41 #[.pointer (some ⟨d, 0, none⟩), .int .i64 k] w fun e w' => e = .returned (.tuple #[]) ∧ RAt w' d p0 p1 p2 p3 n (D.arm k) ∧ Keeps [d, p0, p1, p2, p3] w w' := by
  have c6 := h.dev.cell 6
  simp at c6
  have f0 := h.dev.blk.free
  have hw := h.wf
  unfold Dev.arm
  cases ho : D.off with
  | true =>
    rw [if_pos rfl]
    have hl : leftOf D = 0 := by simp [leftOf, ho]
    rw [hl] at c6
    have H := Lib.hid h
    clear h
    go_enter Tryd.func41, Tryd.ntmps41
    go_wp2
    go_end0
    exact ⟨rfl, H.out, Keeps.refl _ _⟩
  | false =>
    rw [if_neg (by simp)]
    have hl : (leftOf D != 0) = true := by
      have := rErr_may hw 0 1
      unfold rErr Dev.may at this
      rw [if_neg (by simp [ho] : ¬ D.off = true)] at this
      simp only [bne_iff_ne, ne_eq]
      intro e
      rw [if_pos e] at this
      simp at this
    have h2 := h.dev.setD 6 (.int .i64 k) D.steps k D.steps rfl
    have H := Lib.hid h
    have H2 := Lib.hid h2
    have hmx : max k (-1) = k := by omega
    clear h h2
    go_enter Tryd.func41, Tryd.ntmps41
    go_wp2
    go_end0
    refine ⟨rfl, ⟨?_, ?_⟩, (Keeps.refl _ _).set (by simp) _ _⟩
    · have : leftOf { D with armed := decide (0 ≤ k), left := k, off := k == 0 } = k := by
        unfold leftOf
        by_cases hz : k = 0
        · subst hz; simp
        · simp [hz, hk]
      rw [this]
      exact H2.out
    · intro h3 h4
      simp only at h3 h4
      have : k ≠ 0 := by simpa using h3
      show 0 < k ∧ k ≤ _
      omega
end
end Go.Proofs.YtfpdikhdfcppeaaDoor
