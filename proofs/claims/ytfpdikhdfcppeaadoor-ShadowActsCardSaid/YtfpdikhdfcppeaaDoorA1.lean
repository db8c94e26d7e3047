/- Walks of package pmem: the device. -/
import Derived.Test.YtfpdikhdfcppeaaDoorM0
namespace Go.Proofs.YtfpdikhdfcppeaaDoor
open Go.RowKit Go.Proofs

def DevAt (w : World) (b c : Nat) (D : Dev) : Prop :=
  ∃ v, Blk w b 93 [v, .slice none 0 0, .int .i64 0, .bool D.off, .bool D.armed, .int .i64 D.left, .int .i64 D.steps] ∧
    Sl w 113 4 v c D.cells.length (flat D.cells) ∧ b ≠ c ∧ D.cells.length ≤ 32768

theorem DevAt.keeps {S : List Nat} {w w' : World} {b c : Nat} {D : Dev} (h : DevAt w b c D) (hk : Keeps S w w') (hb : b ∉ S) (hc : c ∉ S) (hcl : c < w.heap.size) : DevAt w' b c D := by
  obtain ⟨v, h1, h2, h3, h4⟩ := h
  exact ⟨v, hk.blk h1 hb, h2.same (hk.block c hcl hc), h3, h4⟩

/-- One field of one word is written. -/
theorem Sl.put {w : World} {e g n : Nat} {v : Value} {l : List DCell} (h : Sl w e 4 v g n (flat l)) (hn : l.length = n) (i j : Nat) (hj : j < 4) (u : Value) (c c' : DCell) (hi : l[i]? = some c)
    (hc : c.vals.set j u = c'.vals) : Sl (w.setCell ⟨g, i * 4 + j, none⟩ u) e 4 v g n (flat (l.set i c')) := by
  have hlt : i < l.length := by rw [List.getElem?_eq_some_iff] at hi; exact hi.1
  have := h.set (i * 4 + j) (by omega) u
  rwa [flat_set l i j hj u c c' hi hc] at this

set_option maxHeartbeats 400000 in
theorem may_calls (b : Nat) (at_ n : Int) (off : Bool) (w : World) (h3 : w.cell? ⟨b, 3, none⟩ = some (.bool off)) :
    Calls Tryd.prog 97 #[.pointer (some ⟨b, 0, none⟩), .int .i64 at_, .int .i64 n] w fun e w' =>
      e = .returned (.int .i64 (if off = true then 3 else if at_ < 0 ∨ n ≤ at_ then 2 else 0)) ∧ w = w' := by
  cases off with
  | true =>
    go_enter Tryd.func97, Tryd.ntmps97
    go_wp2
    go_ret
    exact ⟨by simp, rfl⟩
  | false =>
    go_enter Tryd.func97, Tryd.ntmps97
    go_wp2
    all_goals
      go_ret
      exact ⟨by simp [*] <;> omega, rfl⟩

set_option maxHeartbeats 400000 in
theorem next_nil_calls (b : Nat) (o : Nat) (w : World) (h : w.cell? ⟨b, o, none⟩ = some (.slice none 0 0)) :
    Calls Tryd.prog 105 #[.pointer (some ⟨b, o, none⟩)] w fun e w' => e = .returned (.int .i64 (-1)) ∧ w = w' := by
  go_enter Tryd.func105, Tryd.ntmps105
  go_wp2
  go_ret
  exact ⟨rfl, rfl⟩

set_option maxHeartbeats 400000 in
theorem step_calls (b c : Nat) (D : Dev) (w : World) (h : DevAt w b c D) :
    Calls Tryd.prog 99 #[.pointer (some ⟨b, 0, none⟩)] w fun e w' => e = .returned (.tuple #[]) ∧ DevAt w' b c D.step ∧ Keeps [b] w w' := by
  obtain ⟨v, hB, hS, hne, hs⟩ := h
  have c1 := hB.cell 1
  have c3 := hB.cell 3
  have c4 := hB.cell 4
  have c5 := hB.cell 5
  have c6 := hB.cell 6
  simp at c1 c3 c4 c5 c6
  have hf := hB.free
  cases ha : D.armed with
  | false =>
    rw [ha] at c4
    go_enter Tryd.func99, Tryd.ntmps99
    go_wp2_with (go_at_call 105; refine (next_nil_calls _ _ _ (by go_simp)).mono ?_; rintro e w' ⟨rfl, rfl⟩)
    go_end0
    refine ⟨rfl, ⟨v, ?_, ?_, hne, ?_⟩, (Keeps.refl _ _).set (by simp) _ _⟩
    · have := hB.set 6 (.int .i64 (wrap64 (D.steps + 1)))
      simpa [Dev.step, ha] using this
    · simpa [Dev.step, ha] using hS.set_ne hne _ _
    · simpa [Dev.step, ha] using hs
  | true =>
    rw [ha] at c4
    go_enter Tryd.func99, Tryd.ntmps99
    go_wp2_with (go_at_call 105; refine (next_nil_calls _ _ _ (by go_simp)).mono ?_; rintro e w' ⟨rfl, rfl⟩)
    go_end0
    refine ⟨rfl, ⟨v, ?_, ?_, hne, ?_⟩, (((Keeps.refl _ _).set (by simp) _ _).set (by simp) _ _).set (by simp) _ _⟩
    · have := ((hB.set 6 (.int .i64 (wrap64 (D.steps + 1)))).set 5 (.int .i64 (wrap64 (D.left - 1)))).set 3 (.bool (wrap64 (D.left - 1) == 0))
      simpa [Dev.step, ha] using this
    · simpa [Dev.step, ha] using ((hS.set_ne hne _ _).set_ne hne _ _).set_ne hne _ _
    · simpa [Dev.step, ha] using hs

set_option maxHeartbeats 400000 in
theorem keep_calls (g i n : Nat) (l : List DCell) (c : DCell) (v : Value) (x : Int) (w : World) (hi : l[i]? = some c) (h : Sl w 113 4 v g n (flat l)) (hn : l.length = n) :
    Calls Tryd.prog 62 #[.pointer (some ⟨g, i * 4, none⟩), .int .u64 x] w fun e w' => e = .returned (.tuple #[]) ∧ Sl w' 113 4 v g n (flat (l.set i (c.keep x))) ∧ Keeps [g] w w' := by
  have hlt : i < l.length := by rw [List.getElem?_eq_some_iff] at hi; exact hi.1
  have hc : ∀ j, j < 4 → w.cell? ⟨g, i * 4 + j, none⟩ = c.vals[j]? := fun j hj => by
    rw [h.cell _ (by omega), flat_get _ _ _ hj, hi]; rfl
  have c0 := hc 0 (by omega)
  have c2 := hc 2 (by omega)
  have c3 := hc 3 (by omega)
  simp [DCell.vals] at c0 c2 c3
  clear hc
  have hf := h.free (by omega)
  have HI := Lib.hid hi
  have HN := Lib.hid hn
  clear hi hn
  go_enter Tryd.func62, Tryd.ntmps62
  go_wp2
  go_end0
  have hi := HI.out
  have hn := HN.out
  refine ⟨rfl, ?_, (((Keeps.refl _ _).set (by simp) _ _).set (by simp) _ _).set (by simp) _ _⟩
  have h1 := ((h.put hn i 0 (by omega) (.int .u64 x) c { c with lasts := x } hi rfl).put (by simpa using hn) i 2 (by omega) (.int .u64 0) { c with lasts := x } { c with lasts := x, sent := 0 } (by simp [hlt]) rfl).put
    (by simpa using hn) i 3 (by omega) (.bool false) { c with lasts := x, sent := 0 } (c.keep x) (by simp [hlt]) rfl
  simpa using h1

set_option maxHeartbeats 400000 in
theorem lines_calls (b c : Nat) (D : Dev) (w : World) (h : DevAt w b c D) :
    Calls Tryd.prog 49 #[.pointer (some ⟨b, 0, none⟩)] w fun e w' => e = .returned (.int .i64 ((D.cells.length / 8 : Nat) : Int)) ∧ w = w' := by
  obtain ⟨v, hB, hS, hne, hs⟩ := h
  obtain ⟨a, cap, rfl, hcap, hmax, ha⟩ := hS.shape
  have c0 := hB.cell 0
  simp at c0
  unfold maxLen at hmax
  clear ha hS hB hne
  generalize D.cells.length = n at *
  go_enter Tryd.func49, Tryd.ntmps49
  go_wp2
  go_ret
  refine ⟨?_, rfl⟩
  simp

theorem Dev.may_zero {D : Dev} {at_ n : Int} (h : D.may at_ n = 0) : D.off = false ∧ 0 ≤ at_ ∧ at_ < n := by
  unfold Dev.may at h
  split at h
  · omega
  · split at h
    · omega
    · rename_i h1 h2; exact ⟨by simpa using h1, by omega, by omega⟩

theorem may_dev {b c : Nat} {D : Dev} {w : World} (h : DevAt w b c D) (at_ n m : Int) (hm : Hid (D.may at_ n = m)) :
    Calls Tryd.prog 97 #[.pointer (some ⟨b, 0, none⟩), .int .i64 at_, .int .i64 n] w fun e w' => e = .returned (.int .i64 m) ∧ w = w' := by
  obtain ⟨v, hB, _⟩ := h
  have c3 := hB.cell 3
  simp at c3
  rw [← hm.out]
  exact may_calls b at_ n D.off w c3

set_option maxHeartbeats 400000 in
theorem store_calls (b c : Nat) (D : Dev) (at_ x : Int) (w : World) (h : DevAt w b c D) :
    Calls Tryd.prog 102 #[.pointer (some ⟨b, 0, none⟩), .int .i64 at_, .int .u64 x] w fun e w' =>
      e = .returned (.int .i64 (D.store at_ x).1) ∧ DevAt w' b c (D.store at_ x).2 ∧ Keeps [b, c] w w' := by
  have h0 := h
  obtain ⟨v, hB, hS, hne, hs⟩ := h
  obtain ⟨a, cap, rfl, hcap, hmax, ha⟩ := hS.shape
  have c0 := hB.cell 0
  simp at c0
  have hcs : D.cells.length ≤ 32768 := hs
  by_cases hm : D.may at_ D.cells.length = 0
  · have hst : D.store at_ x = (0, { D with cells := D.cells.modify at_.toNat fun c => { c with stored := x } }.step) := by unfold Dev.store; rw [if_neg (fun h => h hm)]
    rw [hst]
    have HM := Lib.hid hm
    obtain ⟨_, hr0, hr1⟩ := Dev.may_zero hm
    obtain ⟨k, rfl⟩ := Int.eq_ofNat_of_zero_le hr0
    have hk : k < D.cells.length := by omega
    obtain rfl := ha (by omega)
    obtain ⟨d, hd⟩ : ∃ d, D.cells[k]? = some d := ⟨_, List.getElem?_eq_getElem hk⟩
    have hmod : (D.cells.modify k fun c => { c with stored := x }) = D.cells.set k { d with stored := x } := by
      apply List.ext_getElem? ; intro i; rw [List.getElem?_modify, List.getElem?_set]
      obtain ⟨_, rfl⟩ := List.getElem?_eq_some_iff.1 hd
      split
      · rename_i e; subst e; simp [hk]
      · simp
    have hD1 : DevAt (w.setCell ⟨c, k * 4 + 1, none⟩ (.int .u64 x)) b c { D with cells := D.cells.modify k fun c => { c with stored := x } } := by
      refine ⟨_, hB.set_ne (Ne.symm hne) _ _, ?_, hne, by simpa using hs⟩
      rw [List.length_modify, hmod]
      exact hS.put rfl k 1 (by omega) _ d _ hd rfl
    have c1 : w.cell? ⟨c, k * 4 + 1, none⟩ = some (.int .u64 d.stored) := by
      rw [hS.cell _ (by omega), flat_get _ _ _ (by omega), hd]; rfl
    have f1 := hS.free (by omega) (k * 4 + 1)
    have HD := Lib.hid hd
    have HMO := Lib.hid hmod
    have HST := Lib.hid hst
    clear hm hd hmod hst hs
    go_enter Tryd.func102, Tryd.ntmps102
    go_wp2_with (first | (go_at_call 97; refine (may_dev h0 _ _ 0 HM).mono ?_; rintro e w' ⟨rfl, rfl⟩) | (go_at_call 99; refine (step_calls b c _ _ hD1).mono ?_; rintro e w' ⟨rfl, hD', hK'⟩))
    go_ret
    refine ⟨rfl, hD', ?_⟩
    exact ((Keeps.refl [b, c] w).set (by simp) _ _).trans hK' (by simp)
  · have hst : D.store at_ x = (D.may at_ D.cells.length, D) := by unfold Dev.store; rw [if_pos hm]
    rw [hst]
    obtain ⟨m, hm2⟩ : ∃ m, D.may at_ D.cells.length = m := ⟨_, rfl⟩
    rw [hm2]
    have hm3 : (m != 0) = true := by rw [hm2] at hm; simpa using hm
    have HM := Lib.hid hm2
    clear hm hm2 hst
    go_enter Tryd.func102, Tryd.ntmps102
    go_wp2_with (go_at_call 97; refine (may_dev h0 _ _ m HM).mono ?_; rintro e w' ⟨rfl, rfl⟩)
    go_ret
    exact ⟨rfl, h0, Keeps.refl _ _⟩

set_option maxHeartbeats 400000 in
theorem load_calls (b c : Nat) (D : Dev) (at_ : Int) (w : World) (h : DevAt w b c D) :
    Calls Tryd.prog 82 #[.pointer (some ⟨b, 0, none⟩), .int .i64 at_] w fun e w' =>
      e = .returned (.tuple #[.int .u64 (D.load at_).1, .int .i64 (D.load at_).2]) ∧ w = w' := by
  have h0 := h
  obtain ⟨v, hB, hS, hne, hs⟩ := h
  obtain ⟨a, cap, rfl, hcap, hmax, ha⟩ := hS.shape
  have c0 := hB.cell 0
  simp at c0
  have hcs : D.cells.length ≤ 32768 := hs
  by_cases hm : D.may at_ D.cells.length = 0
  · have hst : D.load at_ = ((D.cells.getD at_.toNat default).stored, 0) := by unfold Dev.load; rw [if_neg (fun h => h hm)]
    rw [hst]
    have HM := Lib.hid hm
    obtain ⟨_, hr0, hr1⟩ := Dev.may_zero hm
    obtain ⟨k, rfl⟩ := Int.eq_ofNat_of_zero_le hr0
    have hk : k < D.cells.length := by omega
    obtain rfl := ha (by omega)
    have c1 : w.cell? ⟨c, k * 4 + 1, none⟩ = some (.int .u64 (D.cells.getD k default).stored) := by
      rw [hS.cell _ (by omega), flat_get _ _ _ (by omega), List.getElem?_eq_getElem hk]
      simp [DCell.vals, List.getElem?_eq_getElem hk]
    have HST := Lib.hid hst
    clear hm hst hs
    go_enter Tryd.func82, Tryd.ntmps82
    go_wp2_with (go_at_call 97; refine (may_dev h0 _ _ 0 HM).mono ?_; rintro e w' ⟨rfl, rfl⟩)
    go_ret2
    exact ⟨by simp [hk], rfl⟩
  · have hst : D.load at_ = (0, D.may at_ D.cells.length) := by unfold Dev.load; rw [if_pos hm]
    rw [hst]
    obtain ⟨m, hm2⟩ : ∃ m, D.may at_ D.cells.length = m := ⟨_, rfl⟩
    rw [hm2]
    have hm3 : (m != 0) = true := by rw [hm2] at hm; simpa using hm
    have HM := Lib.hid hm2
    clear hm hm2 hst
    go_enter Tryd.func82, Tryd.ntmps82
    go_wp2_with (go_at_call 97; refine (may_dev h0 _ _ m HM).mono ?_; rintro e w' ⟨rfl, rfl⟩)
    go_ret2
    exact ⟨rfl, rfl⟩

theorem steps_calls (b c : Nat) (D : Dev) (w : World) (h : DevAt w b c D) :
    Calls Tryd.prog 42 #[.pointer (some ⟨b, 0, none⟩)] w fun e w' => e = .returned (.int .i64 D.steps) ∧ w = w' := by
  obtain ⟨v, hB, _⟩ := h
  have c6 := hB.cell 6
  simp at c6
  go_enter Tryd.func42, Tryd.ntmps42
  go_wp2
  go_ret
  exact ⟨rfl, rfl⟩

set_option maxHeartbeats 1000000 in
theorem flush_calls (b c : Nat) (D : Dev) (line : Int) (w : World) (h : DevAt w b c D) :
    Calls Tryd.prog 103 #[.pointer (some ⟨b, 0, none⟩), .int .i64 line] w fun e w' =>
      e = .returned (.int .i64 (D.flush line).1) ∧ DevAt w' b c (D.flush line).2 ∧ Keeps [b, c] w w' := by
  by_cases hm : D.may line ((D.cells.length / 8 : Nat) : Int) = 0
  · have hst : D.flush line = (0, { D with cells := flushAt D.cells (line.toNat * 8) 8 }.step) := by unfold Dev.flush; rw [if_neg (fun h => h hm)]
    rw [hst]
    have HM := Lib.hid hm
    obtain ⟨_, hr0, hr1⟩ := Dev.may_zero hm
    obtain ⟨ln, rfl⟩ := Int.eq_ofNat_of_zero_le hr0
    have hk : ln * 8 + 8 ≤ D.cells.length := by omega
    have hcs : D.cells.length ≤ 32768 := by obtain ⟨_, _, _, _, hs⟩ := h; exact hs
    clear hm hst
    go_enter Tryd.func103, Tryd.ntmps103
    go_wp2_with (first | (go_at_call 49; refine (lines_calls b c D _ h).mono ?_; rintro e w' ⟨rfl, rfl⟩) | (go_at_call 97; refine (may_dev h _ _ 0 HM).mono ?_; rintro e w' ⟨rfl, rfl⟩))
    go_loopw [16] (fun t wr => ∃ k : Nat, k ≤ 8 ∧ t = .int .i64 k ∧ DevAt wr b c { D with cells := flushAt D.cells (ln * 8) k } ∧ Keeps [b, c] w wr) (fun t _ => 8 - (intOf t).toNat)
    case atStart => exact ⟨0, by omega, rfl, h, Keeps.refl _ _⟩
    case round =>
      obtain ⟨k, hk8, rfl, hD, hK⟩ := hrel
      by_cases hlt : k < 8
      · obtain ⟨v, hB, hS, hne, hs⟩ := hD
        obtain ⟨a, cap, rfl, hcap, hmax, ha⟩ := hS.shape
        have hlen := flushAt_length D.cells (ln * 8) k
        obtain ⟨d, hd⟩ : ∃ d, (flushAt D.cells (ln * 8) k)[ln * 8 + k]? = some d := ⟨_, List.getElem?_eq_getElem (by omega)⟩
        obtain rfl := ha (by simp only; omega)
        have c0 := hB.cell 0
        simp at c0
        simp only at hS hs c0
        rw [hlen] at c0
        have cc : ∀ j, j < 4 → wr.cell? ⟨c, (ln * 8 + k) * 4 + j, none⟩ = d.vals[j]? := fun j hj => by
          rw [hS.cell _ (by omega), flat_get _ _ _ hj, hd]; rfl
        have c1 := cc 1 (by omega)
        have c2 := cc 2 (by omega)
        have c3 := cc 3 (by omega)
        simp [DCell.vals] at c1 c2 c3
        have f1 := hS.free (by omega)
        have HD := Lib.hid hd
        have HL := Lib.hid hlen
        have hD2 : Hid (DevAt ((wr.setCell ⟨c, (ln * 8 + k) * 4 + 2, none⟩ (.int .u64 d.stored)).setCell ⟨c, (ln * 8 + k) * 4 + 3, none⟩ (.bool true)) b c { D with cells := flushAt D.cells (ln * 8) (k + 1) }) := by
          refine ⟨_, (hB.set_ne (Ne.symm hne) _ _).set_ne (Ne.symm hne) _ _, ?_, hne, ?_⟩
          · have h2 := (hS.put rfl (ln * 8 + k) 2 (by omega) (.int .u64 d.stored) d { d with sent := d.stored } hd rfl).put (by simp) (ln * 8 + k) 3 (by omega) (.bool true) { d with sent := d.stored } { d with sent := d.stored, flushed := true } (by rw [List.getElem?_set_self (by omega)]) rfl
            simp only [flushAt]
            rw [List.length_modify, modify_of_get _ _ _ d hd]
            simpa using h2
          · simp only [flushAt, List.length_modify]; exact hs
        clear hd hlen cc hB hS ha hcap
        go_wp2
        go_roundw
        case rel => exact ⟨k + 1, by omega, by go_num, hD2.out, (hK.set (by simp) _ _).set (by simp) _ _⟩
        case measure => simp [intOf]; omega
      · obtain rfl : k = 8 := by omega
        go_wp2_with (go_at_call 99; refine (step_calls b c _ _ hD).mono ?_; rintro e w' ⟨rfl, hD', hK'⟩)
        go_ret
        exact ⟨by simp, by simpa using hD', hK.trans hK' (by simp)⟩
  · have hst : D.flush line = (D.may line ((D.cells.length / 8 : Nat) : Int), D) := by unfold Dev.flush; rw [if_pos hm]
    rw [hst]
    obtain ⟨m, hm2⟩ : ∃ m, D.may line ((D.cells.length / 8 : Nat) : Int) = m := ⟨_, rfl⟩
    rw [hm2]
    have hm3 : (m != 0) = true := by rw [hm2] at hm; simpa using hm
    have HM := Lib.hid hm2
    clear hm hm2 hst
    go_enter Tryd.func103, Tryd.ntmps103
    go_wp2_with (first | (go_at_call 49; refine (lines_calls b c D _ h).mono ?_; rintro e w' ⟨rfl, rfl⟩) | (go_at_call 97; refine (may_dev h _ _ m HM).mono ?_; rintro e w' ⟨rfl, rfl⟩))
    go_ret
    exact ⟨rfl, h, Keeps.refl _ _⟩

set_option maxHeartbeats 1000000 in
theorem fence_calls (b c : Nat) (D : Dev) (w : World) (h : DevAt w b c D) :
    Calls Tryd.prog 84 #[.pointer (some ⟨b, 0, none⟩)] w fun e w' =>
      e = .returned (.int .i64 D.fence.1) ∧ DevAt w' b c D.fence.2 ∧ Keeps [b, c] w w' := by
  cases hoff : D.off with
  | true =>
    have hst : D.fence = (3, D) := by unfold Dev.fence; rw [if_pos hoff]
    rw [hst]
    have HM : Hid (D.may 0 1 = 3) := by show D.may 0 1 = 3; unfold Dev.may; rw [if_pos hoff]
    clear hoff hst
    go_enter Tryd.func84, Tryd.ntmps84
    go_wp2_with (go_at_call 97; refine (may_dev h _ _ 3 HM).mono ?_; rintro e w' ⟨rfl, rfl⟩)
    go_ret
    exact ⟨rfl, h, Keeps.refl _ _⟩
  | false =>
    have hst : D.fence = (0, { D with cells := D.cells.map DCell.fence }.step) := by unfold Dev.fence; rw [if_neg (by simp [hoff])]
    rw [hst]
    have HM : Hid (D.may 0 1 = 0) := by show D.may 0 1 = 0; unfold Dev.may; rw [if_neg (by simp [hoff]), if_neg (by omega)]
    clear hoff hst
    have h0 := h
    obtain ⟨v, hB, hS, hne, hs⟩ := h
    obtain ⟨a, cap, rfl, hcap, hmax, ha⟩ := hS.shape
    have c0 := hB.cell 0
    simp at c0
    clear hB hS ha
    go_enter Tryd.func84, Tryd.ntmps84
    go_wp2_with (go_at_call 97; refine (may_dev h0 _ _ 0 HM).mono ?_; rintro e w' ⟨rfl, rfl⟩)
    clear c0
    go_loopw [16] (fun t wr => ∃ k : Nat, k ≤ D.cells.length ∧ t = .int .i64 k ∧ DevAt wr b c { D with cells := mapTo DCell.fence D.cells k } ∧ Keeps [b, c] w wr) (fun t _ => D.cells.length - (intOf t).toNat)
    case atStart => exact ⟨0, by omega, rfl, by rw [mapTo_zero]; exact h0, Keeps.refl _ _⟩
    case round =>
      obtain ⟨k, hkn, rfl, hD, hK⟩ := hrel
      by_cases hlt : k < D.cells.length
      · obtain ⟨v, hB, hS, hne, hs⟩ := hD
        obtain ⟨a, cap2, rfl, hcap2, hmax2, ha⟩ := hS.shape
        have hlen := mapTo_length DCell.fence D.cells k
        obtain ⟨d, hd⟩ : ∃ d, D.cells[k]? = some d := ⟨_, List.getElem?_eq_getElem hlt⟩
        have hd2 : (mapTo DCell.fence D.cells k)[k]? = some d := by rw [mapTo_get]; exact hd
        obtain rfl := ha (by simp only; omega)
        have c0 := hB.cell 0
        simp at c0
        simp only at hS hs c0
        rw [hlen] at c0
        have cc : ∀ j, j < 4 → wr.cell? ⟨c, k * 4 + j, none⟩ = d.vals[j]? := fun j hj => by
          rw [hS.cell _ (by omega), flat_get _ _ _ hj, hd2]; rfl
        have c2 := cc 2 (by omega)
        have c3 := cc 3 (by omega)
        simp [DCell.vals] at c2 c3
        have HN := mapTo_next DCell.fence D.cells k d hd
        have HD := Lib.hid hd2
        have HL := Lib.hid hlen
        have HB := Lib.hid hB
        have HS := Lib.hid hS
        have HNN := Lib.hid HN
        cases hfl : d.flushed with
        | true =>
          rw [hfl] at c3
          have HF := Lib.hid hfl
          clear hd hlen cc hB hS ha hcap2 HN hfl hd2
          go_wp2_with (go_at_call 62; refine (keep_calls c k _ _ d _ _ wr HD.out HS.out rfl).mono ?_; rintro e w1 ⟨rfl, hS1, hK1⟩)
          go_roundw
          case rel =>
            refine ⟨k + 1, by omega, by go_num, ?_, hK.trans hK1 (by simp)⟩
            refine ⟨_, hK1.blk HB.out (by simpa using hne), ?_, hne, ?_⟩
            · simp only
              rw [HNN.out, List.length_set]
              have : d.fence = d.keep d.sent := by unfold DCell.fence; rw [if_pos HF.out]
              rw [this]; exact hS1
            · simp only; rw [mapTo_length]; rw [mapTo_length] at hs; exact hs
          case measure => simp [intOf]; omega
        | false =>
          rw [hfl] at c3
          have HF := Lib.hid hfl
          clear hd hlen cc hB hS ha hcap2 HN hfl hd2
          go_wp2
          go_roundw
          case rel =>
            refine ⟨k + 1, by omega, by go_num, ?_, hK⟩
            refine ⟨_, HB.out, ?_, hne, ?_⟩
            · simp only
              have : d.fence = d := by unfold DCell.fence; rw [if_neg (by simp [HF.out])]
              rw [HNN.out, List.length_set, this, List.set_eq_of_getElem? HD.out]; exact HS.out
            · simp only; rw [mapTo_length]; rw [mapTo_length] at hs; exact hs
          case measure => simp [intOf]; omega
      · obtain rfl : k = D.cells.length := by omega
        rw [mapTo_all] at hD
        go_wp2_with (go_at_call 99; refine (step_calls b c _ _ hD).mono ?_; rintro e w' ⟨rfl, hD', hK'⟩)
        go_ret
        exact ⟨rfl, hD', hK.trans hK' (by simp)⟩

set_option maxHeartbeats 400000 in
theorem arm_calls (b c : Nat) (D : Dev) (n : Int) (w : World) (h : DevAt w b c D) :
    Calls Tryd.prog 40 #[.pointer (some ⟨b, 0, none⟩), .int .i64 n] w fun e w' =>
      e = .returned (.tuple #[]) ∧ DevAt w' b c (D.arm n) ∧ Keeps [b, c] w w' := by
  have h0 := h
  obtain ⟨v, hB, hS, hne, hs⟩ := h
  have c3 := hB.cell 3
  have c4 := hB.cell 4
  have c5 := hB.cell 5
  have hf := hB.free
  simp at c3 c4 c5
  cases hoff : D.off with
  | true =>
    have hst : D.arm n = D := by unfold Dev.arm; rw [if_pos hoff]
    rw [hst]
    rw [hoff] at c3
    have HB := Lib.hid hB
    clear hoff hst hB
    go_enter Tryd.func40, Tryd.ntmps40
    go_wp2
    refine bodyPost_ret (results_none rfl _ _ _) rfl ?_
    exact ⟨rfl, h0, Keeps.refl _ _⟩
  | false =>
    have hst : D.arm n = { D with armed := decide (0 ≤ n), left := n, off := n == 0 } := by unfold Dev.arm; rw [if_neg (by simp [hoff])]
    rw [hst]
    rw [hoff] at c3
    have HB := Lib.hid hB
    clear hoff hst hB
    go_enter Tryd.func40, Tryd.ntmps40
    go_wp2
    go_end0
    refine ⟨rfl, ⟨v, ?_, ((hS.set_ne hne _ _).set_ne hne _ _).set_ne hne _ _, hne, hs⟩, (((Keeps.refl _ _).set (by simp) _ _).set (by simp) _ _).set (by simp) _ _⟩
    have := ((HB.out.set 4 (.bool (decide (0 ≤ n)))).set 5 (.int .i64 n)).set 3 (.bool (n == 0))
    simpa using this
end Go.Proofs.YtfpdikhdfcppeaaDoor
