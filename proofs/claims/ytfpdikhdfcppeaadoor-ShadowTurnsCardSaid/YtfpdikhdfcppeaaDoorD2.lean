/- Walk of the law ShadowTurns. -/
import Derived.Test.YtfpdikhdfcppeaaDoorC2
import Derived.Test.YtfpdikhdfcppeaaDoorM3
namespace Go.Proofs.YtfpdikhdfcppeaaDoor
open Go.RowKit Go.Proofs

def tmA : Nat → Nat := (mTake 9 (madeM 9) 0).2.2
def tmC : Nat → Nat := (mTake 9 (mMark tmA) 0).2.2
theorem tk1 : (mTake 9 (madeM 9) 0).1 = 2 ∧ (mTake 9 (madeM 9) 0).2.1 = 0 := by decide +kernel
theorem tk2 : (mTake 9 (mMark tmA) 0).1 = 3 ∧ (mTake 9 (mMark tmA) 0).2.1 = 0 := by decide +kernel
theorem has1 : hasBit 9 (tmA 3) 2 = true ∧ hasBit 9 (tmA 2) 2 = false ∧ hasBit 9 (tmA 3) 1000 = false := by decide +kernel
theorem has2 : hasBit 9 ((mMark tmA) 3) 2 = true ∧ hasBit 9 ((mMark tmA) 2) 2 = true := by decide +kernel
theorem gv2 : (mGive 9 tmC 2).1 = 0 := by decide +kernel
def tmD : Nat → Nat := (mGive 9 tmC 2).2
theorem has3 : hasBit 9 (tmD 3) 1000 = false := by decide +kernel
theorem gvA : (mGive 9 tmA 2).1 = 0 ∧ (mGive 9 (mGive 9 tmA 2).2 2).1 = 2 := by decide +kernel
theorem gvD : (mGive 9 tmD 3).1 = 0 ∧ (mGive 9 (mGive 9 tmD 3).2 2).1 = 2 := by decide +kernel

theorem turns_make (bs : List Int) (hl : bs.length = 64) : shMake 9 0 (Dev.new 72) (madeM 9) bs = (2, 0, ((Dev.new 72).write 2 bs).2, tmA) := by
  unfold shMake
  have e : shWritten (Dev.new 72) 2 bs = (2, 0, ((Dev.new 72).write 2 bs).2) := shWritten_live (new_live 72) 2 (by decide) bs hl
  rw [if_neg (by simp [hl]), if_neg (by rw [tk1.2]; simp), tk1.1, e]
  rfl
theorem turns_plain (D : Dev) (hD : D.Live) (hlen : D.cells.length = 72) (bs : List Int) (hl : bs.length = 64) : shTurn 9 0 D tmA 2 bs = (2, 0, (D.write 2 bs).2, tmA) := by
  unfold shTurn
  have e : shWritten D 2 bs = (2, 0, (D.write 2 bs).2) := shWritten_live hD 2 (by omega) bs hl
  rw [if_neg (by rw [has1.1]; simp [hl]), if_pos (by rw [has1.1, has1.2.1]; rfl), e]
theorem turns_mark (D : Dev) (hD : D.Live) (hlen : D.cells.length = 72) (bs : List Int) (hl : bs.length = 64) : shTurn 9 0 D (mMark tmA) 2 bs = (3, 0, (D.write 3 bs).2, tmD) := by
  have e : shWritten D 3 bs = (3, 0, (D.write 3 bs).2) := shWritten_live hD 3 (by omega) bs hl
  have hm : shMake 9 0 D (mMark tmA) bs = (3, 0, (D.write 3 bs).2, tmC) := by
    unfold shMake
    rw [if_neg (by simp [hl]), if_neg (by rw [tk2.2]; simp), tk2.1, e]
    rfl
  unfold shTurn
  rw [if_neg (by rw [has2.1]; simp [hl]), if_neg (by rw [has2.1, has2.2]; simp), hm, if_neg (by simp)]
  simp only [gv2]
  rfl
theorem turns_far (D : Dev) (M : Nat → Nat) (h : hasBit 9 (M 3) 1000 = false) (bs : List Int) : shTurn 9 0 D M 1000 bs = (0, 2, D, M) := by
  unfold shTurn; rw [if_pos (.inr h)]
theorem turns_short (D : Dev) (M : Nat → Nat) (at_ : Int) (bs : List Int) (hl : bs.length ≠ 64) : shTurn 9 0 D M at_ bs = (0, 2, D, M) := by
  unfold shTurn; rw [if_pos (.inl hl)]

theorem Rd.of_blk {w : World} {B e o n cap : Nat} {l bs : List Int} (hB : Blk w B e (u8s l)) (h : (l.drop o).take n = bs) (hn : bs.length = n) (hc : n ≤ cap) (hm : cap ≤ 1000) :
    Rd .u8 w (.slice (some ⟨B, o, none⟩) n cap) B bs := by
  refine .inr ⟨o, cap, by rw [hn], by omega, by unfold maxLen; omega, fun i hi => ?_⟩
  rw [hB.cell, getD_lt _ _ hi]
  have h2 : bs[i]? = l[o + i]? := by rw [← h, List.getElem?_take, if_pos (by omega), List.getElem?_drop]
  rw [List.getElem?_eq_getElem hi] at h2
  simp [u8s, ← h2]

set_option maxRecDepth 100000 in
set_option maxHeartbeats 4000000 in
theorem shadowTurns_walk (cs : Array Value) (b0 b1 : List Int) (hcs : cs.toList = u8s (b0 ++ b1)) (h0 : b0.length = 64) (h1 : b1.length = 64) (u0 : U8 b0) (u1 : U8 b1) (mark : Bool) (w : World) (hT : Tab w) :
    Calls Tryd.prog 4 #[.agg cs, .bool mark] w fun e w' => e = .returned (.bool true) ∧ Keeps [] w w' := by
  have hcs2 : cs = (u8s (b0 ++ b1)).toArray := by rw [← hcs]
  subst hcs2
  have hb0 : Blk (w.alloc (.cells (u8s (b0 ++ b1)).toArray 38)) w.heap.size 38 (u8s (b0 ++ b1)) := Blk.new w _ _
  have hk0 : Keeps [] w (w.alloc (.cells (u8s (b0 ++ b1)).toArray 38)) := (Keeps.refl _ _).alloc _
  have HB0 := Lib.hid hb0
  have HK0 := Lib.hid hk0
  have hBN : Hid (∀ W, Blk W w.heap.size 38 (u8s (b0 ++ b1)) → Rd .u8 W (.slice (some ⟨w.heap.size, 0, none⟩) 64 64) w.heap.size b0 ∧ Rd .u8 W (.slice (some ⟨w.heap.size, 64, none⟩) 64 64) w.heap.size b1 ∧ Rd .u8 W (.slice (some ⟨w.heap.size, 0, none⟩) 63 64) w.heap.size (b0.take 63)) := by
    intro W hW
    refine ⟨Rd.of_blk hW (by rw [List.drop_zero, List.take_append_of_le_length (by omega), List.take_of_length_le (by omega)]) h0 (by omega) (by omega), Rd.of_blk hW ?_ h1 (by omega) (by omega), Rd.of_blk hW ?_ (by rw [List.length_take]; omega) (by omega) (by omega)⟩
    · rw [← h0, List.drop_left]; exact List.take_of_length_le (by omega)
    · rw [List.drop_zero, List.take_append_of_le_length (by omega)]
  clear hcs hb0 hk0
  go_enter Tryd.func4, Tryd.ntmps4
  go_wp2_with fail
  refine (awake_calls _ (hT.keeps HK0.out (by simp))).mono ?_
  rintro e w1 ⟨rfl, hK1⟩
  have hK01 := HK0.out.trans hK1 (by simp)
  go_wp2_with fail
  refine (made_calls 9 0 w1 (hT.keeps hK01 (by simp)) (by omega)).mono ?_
  rintro e w2 ⟨s, b, c, a, F, rfl, hSh0, hK2, hnew⟩
  have hSh : ShAt w2 s b c a 9 0 (Dev.new 72) (madeM 9) F := hSh0
  have hB2 := (HB0.out.same (hK1.block _ HB0.out.lt (by simp))).same (hK2.block _ (Nat.lt_of_lt_of_le HB0.out.lt hK1.size) (by simp))
  have hlt1 := Nat.lt_of_lt_of_le HB0.out.lt hK1.size
  have hfar : w.heap.size ∉ b :: c :: F := fun h => by have := hnew _ (List.mem_cons_of_mem _ h); omega
  have HNew := Lib.hid hnew
  have hm := shMake_calls s b c a 9 0 _ _ F w2 hSh w.heap.size _ b0 (hBN.out w2 hB2).1 u0 hfar
  rw [turns_make b0 h0] at hm
  obtain ⟨_, l1, n1, _⟩ := write_live (new_live 72) 2 (by decide) b0 h0
  have hk02 := hK01.trans hK2 (by simp)
  clear hSh0 hnew
  go_wp2_with fail
  refine hm.mono ?_
  clear hm
  rintro e w3 ⟨rfl, h3, g3⟩
  have hn72 : ((Dev.new 72).write 2 b0).2.cells.length = 72 := n1
  change ShAt w3 s b c a 9 0 ((Dev.new 72).write 2 b0).2 tmA F at h3
  have hB3 := hB2.same (g3.2.block _ (hB2.lt) hfar)
  have H3 := Lib.hid h3
  have L1 := Lib.hid l1
  have HN72 := Lib.hid hn72
  clear h3 l1 n1 hn72 hSh
  generalize ((Dev.new 72).write 2 b0).2 = D1 at *
  cases mark with
  | false =>
    have hm := shTurn_calls s b c a 9 0 _ _ F w3 H3.out w.heap.size _ b1 (hBN.out w3 hB3).2.1 u1 hfar 2
    rw [turns_plain D1 L1.out HN72.out b1 h1] at hm
    go_wp2_with fail
    refine hm.mono ?_
    clear hm
    rintro e w4 ⟨rfl, h4, g4⟩
    change ShAt w4 s b c a 9 0 (D1.write 2 b1).2 tmA F at h4
    obtain ⟨_, l2, n2, _⟩ := write_live L1.out 2 (by rw [HN72.out]; omega) b1 h1
    have hrd : (D1.write 2 b1).2.read 2 = (b1, 0) := by
      have := read_live l2 2 (by rw [n2, HN72.out]; omega)
      rw [write_line L1.out 2 (by rw [HN72.out]; omega) b1 h1 2 (by rw [HN72.out]; omega), if_pos rfl, bytes_words b1 8 h1 u1] at this
      exact this
    have hg := shGet_calls s b c a 9 0 _ _ F w4 h4 2
    rw [hrd] at hg
    have hB4 := hB3.same (g4.2.block _ (hB3.lt) hfar)
    have H4 := Lib.hid h4
    clear h4 l2 n2 hrd
    go_wp2_with fail
    refine hg.mono ?_
    clear hg
    rintro e w5 ⟨u, rfl, hO, hK5⟩
    obtain ⟨_, Bu, _, hRu⟩ := Rd.of_owns hO
    have hB5 := hB4.same (hK5.block _ (hB4.lt) (by simp))
    obtain ⟨hR0, hR1, hR63⟩ := hBN.out w5 hB5
    have hc1 := fun nq => run_str (P := Tryd.prog) (w := w5.drewN nq) Tryd.underlying43 Tryd.underlying5 Tryd.underlying9 (by exact hRu)
    have hc2 := fun nq => run_str (P := Tryd.prog) (w := w5.drewN nq) Tryd.underlying43 Tryd.underlying5 Tryd.underlying9 (by exact hR1)
    obtain ⟨h5, g5⟩ := H4.out.same hK5
    have H5 := Lib.hid h5
    clear h5
    go_wp2_with fail
    go_quiet (fail)
    go_wp2_with fail
    have hT6 := shTurn_calls s b c a 9 0 _ _ F _ (H5.out.same ((Keeps.refl [] w5).drewN nq)).1 w.heap.size _ b0 (by exact hR0) u0 hfar 1000
    rw [turns_far _ _ has1.2.2 b0] at hT6
    refine hT6.mono ?_
    clear hT6
    rintro e w6 ⟨rfl, h6, g6⟩
    change ShAt w6 s b c a 9 0 _ tmA F at h6
    have g56 := (Grows.same (F := b :: c :: F) ((Keeps.refl [] w5).drewN nq)).trans g6
    have hB6 := hB5.same (g56.2.block _ (hB5.lt) hfar)
    have hT7 := shTurn_calls s b c a 9 0 _ _ F w6 h6 w.heap.size _ (b0.take 63) (hBN.out w6 hB6).2.2 (fun x hx => u0 x (List.mem_of_mem_take hx)) hfar 2
    rw [turns_short _ _ _ _ (by rw [List.length_take]; omega)] at hT7
    have HT7 := Lib.hid hT7
    clear hT7
    go_wp2_with fail
    refine HT7.out.mono ?_
    rintro e w7 ⟨rfl, h7, g7⟩
    change ShAt w7 s b c a 9 0 _ tmA F at h7
    have hd1 := shDrop_calls s b c a 9 0 _ _ F w7 h7 2
    rw [gvA.1] at hd1
    have HD1 := Lib.hid hd1
    clear hd1
    go_wp2_with fail
    refine HD1.out.mono ?_
    rintro e w8 ⟨rfl, h8, g8⟩
    have hd2 := shDrop_calls s b c a 9 0 _ _ F w8 h8 2
    rw [gvA.2] at hd2
    have HD2 := Lib.hid hd2
    clear hd2
    go_wp2_with fail
    refine HD2.out.mono ?_
    rintro e w9 ⟨rfl, h9, g9⟩
    go_wp2_with fail
    go_ret
    refine ⟨rfl, ?_⟩
    have gall : Grows w2 w9 (b :: c :: F) (b :: c :: F) := (((((g3.trans g4).trans g5).trans g56).trans g7).trans g8).trans g9
    exact hk02.trans gall.2 (fun k hk hlt => by have := HNew.out k (List.mem_cons_of_mem _ hk); omega)
  | true =>
    go_wp2_with fail
    refine (mark_calls a 9 0 _ F w3 H3.out.alc H3.out.tab).mono ?_
    rintro e w31 ⟨F2, rfl, hA31, hG31⟩
    obtain ⟨h31, g31⟩ := H3.out.onAlc hA31 hG31
    have hfar2 : w.heap.size ∉ b :: c :: F2 := fun h => by
      rcases g31.1 _ h with h' | h'
      · exact hfar h'
      · have := hB3.lt; omega
    have hB31 := hB3.same (g31.2.block _ (hB3.lt) hfar)
    have hm := shTurn_calls s b c a 9 0 _ _ F2 w31 h31 w.heap.size _ b1 (hBN.out w31 hB31).2.1 u1 hfar2 2
    rw [turns_mark D1 L1.out HN72.out b1 h1] at hm
    have HM := Lib.hid hm
    clear hm h31
    go_wp2_with fail
    refine HM.out.mono ?_
    rintro e w4 ⟨rfl, h4, g4⟩
    change ShAt w4 s b c a 9 0 (D1.write 3 b1).2 tmD F2 at h4
    obtain ⟨_, l2, n2, _⟩ := write_live L1.out 3 (by rw [HN72.out]; omega) b1 h1
    have hrd : (D1.write 3 b1).2.read 3 = (b1, 0) := by
      have := read_live l2 3 (by rw [n2, HN72.out]; omega)
      rw [write_line L1.out 3 (by rw [HN72.out]; omega) b1 h1 3 (by rw [HN72.out]; omega), if_pos rfl, bytes_words b1 8 h1 u1] at this
      exact this
    have hg := shGet_calls s b c a 9 0 _ _ F2 w4 h4 3
    rw [hrd] at hg
    have hB4 := hB31.same (g4.2.block _ (hB31.lt) hfar2)
    have H4 := Lib.hid h4
    clear h4 l2 n2 hrd
    go_wp2_with fail
    refine hg.mono ?_
    clear hg
    rintro e w5 ⟨u, rfl, hO, hK5⟩
    obtain ⟨_, Bu, _, hRu⟩ := Rd.of_owns hO
    have hB5 := hB4.same (hK5.block _ (hB4.lt) (by simp))
    obtain ⟨hR0, hR1, hR63⟩ := hBN.out w5 hB5
    have hc1 := fun nq => run_str (P := Tryd.prog) (w := w5.drewN nq) Tryd.underlying43 Tryd.underlying5 Tryd.underlying9 (by exact hRu)
    have hc2 := fun nq => run_str (P := Tryd.prog) (w := w5.drewN nq) Tryd.underlying43 Tryd.underlying5 Tryd.underlying9 (by exact hR1)
    obtain ⟨h5, g5⟩ := H4.out.same hK5
    have H5 := Lib.hid h5
    clear h5
    go_wp2_with fail
    go_quiet (fail)
    go_wp2_with fail
    have hT6 := shTurn_calls s b c a 9 0 _ _ F2 _ (H5.out.same ((Keeps.refl [] w5).drewN nq)).1 w.heap.size _ b0 (by exact hR0) u0 hfar2 1000
    rw [turns_far _ _ has3 b0] at hT6
    refine hT6.mono ?_
    clear hT6
    rintro e w6 ⟨rfl, h6, g6⟩
    change ShAt w6 s b c a 9 0 _ tmD F2 at h6
    have g56 := (Grows.same (F := b :: c :: F2) ((Keeps.refl [] w5).drewN nq)).trans g6
    have hB6 := hB5.same (g56.2.block _ (hB5.lt) hfar2)
    have hT7 := shTurn_calls s b c a 9 0 _ _ F2 w6 h6 w.heap.size _ (b0.take 63) (hBN.out w6 hB6).2.2 (fun x hx => u0 x (List.mem_of_mem_take hx)) hfar2 3
    rw [turns_short _ _ _ _ (by rw [List.length_take]; omega)] at hT7
    have HT7 := Lib.hid hT7
    clear hT7
    go_wp2_with fail
    refine HT7.out.mono ?_
    rintro e w7 ⟨rfl, h7, g7⟩
    change ShAt w7 s b c a 9 0 _ tmD F2 at h7
    have hd1 := shDrop_calls s b c a 9 0 _ _ F2 w7 h7 3
    rw [gvD.1] at hd1
    have HD1 := Lib.hid hd1
    clear hd1
    go_wp2_with fail
    refine HD1.out.mono ?_
    rintro e w8 ⟨rfl, h8, g8⟩
    have hd2 := shDrop_calls s b c a 9 0 _ _ F2 w8 h8 2
    rw [gvD.2] at hd2
    have HD2 := Lib.hid hd2
    clear hd2
    go_wp2_with fail
    refine HD2.out.mono ?_
    rintro e w9 ⟨rfl, h9, g9⟩
    go_wp2_with fail
    go_ret
    refine ⟨rfl, ?_⟩
    have gall : Grows w2 w9 (b :: c :: F) (b :: c :: F2) := ((((((g3.trans g31).trans g4).trans g5).trans g56).trans g7).trans g8).trans g9
    exact hk02.trans gall.2 (fun k hk hlt => by have := HNew.out k (List.mem_cons_of_mem _ hk); omega)
end Go.Proofs.YtfpdikhdfcppeaaDoor
