/- The reference's allocator: Give, Take, Do, New. -/
import Derived.Test.YtfpdikhdfcppeaaDoorF9
import Derived.Deep.RegionLaw
namespace Go.Proofs.YtfpdikhdfcppeaaDoor
open Go.RowKit Go.Proofs

theorem Rd.of_owns3 {k : IntKind} {w : World} {base e : Nat} {v : Value} {n : Nat} {xs : List Int} (h : w.ownsRow base e 1 v n (xs.map (Value.int k))) (B0 : Nat) : ∃ B, ((base ≤ B ∧ B < w.heap.size) ∨ B = B0) ∧ Rd k w v B xs := by
  have hl := h.1
  simp at hl
  rcases h.2 with ⟨rfl, rfl⟩ | ⟨g, cap, cur, rfl, hb, hg, h1, h2, h3, h4⟩
  · obtain rfl := List.length_eq_zero_iff.1 hl
    exact ⟨B0, .inr rfl, Rd.nil _ _ _⟩
  · refine ⟨g, .inl ⟨hb, (Array.getElem?_eq_some_iff.1 hg).1⟩, .inr ⟨0, cap, by rw [hl], by omega, h2, fun i hi => ?_⟩⟩
    have hB : Blk w g e cur.toList := by unfold Blk; simpa using hg
    rw [hB.cell, Nat.zero_add]
    have : (cur.toList.take (n * 1))[i]? = some (.int k (xs.getD i 0)) := by rw [h4, getD_lt _ _ hi]; simp [hi]
    rw [List.getElem?_take, if_pos (by omega)] at this
    exact this

theorem Keeps.cell {w w' : World} (hk : Keeps [] w w') {b i : Nat} {v : Value} (h : w.cell? ⟨b, i, none⟩ = some v) : w'.cell? ⟨b, i, none⟩ = some v := by
  rw [World.cell?_of_block (w := w) (w' := w') (hk.block b (World.block_lt_of_cell? w ⟨b, i, none⟩ h) (by simp))]; exact h

theorem cell_far {w : World} {b i c j : Nat} {u v : Value} (h : w.cell? ⟨b, i, none⟩ = some v) (hne : b ≠ c) : (w.setCell ⟨c, j, none⟩ u).cell? ⟨b, i, none⟩ = some v := by
  rw [World.cell?_of_block (w := w) (Below.heap_setCell _ ⟨c, j, none⟩ _ _ hne)]; exact h

def updV (f : Nat → Value) (i : Nat) (x : Value) : Nat → Value := fun j => if j = i then x else f j
/-- A list is put into the place i. -/
theorem RAlIn.put {w w1 : World} {A n : Nat} {r : Int} {V : Nat → Value} {G M : Nat → Nat} (h : RAlIn w A n r V G M) (hk : Keeps [] w w1) {i : Nat} (hi : i < 4) {u : Value} {B m : Nat} (hr : Rd .i64 w1 u B (ups n m)) (hB : (w.heap.size ≤ B ∧ B < w1.heap.size) ∨ B ∈ (rfoot A G).tail) (hm : m < 2 ^ n) :
    RAlIn (w1.setCell ⟨A, 2 + i, none⟩ u) A n r (updV V i u) (upd G i B) (upd M i m) ∧ Grows w (w1.setCell ⟨A, 2 + i, none⟩ u) (rfoot A G) (rfoot A (upd G i B)) := by
  have hA := h.blk.lt
  have hG : B ≠ A ∧ B < w1.heap.size ∧ (B ∈ rfoot A G ∨ w.heap.size ≤ B) := by
    rcases hB with ⟨h1, h2⟩ | hm2
    · exact ⟨by omega, h2, .inr h1⟩
    · have hm3 : ∃ j, j < 4 ∧ B = G j := by
        unfold rfoot at hm2
        simp only [List.tail_cons, List.mem_cons, List.not_mem_nil, or_false] at hm2
        rcases hm2 with e | e | e | e
        · exact ⟨0, by omega, e⟩
        · exact ⟨1, by omega, e⟩
        · exact ⟨2, by omega, e⟩
        · exact ⟨3, by omega, e⟩
      obtain ⟨j, hj, rfl⟩ := hm3
      exact ⟨h.ne j hj, Nat.lt_of_lt_of_le (h.lt j hj) hk.size, .inl (mem_rfoot.2 (.inr ⟨j, hj, rfl⟩))⟩
  have h1 := h.keeps hk (by simp)
  have hset : Keeps [A] w1 (w1.setCell ⟨A, 2 + i, none⟩ u) := (Keeps.refl _ _).set (by simp) _ _
  refine ⟨⟨?_, fun j hj => ?_, fun j hj => ?_, fun j hj => ?_, fun j hj => ?_, h.max⟩, fun x hx => ?_, (hk.mono (by simp)).trans hset (by intro k hk _; simp at hk; subst hk; exact mem_rfoot.2 (.inl rfl))⟩
  · have := h1.blk.set (2 + i) u
    have hi4 : i = 0 ∨ i = 1 ∨ i = 2 ∨ i = 3 := by omega
    rcases hi4 with rfl | rfl | rfl | rfl <;> simpa [updV] using this
  · by_cases e : j = i
    · subst e
      simp only [updV, upd, if_true]
      exact hr.keeps hset (by simpa using hG.1)
    · simp only [updV, upd, if_neg e]
      exact (h1.rd j hj).keeps hset (by simpa using h1.ne j hj)
  · by_cases e : j = i
    · subst e; simp only [upd, if_true]; exact hG.1
    · simp only [upd, if_neg e]; exact h.ne j hj
  · have hs := hset.size
    by_cases e : j = i
    · subst e; simp only [upd, if_true]; omega
    · simp only [upd, if_neg e]; have := h1.lt j hj; omega
  · by_cases e : j = i
    · subst e; simp only [upd, if_true]; exact hm
    · simp only [upd, if_neg e]; exact h.bit j hj
  · rcases mem_rfoot.1 hx with rfl | ⟨j, hj, rfl⟩
    · exact .inl (mem_rfoot.2 (.inl rfl))
    · by_cases e : j = i
      · subst e; simp only [upd, if_true]; exact hG.2.2
      · simp only [upd, if_neg e]; exact .inl (mem_rfoot.2 (.inr ⟨j, hj, rfl⟩))
theorem tail_mem {A : Nat} {G : Nat → Nat} {i : Nat} (hi : i < 4) : G i ∈ (rfoot A G).tail := by
  have : i = 0 ∨ i = 1 ∨ i = 2 ∨ i = 3 := by omega
  rcases this with rfl | rfl | rfl | rfl <;> simp [rfoot]

set_option maxHeartbeats 1000000 in
theorem rgive_calls (A n : Nat) (r : Int) (M : Nat → Nat) (F : List Nat) (w : World) (h : RAlAt w A n r M F) (at_ : Int) :
    Calls Tryd.prog 35 #[.pointer (some ⟨A, 0, none⟩), .int .i64 at_] w fun e w' => Any fun F' => e = .returned (.int .i64 (mGive n M at_).1) ∧ RAlAt w' A n r (mGive n M at_).2 F' ∧ Grows w w' F F' := by
  obtain ⟨V, G, rfl, h⟩ := h
  have b5 := h.blk.cell 5
  have f5 := h.blk.free 5
  simp at b5
  have hs3 := rhas_calls (V 3) (G 3) _ at_ w (h.rd 3 (by omega))
  rw [has_ups] at hs3
  unfold mGive
  cases e3 : hasBit n (M 3) at_ with
  | false =>
    rw [if_neg (by simp)]
    rw [e3] at hs3
    have HS3 := Lib.hid hs3
    have H := Lib.hid h
    clear hs3 e3 h
    go_enter Tryd.func35, Tryd.ntmps35
    go_wp2_with fail
    refine HS3.out.mono ?_
    rintro e w1 ⟨rfl, rfl⟩
    go_wp2
    go_ret
    exact Any.mk _ ⟨rfl, ⟨V, G, rfl, H.out⟩, Grows.refl _ _⟩
  | true =>
    rw [if_pos rfl]
    rw [e3] at hs3
    obtain ⟨g, rfl, hg, hb⟩ := hasBit_nat e3
    have hmax := h.max
    have hd := rdrop_calls (V 3) (G 3) _ g w (h.rd 3 (by omega)) (by have := ups_length n (M 3); omega)
    rw [ups_drop n (M 3) g hg] at hd
    have HD := Lib.hid hd
    have HS3 := Lib.hid hs3
    have H := Lib.hid h
    clear hs3 e3 h hd
    go_enter Tryd.func35, Tryd.ntmps35
    go_wp2_with fail
    refine HS3.out.mono ?_
    rintro e w1 ⟨rfl, rfl⟩
    go_wp2_with fail
    refine HD.out.mono ?_
    rintro e w1 ⟨u, rfl, hO, hK⟩
    obtain ⟨B, hB, hR⟩ := Rd.of_owns3 hO (G 3)
    obtain ⟨ua, ucap, rfl, _, _⟩ := hR.shape
    have hp := H.out.put hK (i := 3) (by omega) hR (by rcases hB with hB | rfl; exact .inl hB; exact .inr (tail_mem (by omega))) (dropOne_lt (H.out.bit 3 (by omega)))
    have hf := (H.out.keeps hK (by simp)).blk.free 5
    have hc := (H.out.keeps hK (by simp)).blk.cell 5
    simp at hc
    have HP := Lib.hid hp
    clear hO hK hB hR hp
    go_wp2
    go_ret
    exact Any.mk _ ⟨rfl, ⟨_, _, rfl, HP.out.1⟩, HP.out.2⟩

theorem free_first {n : Nat} {M : Nat → Nat} {r : Int} (hr : 0 ≤ r) (h : ¬ ((freeTo (orTo M 3) n).length : Int) ≤ r) :
    ∃ g : Nat, g < n ∧ gapFrom n (orTo M 3) 0 = g ∧ (freeTo (orTo M 3) n)[0]? = some (g : Int) ∧ (M 3).testBit g = false := by
  have hl : (freeTo (orTo M 3) n).length = (freeList n (orTo M 3)).length := by unfold freeTo ints freeList; rw [List.length_map]
  have hpos : 0 < (freeList n (orTo M 3)).length := by omega
  obtain ⟨g, h1, h2⟩ := free_head n (orTo M 3) hpos
  have hlt : (bitsUp n (orTo M 3)).length < n := by have := free_length n (orTo M 3); omega
  obtain ⟨g2, h3, h4, h5⟩ := gap_free n (orTo M 3) hlt
  have : g2 = g := by rw [h2] at h4; omega
  subst this
  refine ⟨g2, h3, h4, ?_, (orTo_bit M g2 h5).1⟩
  show ((freeList n (orTo M 3)).map Int.ofNat)[0]? = _
  rw [List.getElem?_map, ← List.head?_eq_getElem?, h1]
  rfl
theorem take_short {n : Nat} {M : Nat → Nat} {r : Int} : ((freeTo (orTo M 3) n).length : Int) ≤ r ↔ (n : Int) - ((bitsUp n (orTo M 3)).length : Nat) ≤ r := by
  have hl : (freeTo (orTo M 3) n).length = (freeList n (orTo M 3)).length := by unfold freeTo ints freeList; rw [List.length_map]
  have := free_length n (orTo M 3)
  have h2 : (bitsUp n (orTo M 3)).length ≤ n := by unfold bitsUp; exact Nat.le_trans (List.length_filter_le _ _) (by simp)
  omega

set_option maxRecDepth 100000 in
set_option maxHeartbeats 2000000 in
theorem rtake_calls (A n : Nat) (r : Int) (M : Nat → Nat) (F : List Nat) (w : World) (h : RAlAt w A n r M F) (hr : 0 ≤ r) :
    Calls Tryd.prog 64 #[.pointer (some ⟨A, 0, none⟩), .int .i64 r] w fun e w' => Any fun F' => e = .returned (.tuple #[.int .i64 (mTake n M r).1, .int .i64 (mTake n M r).2.1]) ∧ RAlAt w' A n r (mTake n M r).2.2 F' ∧ Grows w w' F F' := by
  have hfree := rfree_calls A n r M F w h
  obtain ⟨V, G, rfl, h⟩ := h
  have hle := freeTo_length (orTo M 3) n
  have hmax := h.max
  have H := Lib.hid h
  unfold mTake
  by_cases hc : ((freeTo (orTo M 3) n).length : Int) ≤ r
  · rw [if_pos (take_short.1 hc)]
    obtain ⟨L, hL⟩ : ∃ L, freeTo (orTo M 3) n = L := ⟨_, rfl⟩
    rw [hL] at hc hle hfree
    have HFree := Lib.hid hfree
    clear h hfree hL
    go_enter Tryd.func64, Tryd.ntmps64
    go_wp2_with fail
    refine HFree.out.mono ?_
    rintro e w1 ⟨u, rfl, hO, hK⟩
    obtain ⟨hll, B, hB, hR⟩ := Rd.of_owns hO
    obtain ⟨va, vcap, rfl, h1, h2⟩ := hR.shape
    unfold maxLen at h2
    clear hO hR
    go_wp2
    go_ret2
    exact Any.mk _ ⟨rfl, ⟨V, G, rfl, H.out.keeps hK (by simp)⟩, Grows.same hK⟩
  · rw [if_neg (fun e => hc (take_short.2 e))]
    obtain ⟨g, hg, hgap, hhead, hbit⟩ := free_first hr hc
    rw [hgap]
    have hadd : ∀ w1, Keeps [] w w1 → Calls Tryd.prog 86 #[V 3, .int .i64 n, .int .i64 g] w1 fun e w' => Any fun u => Any fun B' => e = .returned u ∧ Rd .i64 w' u B' (ups n (addOne n (M 3) g)) ∧ (B' = G 3 ∨ w1.heap.size ≤ B') ∧ B' < w'.heap.size ∧ Keeps [] w1 w' := by
      intro w1 hk
      have h1 := H.out.keeps hk (by simp)
      have := radd_calls (V 3) (G 3) (ups n (M 3)) n g w1 (h1.rd 3 (by omega)) (by have := ups_length n (M 3); omega) (h1.lt 3 (by omega))
      have e : addList (ups n (M 3)) n g = ups n (addOne n (M 3) g) := by
        unfold addList
        rw [if_neg, ups_add n (M 3) g hg hbit]
        rw [has_ups, hasBit_testBit hg, hbit]
        simp; omega
      rwa [e] at this
    have HAdd := Lib.hid hadd
    have hb1 := h.blk.cell 1
    obtain ⟨L, hL⟩ : ∃ L, freeTo (orTo M 3) n = L := ⟨_, rfl⟩
    rw [hL] at hc hle hhead hfree
    have HFree := Lib.hid hfree
    have hL0 : 0 < L.length := by have := (List.getElem?_eq_some_iff.1 hhead).1; omega
    have HL := Lib.hid hL
    have HHead := Lib.hid hhead
    clear h hfree hL hadd hhead hgap hb1
    go_enter Tryd.func64, Tryd.ntmps64
    go_wp2_with fail
    refine HFree.out.mono ?_
    rintro e w1 ⟨u, rfl, hO, hK⟩
    obtain ⟨hll, B, hB, hR⟩ := Rd.of_owns hO
    obtain ⟨va, lcap, rfl, h1, h2⟩ := hR.shape
    obtain ⟨lo, lc2, hv, c0⟩ := hR.get hL0
    obtain ⟨rfl, rfl⟩ : va = some ⟨B, lo, none⟩ ∧ lc2 = lcap := by injection hv with h1 h2 h3; exact ⟨h1, h3.symm⟩
    rw [getD_lt _ _ hL0] at c0
    have e0 : L[0] = (g : Int) := by have := HHead.out; rw [List.getElem?_eq_getElem hL0] at this; simpa using this
    rw [e0] at c0
    unfold maxLen at h2
    have HK := Lib.hid hK
    have b0 := (H.out.keeps hK (by simp)).blk.cell 0
    have b5 := (H.out.keeps hK (by simp)).blk.cell 5
    simp at b0 b5
    rw [Nat.add_zero] at c0
    have HR := Lib.hid hR
    have hL1 : (0 : Int) < (L.length : Int) := by omega
    have hAB : B ≠ A := by have := H.out.blk.lt; omega
    clear hO hR hK e0 hv
    go_wp2_with fail
    go_region_law (first | (go_simp; go_at_call 86; refine (HAdd.out _ (by exact HK.out.drew)).mono ?_; rintro e w2 ⟨u2, B2, rfl, hR2, hB2, hlt2, hK2⟩; obtain ⟨ua, ucap, rfl, _, _⟩ := hR2.shape; have hf := ((H.out.keeps HK.out.drew (by simp)).keeps hK2 (by simp)).blk.free 5; have hc5 := hK2.cell b5))
    all_goals
      have hK12 := HK.out.drew.trans hK2 (by simp)
      have hp := H.out.put hK12 (i := 3) (by omega) hR2 (by rcases hB2 with rfl | hB2; exact .inr (tail_mem (by omega)); exact .inl ⟨by have h1 := HK.out.size; have h2 : w1.drew.heap.size = w1.heap.size := rfl; omega, hlt2⟩) (addOne_lt (H.out.bit 3 (by omega)))
      have c2 := cell_far (u := .slice ua (ups n (addOne n (M 3) ↑g)).length ucap) (hK2.cell c0) (j := 5) hAB
      have HP := Lib.hid hp
      clear hR2 hB2 hK2 hK12 hp hf hc5
      go_wp2
      go_ret2
      exact Any.mk _ ⟨rfl, ⟨_, _, rfl, HP.out.1⟩, HP.out.2⟩
end Go.Proofs.YtfpdikhdfcppeaaDoor
