/- Walks of package bits: copies, unions, new sets. -/
import Derived.Test.YtfpdikhdfcppeaaDoorA6
import Derived.Deep.RegionHeld3
namespace Go.Proofs.YtfpdikhdfcppeaaDoor
open Go.RowKit Go.Proofs

theorem keep2 {w W : World} {p e : Nat} {x y : Value} (hB : Blk w p e [x, y]) (hk : Keeps [] w W) : W.cell? ⟨p, 0, none⟩ = some x ∧ W.cell? ⟨p, 1, none⟩ = some y ∧ Keeps [] w W := by
  have h := hk.blk hB (by simp)
  exact ⟨by rw [h.cell]; rfl, by rw [h.cell]; rfl, hk⟩
theorem Sl.of_owns {w : World} {base : Nat} {e size : Nat} {v : Value} {n : Nat} {xs : List Value} (h : w.ownsRow base e size v n xs) (hv : v ≠ .slice none 0 0) : ∃ g, base ≤ g ∧ g < w.heap.size ∧ Sl w e size v g n xs := by
  rcases h.2 with ⟨h1, _⟩ | ⟨g, cap, cur, rfl, hb, hg, h1, h2, h3, h4⟩
  · exact absurd h1 hv
  · refine ⟨g, hb, (Array.getElem?_eq_some_iff.1 hg).1, h.1, .inr ⟨cap, cur.toList.drop (n * size), rfl, ?_, ?_, h1, h2⟩⟩
    · unfold Blk; rw [← h4, List.take_append_drop]; simpa using hg
    · simp [h3, Nat.sub_mul]
theorem Sl.nonnil {w : World} {e size : Nat} {v : Value} {g n : Nat} {xs : List Value} (h : Sl w e size v g n xs) (hv : v ≠ .slice none 0 0) :
    ∃ cap, v = .slice (some ⟨g, 0, none⟩) n cap ∧ Sl w e size (.slice (some ⟨g, 0, none⟩) n cap) g n xs ∧ n ≤ cap ∧ cap ≤ maxLen := by
  have h0 := h
  obtain ⟨hl, ⟨h1, _⟩ | ⟨cap, spare, rfl, hB, hs, h1, h2⟩⟩ := h
  · exact absurd h1 hv
  · exact ⟨cap, rfl, h0, h1, h2⟩
theorem Sl.owns {w : World} {e size : Nat} {v : Value} {g n : Nat} {xs : List Value} (h : Sl w e size v g n xs) (base : Nat) (hb : base ≤ g) : w.ownsRow base e size v n xs := by
  obtain ⟨hl, ⟨h1, h2⟩ | ⟨cap, spare, rfl, hB, hs, h1, h2⟩⟩ := h
  · exact ⟨hl, .inl ⟨h1, h2⟩⟩
  · refine ⟨hl, .inr ⟨g, cap, (xs ++ spare).toArray, rfl, hb, hB, h1, h2, ?_, ?_⟩⟩
    · rw [List.size_toArray, List.length_append, hl, hs, ← Nat.add_mul]; congr 1; omega
    · rw [← hl]; simp

set_option maxRecDepth 100000 in
set_option maxHeartbeats 1000000 in
theorem cloneWords_calls (q m : Nat) (v : Value) (xs : List Int) (w : World) (h : Sl w 107 1 v q m (u64s xs)) (hv : v ≠ .slice none 0 0) (hm : m ≤ 100000) :
    Calls Tryd.prog 100 #[v] w fun e w' => Any fun g => Any fun c => e = .returned (.slice (some ⟨g, 0, none⟩) m c) ∧ Sl w' 107 1 (.slice (some ⟨g, 0, none⟩) m c) g m (u64s xs) ∧ Keeps [] w w' ∧ w.heap.size ≤ g := by
  obtain ⟨i0, hi, hz0, hz1, hz2⟩ := info_parts info_u64
  obtain ⟨hl, ⟨h1, _⟩ | ⟨cap, spare, rfl, hB, hs, hc1, hc2⟩⟩ := h
  · exact absurd h1 hv
  have heq := fun W => Lib.run_eql_slice_nil (P := Tryd.prog) W 80 107 (some ⟨q, 0, none⟩) m cap 0 0 Tryd.underlying80
  have hcells : Hid (∀ j u, (u64s xs)[j]? = some u → (w.alloc (.cells #[] 107)).cell? ((⟨q, 0, none⟩ : Addr).add j) = some u) := by
    intro j u hu
    rw [addr_add, Nat.zero_add, World.cell?_alloc_lt _ _ _ hB.lt, hB.cell, List.getElem?_append_left (by have := List.getElem?_eq_some_iff.1 hu; exact this.1), hu]
  have hown : Hid ((w.alloc (.cells #[] 107)).ownsRow w.heap.size 107 1 (.slice (some ⟨w.heap.size, 0, none⟩) 0 0) 0 []) := World.ownsRow_made w #[] 0 (Nat.le_refl _) (by unfold maxLen; omega) rfl
  have HL := Lib.hid hl
  clear hl hB hs
  go_enter Tryd.func100, Tryd.ntmps100
  go_wp2_with (at_builtin; refine wpList_append_own _ rfl _ _ 80 rfl w.heap.size 107 i0 (.int .u64 0) 1 8 Tryd.underlying80 hi hz0 hz1 hz2 rfl (by decide) _ _ _ rfl hown.out ⟨q, 0, none⟩ m cap (u64s xs) rfl HL.out hcells.out ?c1 ?c2 ?c3 ?c4 ?_)
  case c1 => intro u hu; simp [u64s] at hu; obtain ⟨y, _, rfl⟩ := hu; rfl
  case c2 => unfold maxLen; omega
  case c3 => omega
  case c4 => simp
  intro v2 w2 hO2 hG2 hnil
  have hG3 := Lib.hid hG2
  have hO3 := Lib.hid hO2
  obtain ⟨g, hg1, hg2, hSl⟩ := Sl.of_owns hO3.out (by simpa using hnil)
  obtain ⟨ucap, rfl, hSl2, _, _⟩ := hSl.nonnil (by simpa using hnil)
  have HSl := Lib.hid hSl2
  clear hG2 hO2 hnil hSl hSl2
  go_wp2
  go_ret
  refine Any.mk g (Any.mk ucap ⟨rfl, by simpa using HSl.out, ?_, hg1⟩)
  refine ((Keeps.refl [] w).alloc _).grown hG3.out fun k hk hlt => ?_
  simp [Value.ownBlock] at hk; omega

set_option maxHeartbeats 1000000 in
theorem cloneSet_calls (p q n S : Nat) (w : World) (h : SetAt w p q n S) :
    Calls Tryd.prog 91 #[.pointer (some ⟨p, 0, none⟩)] w fun e w' => Any fun p' => Any fun q' => e = .returned (.pointer (some ⟨p', 0, none⟩)) ∧ SetAt w' p' q' n S ∧ Keeps [] w w' ∧ w.heap.size ≤ p' ∧ w.heap.size ≤ q' := by
  obtain ⟨v, hB, hS, hpq, hp, hq, hlt, hn, hvn⟩ := h
  have c0 := hB.cell 0
  have c1 := hB.cell 1
  simp at c0 c1
  have hnw : nw n ≤ 48 := by unfold nw; omega
  go_enter Tryd.func91, Tryd.ntmps91
  go_wp2
  go_region_held3 (fun W => W.cell? ⟨p, 0, none⟩ = some (.int .i64 n) ∧ W.cell? ⟨p, 1, none⟩ = some v ∧ Keeps [] w W) ((refine keep2 hB ?_; first | assumption | exact (Keeps.refl _ _).drew | exact Keeps.alloc (by assumption) _))
    (first | (go_at_call 100; refine (cloneWords_calls q (nw n) v (wordsL n S) _ (by exact hS.same rfl) hvn (by omega)).mono ?_; rintro e w1 ⟨g, uc, rfl, hO, hK, hg⟩; have hK2 : Keeps [] w w1 := (Keeps.refl [] w).drew.trans hK (by simp)))
  go_wp2
  go_ret
  have hpw := hB.lt
  have hg2 := hO.lt' (by simp)
  refine Any.mk w1.heap.size (Any.mk g ⟨rfl, ⟨_, Blk.new w1 100 [.int .i64 n, .slice (some ⟨g, 0, none⟩) (nw n) uc], hO.same (Below.heap_alloc _ _ _ hg2), by omega, by have := hK2.size; omega, by have : w.drew.heap.size = w.heap.size := rfl; omega, hlt, hn, by simp⟩, hK2.alloc _, by have := hK2.size; omega, hg⟩)

theorem Rd.of_owns {k : IntKind} {w : World} {base e : Nat} {v : Value} {n : Nat} {xs : List Int} (h : w.ownsRow base e 1 v n (xs.map (Value.int k))) : xs.length = n ∧ ∃ B, base ≤ B ∧ Rd k w v B xs := by
  have hl := h.1
  simp at hl
  refine ⟨hl, ?_⟩
  rcases h.2 with ⟨rfl, rfl⟩ | ⟨g, cap, cur, rfl, hb, hg, h1, h2, h3, h4⟩
  · obtain rfl := List.length_eq_zero_iff.1 hl
    exact ⟨base, Nat.le_refl _, Rd.nil _ _ _⟩
  · refine ⟨g, hb, .inr ⟨0, cap, by rw [hl], by omega, h2, fun i hi => ?_⟩⟩
    have hB : Blk w g e cur.toList := by unfold Blk; simpa using hg
    rw [hB.cell, Nat.zero_add]
    have : (cur.toList.take (n * 1))[i]? = some (.int k (xs.getD i 0)) := by rw [h4, getD_lt _ _ hi]; simp [hi]
    rw [List.getElem?_take, if_pos (by omega)] at this
    exact this

set_option maxHeartbeats 1000000 in
theorem with_calls (p q n S p2 q2 T : Nat) (w : World) (h : SetAt w p q n S) (h2 : SetAt w p2 q2 n T) (hT : Tab w) :
    Calls Tryd.prog 76 #[.pointer (some ⟨p, 0, none⟩), .pointer (some ⟨p2, 0, none⟩)] w fun e w' => Any fun p' => Any fun q' => e = .returned (.pointer (some ⟨p', 0, none⟩)) ∧ SetAt w' p' q' n (S ||| T) ∧ Keeps [] w w' ∧ w.heap.size ≤ p' ∧ w.heap.size ≤ q' := by
  have hTn : T < 2 ^ n := by obtain ⟨_, _, _, _, _, _, h, _⟩ := h2; exact h
  have HTN := Lib.hid hTn
  clear hTn
  go_enter Tryd.func76, Tryd.ntmps76
  go_wp2_with (first | (go_at_call 91; refine (cloneSet_calls p q n S w h).mono ?_; rintro e w1 ⟨p', q', rfl, hC, hK, hp', hq'⟩) |
    (go_at_call 23; refine (list_calls p2 q2 n T w1 (h2.keeps hK (by simp) (by simp)) (hT.keeps hK (by simp))).mono ?_; rintro e w2 ⟨u, rfl, hO, hK2⟩; obtain ⟨hl, B, hB, hR⟩ := Rd.of_owns hO; have HL := Lib.hid hl; clear hl; have hqB := hC.lt.2) |
    (go_at_call 48; refine (add_calls p' q' n S B u (ups n T) w2 (hC.keeps hK2 (by simp) (by simp)) hR (by omega)).mono ?_; rw [addAll_ups n S T HTN.out]; rintro e w3 ⟨rfl, hA, hK3⟩))
  go_ret
  refine Any.mk p' (Any.mk q' ⟨rfl, hA, ?_, hp', hq'⟩)
  exact (hK.trans hK2 (by simp)).trans hK3 (by intro k hk hlt; simp at hk; subst hk; omega)

set_option maxHeartbeats 1000000 in
theorem copied_calls (p q n S : Nat) (w : World) (h : SetAt w p q n S) (hT : Tab w) :
    Calls Tryd.prog 47 #[.pointer (some ⟨p, 0, none⟩)] w fun e w' => Any fun p' => Any fun q' => e = .returned (.pointer (some ⟨p', 0, none⟩)) ∧ SetAt w' p' q' n S ∧ Keeps [] w w' ∧ w.heap.size ≤ p' ∧ w.heap.size ≤ q' := by
  have hw := with_calls p q n S p q S w h h hT
  rw [Nat.or_self] at hw
  have HW := Lib.hid hw
  clear hw
  go_enter Tryd.func47, Tryd.ntmps47
  go_wp2_with (go_at_call 76; refine HW.out.mono ?_; rintro e w1 ⟨p', q', rfl, hC, hK, hp', hq'⟩)
  go_ret
  exact Any.mk p' (Any.mk q' ⟨rfl, hC, hK, hp', hq'⟩)
end Go.Proofs.YtfpdikhdfcppeaaDoor
