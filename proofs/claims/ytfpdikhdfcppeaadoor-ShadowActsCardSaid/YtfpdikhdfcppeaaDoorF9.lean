/- The reference's allocator: Free, Own, Give. -/
import Derived.Test.YtfpdikhdfcppeaaDoorM8
namespace Go.Proofs.YtfpdikhdfcppeaaDoor
open Go.RowKit Go.Proofs

/-- The reference's allocator at A: its four lists V, in the blocks G. -/
structure RAlIn (w : World) (A n : Nat) (r : Int) (V : Nat → Value) (G M : Nat → Nat) : Prop where
  blk : Blk w A 86 [.int .i64 n, .int .i64 r, V 0, V 1, V 2, V 3]
  rd : ∀ i, i < 4 → Rd .i64 w (V i) (G i) (ups n (M i))
  ne : ∀ i, i < 4 → G i ≠ A
  lt : ∀ i, i < 4 → G i < w.heap.size
  bit : ∀ i, i < 4 → M i < 2 ^ n
  max : n ≤ 3072
def rfoot (A : Nat) (G : Nat → Nat) : List Nat := [A, G 0, G 1, G 2, G 3]
def RAlAt (w : World) (A n : Nat) (r : Int) (M : Nat → Nat) (F : List Nat) : Prop := ∃ V G, F = rfoot A G ∧ RAlIn w A n r V G M
theorem mem_rfoot {A : Nat} {G : Nat → Nat} {k : Nat} : k ∈ rfoot A G ↔ k = A ∨ ∃ i, i < 4 ∧ k = G i := by
  unfold rfoot
  simp only [List.mem_cons, List.not_mem_nil, or_false]
  constructor
  · rintro (rfl | rfl | rfl | rfl | rfl)
    · exact .inl rfl
    · exact .inr ⟨0, by omega, rfl⟩
    · exact .inr ⟨1, by omega, rfl⟩
    · exact .inr ⟨2, by omega, rfl⟩
    · exact .inr ⟨3, by omega, rfl⟩
  · rintro (rfl | ⟨i, hi, rfl⟩)
    · exact .inl rfl
    · have : i = 0 ∨ i = 1 ∨ i = 2 ∨ i = 3 := by omega
      rcases this with rfl | rfl | rfl | rfl <;> simp
theorem RAlIn.keeps {S : List Nat} {w w' : World} {A n : Nat} {r : Int} {V : Nat → Value} {G M : Nat → Nat} (h : RAlIn w A n r V G M) (hk : Keeps S w w') (hd : ∀ k ∈ rfoot A G, k ∉ S) : RAlIn w' A n r V G M :=
  ⟨hk.blk h.blk (hd A (mem_rfoot.2 (.inl rfl))), fun i hi => (h.rd i hi).keeps hk (hd _ (mem_rfoot.2 (.inr ⟨i, hi, rfl⟩))), h.ne, fun i hi => Nat.lt_of_lt_of_le (h.lt i hi) hk.size, h.bit, h.max⟩
theorem RAlAt.keeps {S : List Nat} {w w' : World} {A n : Nat} {r : Int} {M : Nat → Nat} {F : List Nat} (h : RAlAt w A n r M F) (hk : Keeps S w w') (hd : ∀ k ∈ F, k ∉ S) : RAlAt w' A n r M F := by
  obtain ⟨V, G, rfl, h⟩ := h
  exact ⟨V, G, rfl, h.keeps hk hd⟩
theorem RAlAt.lt {w : World} {A n : Nat} {r : Int} {M : Nat → Nat} {F : List Nat} (h : RAlAt w A n r M F) : ∀ k ∈ F, k < w.heap.size := by
  obtain ⟨V, G, rfl, h⟩ := h
  intro k hk
  rcases mem_rfoot.1 hk with rfl | ⟨i, hi, rfl⟩
  · exact h.blk.lt
  · exact h.lt i hi
theorem ups_length (n S : Nat) : (ups n S).length ≤ n := by
  unfold ups bitsUp
  rw [List.length_map]
  exact Nat.le_trans (List.length_filter_le _ _) (by simp)
theorem hasBit_testBit {n S k : Nat} (h : k < n) : hasBit n S k = S.testBit k := by unfold hasBit; simp [h]

def ints (l : List Nat) : List Int := l.map Int.ofNat
/-- Those of the first k that are free. -/
def freeTo (S k : Nat) : List Int := ints ((List.range k).filter fun i => !S.testBit i)
theorem freeTo_succ (S k : Nat) : freeTo S (k + 1) = if S.testBit k = true then freeTo S k else freeTo S k ++ [(k : Int)] := by
  unfold freeTo ints
  rw [List.range_succ, List.filter_append, List.map_append]
  by_cases h : S.testBit k = true
  · simp [h]
  · simp [h]
theorem freeTo_length (S k : Nat) : (freeTo S k).length ≤ k := by
  unfold freeTo ints
  rw [List.length_map]
  exact Nat.le_trans (List.length_filter_le _ _) (by simp)
theorem orTo_four (M : Nat → Nat) (k : Nat) : (orTo M 3).testBit k = (((M 3).testBit k || (M 0).testBit k) || (M 1).testBit k || (M 2).testBit k) := by
  simp [orTo, Nat.testBit_or]

set_option maxRecDepth 100000 in
set_option maxHeartbeats 4000000 in
theorem rfree_calls (A n : Nat) (r : Int) (M : Nat → Nat) (F : List Nat) (w : World) (h : RAlAt w A n r M F) :
    Calls Tryd.prog 85 #[.pointer (some ⟨A, 0, none⟩)] w fun e w' => Any fun u => e = .returned u ∧ w'.ownsRow w.heap.size 3 1 u (freeTo (orTo M 3) n).length (i64s (freeTo (orTo M 3) n)) ∧ Keeps [] w w' := by
  obtain ⟨V, G, rfl, h⟩ := h
  obtain ⟨i0, hi, hz0, hz1, hz2⟩ := info_parts info_int
  have hmax := h.max
  have H := Lib.hid h
  clear h
  go_enter Tryd.func85, Tryd.ntmps85
  go_wp2
  go_loopw [3, 4] (fun u t wr => ∃ k : Nat, k ≤ n ∧ t = .int .i64 k ∧ Keeps [] w wr ∧ wr.ownsRow w.heap.size 3 1 u (freeTo (orTo M 3) k).length (i64s (freeTo (orTo M 3) k))) (fun _ t _ => n - (intOf t).toNat)
  case atStart => exact ⟨0, by omega, rfl, Keeps.refl _ _, by simpa [i64s, freeTo, ints] using World.ownsRow_nil w w.heap.size 3 1⟩
  case round =>
    obtain ⟨k, hk, rfl, hK, hO⟩ := hrel
    have h1 := H.out.keeps hK (by simp)
    have b0 := h1.blk.cell 0
    have b2 := h1.blk.cell 2
    have b3 := h1.blk.cell 3
    have b4 := h1.blk.cell 4
    have b5 := h1.blk.cell 5
    simp at b0 b2 b3 b4 b5
    have HK := Lib.hid hK
    have HO := Lib.hid hO
    clear hK hO
    by_cases hlt : k < n
    · have hs0 := rhas_calls (V 0) (G 0) _ k wr (h1.rd 0 (by omega))
      have hs1 := rhas_calls (V 1) (G 1) _ k wr (h1.rd 1 (by omega))
      have hs2 := rhas_calls (V 2) (G 2) _ k wr (h1.rd 2 (by omega))
      have hs3 := rhas_calls (V 3) (G 3) _ k wr (h1.rd 3 (by omega))
      rw [has_ups, hasBit_testBit hlt] at hs0 hs1 hs2 hs3
      have hor := orTo_four M k
      have hst := freeTo_succ (orTo M 3) k
      have hle := freeTo_length (orTo M 3) k
      rw [hor] at hst
      have HS := Lib.hid hst
      have HLe := Lib.hid hle
      clear h1 hor hst hle
      cases e0 : (M 0).testBit k with
      | true =>
        rw [e0] at hs0 HS
        have HS0 := Lib.hid hs0
        clear hs0 hs1 hs2 hs3 e0
        go_wp2_with (go_at_call 66; refine HS0.out.mono ?_; rintro e w1 ⟨rfl, rfl⟩)
        go_roundw
        case rel => exact ⟨k + 1, by omega, by go_num, HK.out, by rw [HS.out]; simpa using HO.out⟩
        case measure => simp [intOf]; omega
      | false =>
        cases e1 : (M 1).testBit k with
        | true =>
          rw [e0] at hs0 HS
          rw [e1] at hs1 HS
          have HS0 := Lib.hid hs0
          have HS1 := Lib.hid hs1
          clear hs0 hs1 hs2 hs3 e0 e1
          go_wp2_with fail
          refine HS0.out.mono ?_
          rintro e w1 ⟨rfl, rfl⟩
          go_wp2_with fail
          refine HS1.out.mono ?_
          rintro e w1 ⟨rfl, rfl⟩
          go_wp2
          go_roundw
          case rel => exact ⟨k + 1, by omega, by go_num, HK.out, by rw [HS.out]; simpa using HO.out⟩
          case measure => simp [intOf]; omega
        | false =>
          cases e2 : (M 2).testBit k with
          | true =>
            rw [e0] at hs0 HS
            rw [e1] at hs1 HS
            rw [e2] at hs2 HS
            have HS0 := Lib.hid hs0
            have HS1 := Lib.hid hs1
            have HS2 := Lib.hid hs2
            clear hs0 hs1 hs2 hs3 e0 e1 e2
            go_wp2_with fail
            refine HS0.out.mono ?_
            rintro e w1 ⟨rfl, rfl⟩
            go_wp2_with fail
            refine HS1.out.mono ?_
            rintro e w1 ⟨rfl, rfl⟩
            go_wp2_with fail
            refine HS2.out.mono ?_
            rintro e w1 ⟨rfl, rfl⟩
            go_wp2
            go_roundw
            case rel => exact ⟨k + 1, by omega, by go_num, HK.out, by rw [HS.out]; simpa using HO.out⟩
            case measure => simp [intOf]; omega
          | false =>
            rw [e0] at hs0 HS
            rw [e1] at hs1 HS
            rw [e2] at hs2 HS
            cases e3 : (M 3).testBit k with
            | true =>
              rw [e3] at hs3 HS
              have HS0 := Lib.hid hs0
              have HS1 := Lib.hid hs1
              have HS2 := Lib.hid hs2
              have HS3 := Lib.hid hs3
              clear hs0 hs1 hs2 hs3 e0 e1 e2 e3
              go_wp2_with fail
              refine HS0.out.mono ?_
              rintro e w1 ⟨rfl, rfl⟩
              go_wp2_with fail
              refine HS1.out.mono ?_
              rintro e w1 ⟨rfl, rfl⟩
              go_wp2_with fail
              refine HS2.out.mono ?_
              rintro e w1 ⟨rfl, rfl⟩
              go_wp2_with fail
              refine HS3.out.mono ?_
              rintro e w1 ⟨rfl, rfl⟩
              go_wp2
              go_roundw
              case rel => exact ⟨k + 1, by omega, by go_num, HK.out, by rw [HS.out]; simpa using HO.out⟩
              case measure => simp [intOf]; omega
            | false =>
              rw [e3] at hs3 HS
              have HS0 := Lib.hid hs0
              have HS1 := Lib.hid hs1
              have HS2 := Lib.hid hs2
              have HS3 := Lib.hid hs3
              clear hs0 hs1 hs2 hs3 e0 e1 e2 e3
              go_wp2_with fail
              refine HS0.out.mono ?_
              rintro e w1 ⟨rfl, rfl⟩
              go_wp2_with fail
              refine HS1.out.mono ?_
              rintro e w1 ⟨rfl, rfl⟩
              go_wp2_with fail
              refine HS2.out.mono ?_
              rintro e w1 ⟨rfl, rfl⟩
              go_wp2_with fail
              refine HS3.out.mono ?_
              rintro e w1 ⟨rfl, rfl⟩
              go_wp2_with (at_builtin; refine wpList_append_own _ rfl _ _ 54 rfl w.heap.size 3 i0 (.int .i64 0) 1 8 Tryd.underlying54 hi hz0 hz1 hz2 rfl (by decide) _ _ _ rfl (HO.out.alloc _) ⟨wr.heap.size, 0, none⟩ 1 1 [.int .i64 k] rfl rfl ?c1 ?c2 ?c3 ?c4 ?c5 ?_)
              case c1 => exact one_cell_new wr _ _
              case c2 => intro u hu; simp at hu; subst hu; rfl
              case c3 => have := HLe.out; unfold maxLen; omega
              case c4 => have := HLe.out; omega
              case c5 => simp only [World.size_alloc]; have := HK.out.size; omega
              intro vv w8 hO8 hG8 hnil
              have hK8 : Keeps [] w w8 := (HK.out.alloc _).grown hG8 fun g hg hlt3 => by have := (HO.out.lt g hg).1; omega
              have HK8 := Lib.hid hK8
              have HO8 := Lib.hid hO8
              clear hO8 hG8 hnil hK8
              go_wp2
              go_roundw
              case rel =>
                refine ⟨k + 1, by omega, by go_num, HK8.out, ?_⟩
                have := HO8.out
                rw [HS.out]
                simpa [i64s] using this
              case measure => simp [intOf]; omega
    · obtain rfl : k = n := by omega
      go_wp2
      go_ret
      exact Any.mk _ ⟨rfl, HO.out, HK.out⟩

set_option maxHeartbeats 400000 in
theorem rown_calls (A n : Nat) (r : Int) (M : Nat → Nat) (F : List Nat) (w : World) (h : RAlAt w A n r M F) (at_ : Int) :
    Calls Tryd.prog 67 #[.pointer (some ⟨A, 0, none⟩), .int .i64 at_] w fun e w' => e = .returned (.bool (hasBit n (M 3) at_ && !hasBit n (M 2) at_)) ∧ w = w' := by
  obtain ⟨V, G, rfl, h⟩ := h
  have b4 := h.blk.cell 4
  have b5 := h.blk.cell 5
  simp at b4 b5
  have hs2 := rhas_calls (V 2) (G 2) _ at_ w (h.rd 2 (by omega))
  have hs3 := rhas_calls (V 3) (G 3) _ at_ w (h.rd 3 (by omega))
  rw [has_ups] at hs2 hs3
  clear h
  cases e3 : hasBit n (M 3) at_ with
  | false =>
    rw [e3] at hs3
    have HS3 := Lib.hid hs3
    clear hs2 hs3 e3
    go_enter Tryd.func67, Tryd.ntmps67
    go_wp2_with fail
    refine HS3.out.mono ?_
    rintro e w1 ⟨rfl, rfl⟩
    go_wp2
    go_ret
    exact ⟨rfl, rfl⟩
  | true =>
    cases e2 : hasBit n (M 2) at_ with
    | true =>
      rw [e3] at hs3
      rw [e2] at hs2
      have HS3 := Lib.hid hs3
      have HS2 := Lib.hid hs2
      clear hs2 hs3 e3 e2
      go_enter Tryd.func67, Tryd.ntmps67
      go_wp2_with fail
      refine HS3.out.mono ?_
      rintro e w1 ⟨rfl, rfl⟩
      go_wp2_with fail
      refine HS2.out.mono ?_
      rintro e w1 ⟨rfl, rfl⟩
      go_wp2
      go_ret
      exact ⟨rfl, rfl⟩
    | false =>
      rw [e3] at hs3
      rw [e2] at hs2
      have HS3 := Lib.hid hs3
      have HS2 := Lib.hid hs2
      clear hs2 hs3 e3 e2
      go_enter Tryd.func67, Tryd.ntmps67
      go_wp2_with fail
      refine HS3.out.mono ?_
      rintro e w1 ⟨rfl, rfl⟩
      go_wp2_with fail
      refine HS2.out.mono ?_
      rintro e w1 ⟨rfl, rfl⟩
      go_wp2
      go_ret
      exact ⟨rfl, rfl⟩
end Go.Proofs.YtfpdikhdfcppeaaDoor
