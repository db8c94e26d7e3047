/- Walks: the law's awake: the document's example. -/
import Derived.Test.YtfpdikhdfcppeaaDoorC1
namespace Go.Proofs.YtfpdikhdfcppeaaDoor
open Go.RowKit Go.Proofs

def aw1 : Int × Int × Dev × (Nat → Nat) := shMake 9 0 (Dev.new 72) (madeM 9) (List.replicate 64 1)
def aw2 : Int × Int × Dev × (Nat → Nat) := shTurn 9 0 aw1.2.2.1 aw1.2.2.2 2 (List.replicate 64 2)
def aw3 : Int × Int × Dev × (Nat → Nat) := shTurn 9 0 aw2.2.2.1 (mMark aw2.2.2.2) 2 (List.replicate 64 3)
theorem aw1_says : aw1.1 = 2 ∧ aw1.2.1 = 0 := by decide +kernel
theorem aw2_says : aw2.1 = 2 ∧ aw2.2.1 = 0 := by decide +kernel
theorem aw3_says : aw3.1 = 3 ∧ aw3.2.1 = 0 := by decide +kernel
theorem u8_rep (x : Int) (h : 0 ≤ x ∧ x < 256) : U8 (List.replicate 64 x) := fun y hy => by rw [List.eq_of_mem_replicate hy]; exact h

set_option maxHeartbeats 1000000 in
theorem awake_calls (w : World) (hT : Tab w) : Calls Tryd.prog 8 #[] w fun e w' => e = .returned (.bool true) ∧ Keeps [] w w' := by
  go_enter Tryd.func8, Tryd.ntmps8
  go_wp2_with fail
  refine (made_calls 9 0 w hT (by omega)).mono ?_
  rintro e w1 ⟨s, b, c, a, F, rfl, hSh, hK1, hnew⟩
  have h1 : ShAt w1 s b c a 9 0 (Dev.new 72) (madeM 9) F := hSh
  have HN := Lib.hid hnew
  clear hSh hT hnew
  go_wp2_with fail
  refine (whole_calls 1 w1).mono ?_
  rintro e w2 ⟨v1, B1, rfl, hR1, hK2, hB1⟩
  have hx1 := (h1.same hK2).1
  have hmk := shMake_calls s b c a 9 0 _ _ F w2 hx1 B1 v1 _ hR1 (u8_rep 1 (by omega)) (h1.far hB1)
  change Calls _ _ _ _ (fun e w' => e = .returned (.tuple #[.int .i64 aw1.1, .int .i64 aw1.2.1]) ∧ ShAt w' s b c a 9 0 aw1.2.2.1 aw1.2.2.2 F ∧ _) at hmk
  rw [aw1_says.1, aw1_says.2] at hmk
  go_wp2_with fail
  refine hmk.mono ?_
  clear hmk
  rintro e w3 ⟨rfl, h3, g3⟩
  go_wp2_with fail
  refine (whole_calls 2 w3).mono ?_
  rintro e w4 ⟨v2, B2, rfl, hR2, hK4, hB2⟩
  have hx2 := (h3.same hK4).1
  have htn := shTurn_calls s b c a 9 0 _ _ F w4 hx2 B2 v2 _ hR2 (u8_rep 2 (by omega)) (h3.far hB2) 2
  change Calls _ _ _ _ (fun e w' => e = .returned (.tuple #[.int .i64 aw2.1, .int .i64 aw2.2.1]) ∧ ShAt w' s b c a 9 0 aw2.2.2.1 aw2.2.2.2 F ∧ _) at htn
  rw [aw2_says.1, aw2_says.2] at htn
  go_wp2_with fail
  refine htn.mono ?_
  clear htn
  rintro e w5 ⟨rfl, h5, g5⟩
  go_wp2_with fail
  refine (mark_calls a 9 0 _ F w5 h5.alc h5.tab).mono ?_
  rintro e w6 ⟨F6, rfl, hA6, hG6⟩
  obtain ⟨h6, g6⟩ := h5.onAlc hA6 hG6
  go_wp2_with fail
  refine (whole_calls 3 w6).mono ?_
  rintro e w7 ⟨v3, B3, rfl, hR3, hK7, hB3⟩
  have hx3 := (h6.same hK7).1
  have htn := shTurn_calls s b c a 9 0 _ _ F6 w7 hx3 B3 v3 _ hR3 (u8_rep 3 (by omega)) (h6.far hB3) 2
  change Calls _ _ _ _ (fun e w' => e = .returned (.tuple #[.int .i64 aw3.1, .int .i64 aw3.2.1]) ∧ ShAt w' s b c a 9 0 aw3.2.2.1 aw3.2.2.2 F6 ∧ _) at htn
  rw [aw3_says.1, aw3_says.2] at htn
  go_wp2_with fail
  refine htn.mono ?_
  clear htn
  rintro e w8 ⟨rfl, h8, g8⟩
  go_wp2_with fail
  go_ret
  refine ⟨rfl, ?_⟩
  have gall : Grows w1 w8 (b :: c :: F) (b :: c :: F6) := ((((((Grows.same hK2).trans g3).trans (Grows.same hK4)).trans g5).trans g6).trans (Grows.same hK7)).trans g8
  exact hK1.trans gall.2 (fun k hk hlt => by have := HN.out k (List.mem_cons_of_mem _ hk); omega)
end Go.Proofs.YtfpdikhdfcppeaaDoor
