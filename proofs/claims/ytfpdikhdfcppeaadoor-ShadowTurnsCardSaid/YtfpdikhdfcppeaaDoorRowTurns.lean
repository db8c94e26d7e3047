/- The law ShadowTurns of the store of blocks returns true, whatever the two blocks' octets are, and whether the allocator marks between. No condition of its own: the row's one listed variable (the library's table for trailing zeros) is tied to the program's text by the given tie. -/
import Derived.Test.YtfpdikhdfcppeaaDoorTie
import Derived.Test.YtfpdikhdfcppeaaDoorCards
import Derived.Test.YtfpdikhdfcppeaaDoorE0
import Derived.Test.YtfpdikhdfcppeaaDoorD2
import Derived.SevenTiedAt
namespace Go.Proofs.YtfpdikhdfcppeaaDoor.shadowTurns
open Go.ChangeShapes Go.WideShapes Go.ChangeAt Go.RowKit Go.Proofs

set_option maxRecDepth 100000 in
theorem lifted (os : Os) (started : os.Started) (H : Type) (enc : TypeId × Value → H) :
    ReturnsInHanded {} Tryd.checked os 4 .any (fun w args => (Rows.shadowTurnsSpec.pre enc Tryd.prog Tryd.f4 [] false w args ∧ laidMetH Tryd.prog laid1 w) ∧ sizedMet enc Tryd.prog Tryd.f4 (OpenSpec.ofChange Rows.shadowTurnsSpec) false w args)
      (Rows.shadowTurnsSpec.post enc Tryd.prog Tryd.f4 false true false false) := by
  refine returnsInHanded_of_change_and (C := Tryd.checked) (X := fun w _ => laidMetH Tryd.prog laid1 w) (fun _ _ _ hh h => h.of_heap hh) own started (by kernel_rfl) Tryd.func4
    (ChangeSpec.witness_shaped (enc := enc) (C := Tryd.checked) (os := os) (X := fun w _ => laidMetH Tryd.prog laid1 w) false (World.doorLaid Tryd.prog 400 os) #[.agg (Array.replicate 128 (.int .u8 0)), .bool false] 8 rfl (World.shaped_of_RefB (by kernel_rfl) (by kernel_rfl)) (by kernel_rfl) (by kernel_rfl) (by kernel_rfl) (door_met os _)) ?_
  intro W base args ds gs before hval0 hW _ _ hL _
  have hval : ∀ (j : Nat) t v, Tryd.f4.params[j]? = some t → args[j]? = some v → Value.okWide Tryd.prog W .any base t v := hval0
  have hW' := hW
  obtain ⟨p, q, hA0, hV, rfl, hfz, hnd⟩ := hW
  have hA : DataW.TrodAll enc Tryd.prog W 0 (fun _ => true) true Tryd.f4.params.toList args.toList ds p := hA0
  rw [Tryd.params4] at hA hval
  obtain ⟨v0, vs0, d0, ds0, p0, q0, hargs, rfl, rfl, h0, r0⟩ := trodAll_cons hA
  obtain ⟨v1, vs1, d1, ds1, p1, q1, rfl, rfl, rfl, h1, r1⟩ := trodAll_cons r0
  obtain ⟨rfl, rfl, rfl⟩ := trodAll_nil r1
  obtain rfl : args = #[v0, v1] := by cases args; simp_all
  obtain ⟨rfl, rfl⟩ := trodVars_none hV
  have hv0 := hval 0 38 v0 rfl rfl
  unfold Value.okWide at hv0
  rw [Tryd.underlying38] at hv0
  obtain ⟨cs, rfl, hsz, _⟩ := hv0
  obtain ⟨mark, rfl, rfl, rfl⟩ := open_bool Tryd.underlying4 (hval 1 4 v1 rfl rfl) h1
  have hT := tab_of_laid hL
  have k0 := h0
  have lt0 : ∀ x ∈ p0, x.block < W.heap.size := by obtain ⟨m, hm⟩ := k0; exact DataW.trod_lt m _ _ _ hm
  obtain ⟨b0, b1, hcs, hb0, hb1, u0, u1⟩ : ∃ b0 b1 : List Int, cs.toList = u8s (b0 ++ b1) ∧ b0.length = 64 ∧ b1.length = 64 ∧ U8 b0 ∧ U8 b1 := by
    obtain ⟨fuel, hf⟩ := h0
    obtain ⟨xs, m1, rfl, hx1, hlen, hn, hel⟩ := DataW.trod_array Tryd.underlying38 hf
    have c64 : Tryd.prog.cellsOf 37 = 64 := by kernel_rfl
    have c128 : Tryd.prog.cellsOf 38 = 128 := by kernel_rfl
    have hl : cs.toList.length = 128 := by rw [← c128]; exact hlen
    have e0 := hel 0 (by omega)
    have e1 := hel 1 (by omega)
    rw [c64, List.getElem?_eq_getElem (by omega : 0 < xs.length)] at e0
    rw [c64, List.getElem?_eq_getElem (by omega : 1 < xs.length)] at e1
    obtain ⟨b0, hb0, l0, u0⟩ := open_bytes_array Tryd.underlying37 (by simp [Value.cells] at hl ⊢; omega) e0
    obtain ⟨b1, hb1, l1, u1⟩ := open_bytes_array Tryd.underlying37 (by simp [Value.cells] at hl ⊢; omega) e1
    refine ⟨b0, b1, ?_, l0, l1, u0, u1⟩
    have : cs.toList = (cs.toList.drop (0 * 64)).take 64 ++ (cs.toList.drop (1 * 64)).take 64 := by
      rw [Nat.zero_mul, List.drop_zero, List.take_of_length_le (l := cs.toList.drop (1 * 64)) (by rw [List.length_drop]; omega), Nat.one_mul, List.take_append_drop]
    rw [this]
    have hb0' : (cs.toList.drop (0 * 64)).take 64 = u8s b0 := hb0
    have hb1' : (cs.toList.drop (1 * 64)).take 64 = u8s b1 := hb1
    rw [hb0', hb1']
    simp [u8s]
  clear hA0 hval0
  refine (shadowTurns_walk cs b0 b1 hcs hb0 hb1 u0 u1 mark W hT).mono fun e W' ⟨he, hg⟩ => ?_
  subst he
  have bel := hg.below
  exact ⟨_, rfl, _, _, _, [], _, [], hW', trodAll_mk1 (shut_bool Tryd.underlying4 _), (trodAll_cons_mk (Below.trod laidOut (by kernel_rfl) (of_decide_eq_true (by kernel_rfl)) k0 bel lt0) (trodAll_cons_mk (shut_bool Tryd.underlying4 _) trodAll_mk0)), rfl, bel.frame _, fun h => by cases h⟩

theorem over : Rows.shadowTurnsRow.holds Tryd.pinned (OpenSpec.ofChange Rows.shadowTurnsSpec) :=
  OpenClaim.holds_of_wide 4 Tryd.f4 rfl rfl rfl rfl rfl rfl rfl ⟨rfl, rfl, rfl, rfl, rfl⟩ rfl rfl rfl rfl rfl (by kernel_rfl) Tryd.func4 (by kernel_rfl)
    (of_decide_eq_true (by kernel_rfl)) (by unfold Func.isWrapper; first | (rw [if_pos (by decide +kernel)]; kernel_rfl) | (rw [if_neg (by decide +kernel)]; exact ⟨rfl, rfl⟩))
    (fun os started H enc _ => lifted os started H enc)

theorem card : Rows.ShadowTurnsCardSaid :=
  Claim7.holds_tied_plain_at .later [] [.data] true (true, "30fc2d92e70d24ea80e0bc0ce6769f79cc7c7ee9cab9f03e1e37e1c9ff5ddfe2") false
    over (fun _ h => by cases h) (by kernel_rfl) (fun _ h => by cases h) shadowTurns_row_tie rfl ⟨rfl, rfl⟩ (by kernel_rfl) rfl
    (fun f fn hf hfn => by
      obtain rfl : f = 4 := Option.some.inj ((show Tryd.prog.funcNamed "rickyard/rickyardlaw19.ShadowTurns" = some 4 by kernel_rfl).symm.trans hf) |>.symm
      obtain rfl : fn = Tryd.f4 := (Option.some.inj (Tryd.func4.symm.trans hfn)).symm
      exact ⟨by kernel_rfl, fun j t ht => by
        rw [Tryd.params4] at ht
        have hm : t ∈ [38, 4] := by simpa using Array.mem_of_getElem? ht
        have hall : ([38, 4].all fun u => !Tryd.prog.wantsStandIn u) = true := by kernel_rfl
        exact (show Tryd.prog.wantsStandIn t = false by simpa using List.all_eq_true.1 hall t hm)⟩)
    (by kernel_rfl)
#print axioms card
end Go.Proofs.YtfpdikhdfcppeaaDoor.shadowTurns
