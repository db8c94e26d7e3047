/- What the row's condition on the library's table gives the walks. -/
import Derived.Test.YtfpdikhdfcppeaaDoorRows
import Derived.Test.YtfpdikhdfcppeaaDoorB2
import Derived.WalkKit
import Derived.ProofKit
import Derived.LaidMore
import Derived.OpenShut
import Derived.Stop.Joined
namespace Go.Proofs.YtfpdikhdfcppeaaDoor
open Go.ChangeShapes Go.WideShapes Go.ChangeAt Go.RowKit Go.Proofs

theorem wf_u8 {n : Int} (h : (Lit.int .u8 n).wf = true) : ∃ k : Nat, n = k ∧ k < 256 := by
  have h1 : IntKind.u8.min = 0 := by decide
  have h2 : IntKind.u8.max = 255 := by decide
  simp [Lit.wf, h1, h2] at h
  exact ⟨n.toNat, by omega, by omega⟩
def numOf : Value → Int | .int _ n => n | _ => 0
theorem u8s_of (l : List Value) (h : ∀ v ∈ l, ∃ n : Int, v = .int .u8 n ∧ (Lit.int .u8 n).wf = true) : l = u8s (l.map numOf) ∧ U8 (l.map numOf) := by
  constructor
  · unfold u8s
    rw [List.map_map]
    symm
    calc l.map (Value.int .u8 ∘ numOf) = l.map id := List.map_congr_left fun v hv => by
          obtain ⟨n, rfl, _⟩ := h v hv
          rfl
      _ = l := List.map_id l
  · intro x hx
    obtain ⟨v, hv, rfl⟩ := List.mem_map.1 hx
    obtain ⟨n, rfl, hw⟩ := h v hv
    obtain ⟨k, rfl, hk⟩ := wf_u8 hw
    show 0 ≤ (k : Int) ∧ (k : Int) < 256
    omega
/-- The cells of an array of bytes. -/
theorem open_bytes_array {H : Type} {enc : TypeId × Value → H} {w : World} {base : Nat} {spare : Nat → Bool} {held : Bool} {fuel n : Nat} {t : TypeId} {l : List Value} {x : DataW H × List MemPlace}
    (ht : Tryd.prog.underlying t = some (.array n 5)) (hl : l.length = n) (h : DataW.trod enc Tryd.prog w base spare held fuel t l = some x) : ∃ bs : List Int, l = u8s bs ∧ bs.length = n ∧ U8 bs := by
  obtain ⟨xs, m1, rfl, hx1, hlen, hn, hel⟩ := DataW.trod_array ht h
  have c5 : Tryd.prog.cellsOf 5 = 1 := by kernel_rfl
  have key : ∀ v ∈ l, ∃ n : Int, v = .int .u8 n ∧ (Lit.int .u8 n).wf = true := by
    intro v hv
    obtain ⟨i, hi, rfl⟩ := List.mem_iff_getElem.1 hv
    have h1 := hel i (by omega)
    rw [c5, List.getElem?_eq_getElem (by omega : i < xs.length)] at h1
    obtain ⟨k, e1, _, e3⟩ := DataW.trod_int Tryd.underlying5 h1
    have h3 : ((l.drop (i * 1)).take 1)[0]? = some (Value.int .u8 k) := by rw [e1]; rfl
    rw [List.getElem?_take, if_pos (by omega), List.getElem?_drop, Nat.mul_one, Nat.add_zero, List.getElem?_eq_getElem hi] at h3
    exact ⟨k, by injection h3, e3⟩
  obtain ⟨h1, h2⟩ := u8s_of l key
  exact ⟨l.map numOf, h1, by simpa using hl, h2⟩
theorem own : ownKnob Tryd.prog.godebug = none := by kernel_rfl
theorem laidOut : laidOutB Tryd.prog = true := by kernel_rfl
def laid1 : List (String × DataW Unit) := [("math/bits.deBruijn64tab", Rows.laid_math_bits_deBruijn64tab)]
theorem gTab : Tryd.prog.globalNamed "math/bits.deBruijn64tab" = some 0 := by kernel_rfl
theorem tTab : (Tryd.prog.globals[0]?).map (·.type) = some 37 := by kernel_rfl
/-- The door's own heap meets the condition: three closed facts. -/
theorem door_met (os : Os) (args : Array Value) : laidMetH Tryd.prog laid1 ((World.doorLaid Tryd.prog 400 os).forCall (fun _ _ => 0) ⟨#[], args, []⟩).memory :=
  laidMetH_of_parts3 (fuel := 8) (laidMet_of_run' 8 (by kernel_rfl) (by kernel_rfl)) (by kernel_rfl) (by kernel_rfl)
theorem tab_data : (Rows.laid_math_bits_deBruijn64tab : DataW Unit) = .agg (Lib.deBruijn64tab.map fun n : Nat => .lit (.int .u8 (n : Int))) := by rfl
/-- WHAT THE CONDITION GIVES THE WALKS: the table's cells. -/
theorem tab_of_laid {W : World} (h : laidMetH Tryd.prog laid1 W) : Tab W := by
  rw [MakeChecks.laidMetH_plain _ _ _ (by kernel_rfl)] at h
  obtain ⟨ps, ⟨g0, t0, cs0, f0, p0, q0, hg0, ht0, hv0, hd0, _⟩, _⟩ := h
  obtain rfl := Option.some.inj (gTab.symm.trans hg0)
  obtain rfl := Option.some.inj (tTab.symm.trans ht0)
  obtain ⟨xs, m1, rfl, hx1, hlen, hn, hel⟩ := DataW.trod_array Tryd.underlying37 hd0
  have c5 : Tryd.prog.cellsOf 5 = 1 := by kernel_rfl
  have key : ∀ j, j < 64 → W.cell? ⟨0, j, none⟩ = some (.int .u8 (Lib.deBruijn64tab.getD j 0)) := by
    intro j hj
    have h1 := hel j hj
    rw [c5] at h1
    have hj2 : j < xs.length := by rw [hn]; exact hj
    rw [List.getElem?_eq_getElem hj2] at h1
    obtain ⟨k, e1, e2, _⟩ := DataW.trod_int Tryd.underlying5 h1
    simp only [Prod.mk.injEq] at hx1
    have hd := hx1.1
    rw [tab_data, DataW.agg.injEq] at hd
    have hd2 : (Lib.deBruijn64tab.map fun n : Nat => (DataW.lit (.int .u8 (n : Int)) : DataW Unit))[j]? = (xs.map (·.1))[j]? := by rw [hd]
    have hj3 : j < Lib.deBruijn64tab.length := hj
    rw [List.getElem?_map, List.getElem?_map, List.getElem?_eq_getElem hj2, List.getElem?_eq_getElem hj3, e2] at hd2
    simp at hd2
    have hk : W.cell? ⟨0, j, none⟩ = some (.int .u8 k) := by
      rw [World.var?_cell hg0 hv0 j]
      have : (cs0.toList.drop (j * 1)).take 1 = [Value.int .u8 k] := e1
      have h3 : ((cs0.toList.drop (j * 1)).take 1)[0]? = some (Value.int .u8 k) := by rw [this]; rfl
      rw [List.getElem?_take, if_pos (by omega), List.getElem?_drop, Nat.mul_one, Nat.add_zero] at h3
      simpa using h3
    rw [hk, ← hd2, getD_lt _ _ hj3]
  refine ⟨?_, fun j hj => key j hj⟩
  have := World.block_lt_of_cell? W _ (key 0 (by omega))
  exact Nat.lt_of_le_of_lt (Nat.zero_le _) this
end Go.Proofs.YtfpdikhdfcppeaaDoor
