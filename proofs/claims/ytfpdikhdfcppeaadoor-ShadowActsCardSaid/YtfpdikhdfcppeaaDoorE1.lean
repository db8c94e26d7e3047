/- A list of acts as it comes in: its cells. -/
import Derived.Test.YtfpdikhdfcppeaaDoorE0
import Derived.Test.YtfpdikhdfcppeaaDoorC3
namespace Go.Proofs.YtfpdikhdfcppeaaDoor
open Go.ChangeShapes Go.WideShapes Go.ChangeAt Go.RowKit Go.Proofs

section
variable {H : Type} {enc : TypeId × Value → H} {w : World} {spare : Nat → Bool} {held : Bool} {fuel : Nat}
theorem cells_at {base n : Nat} {a : Addr} {cs : List Value} (h : w.cells? base a n = some cs) (hn : 0 < n) : ∃ b o, a = ⟨b, o, none⟩ ∧ b < w.heap.size ∧ cs.length = n ∧ ∀ i, i < n → w.cell? ⟨b, o + i, none⟩ = cs[i]? := by
  obtain ⟨hb, hl, hc⟩ := World.cells?_some h
  obtain ⟨b, o, spot⟩ := a
  have h0 := hc 0 (by omega)
  rw [List.getElem?_eq_getElem (by omega : 0 < cs.length)] at h0
  obtain rfl : spot = none := by simpa [Addr.add] using World.cell?_spot h0
  refine ⟨b, o, rfl, World.cells?_block h hn, hl, fun i hi => ?_⟩
  have := hc i (by omega)
  rwa [addr_add] at this
theorem spot_none {base n c : Nat} {a : Addr} {cs : List Value} (h : w.cells? base (a.add (0 * c)) n = some cs) (hn : 0 < n) : ∃ b o, a = ⟨b, o, none⟩ := by
  obtain ⟨b, o, he, _⟩ := cells_at h hn
  refine ⟨b, o, ?_⟩
  rw [← he, Nat.zero_mul]
  simp [Addr.add]
theorem open_bytes {t : TypeId} {v : Value} {x : DataW H × List MemPlace} (ht : Tryd.prog.underlying t = some (.slice 5)) (h0 : 0 < w.heap.size) (h : DataW.trod enc Tryd.prog w 0 spare held fuel t [v] = some x) :
    ∃ B bs, B < w.heap.size ∧ Rd .u8 w v B bs ∧ U8 bs := by
  have c5 : Tryd.prog.cellsOf 5 = 1 := by kernel_rfl
  rcases DataW.trod_slice ht h with ⟨hv, _⟩ | ⟨a, len, cap, elems, rest, n, rfl, hv, _, _, hc1, hc2, hlen, hel, _⟩
  · obtain rfl : v = .slice none 0 0 := by simpa using hv
    exact ⟨0, [], h0, Rd.nil _ _ _, fun x hx => by simp at hx⟩
  · obtain rfl : v = .slice (some a) len cap := by simpa using hv
    by_cases hz : len = 0
    · subst hz
      exact ⟨0, [], h0, .inl ⟨_, cap, rfl, hc2, rfl⟩, fun x hx => by simp at hx⟩
    obtain ⟨b, o, rfl⟩ : ∃ b o, a = ⟨b, o, none⟩ := by
      have h1 := hel 0 (by omega)
      rw [c5, List.getElem?_eq_getElem (by omega), Option.bind_eq_some_iff] at h1
      obtain ⟨cs, h2, _⟩ := h1
      exact spot_none h2 (by omega)
    have key : ∀ i, i < len → ∃ k : Int, b < w.heap.size ∧ w.cell? ⟨b, o + i, none⟩ = some (.int .u8 k) ∧ 0 ≤ k ∧ k < 256 := by
      intro i hi
      have h1 := hel i hi
      rw [c5, List.getElem?_eq_getElem (by omega), Option.bind_eq_some_iff] at h1
      obtain ⟨cs, h2, h3⟩ := h1
      obtain ⟨k, rfl, _, hw⟩ := DataW.trod_int Tryd.underlying5 h3
      obtain ⟨kk, rfl, hk⟩ := wf_u8 hw
      obtain ⟨b', o', he, hlt, _, hc⟩ := cells_at h2 (by omega)
      rw [addr_add] at he
      obtain ⟨rfl, rfl⟩ : b' = b ∧ o' = o + i * 1 := by injection he with e1 e2; exact ⟨e1.symm, e2.symm⟩
      exact ⟨kk, hlt, by simpa [Nat.mul_one] using hc 0 (by omega), by omega, by omega⟩
    · obtain ⟨_, hlt, _⟩ := key 0 (by omega)
      let bs : List Int := (List.range len).map fun i => match w.cell? ⟨b, o + i, none⟩ with | some (.int _ k) => k | _ => 0
      have hbs : bs.length = len := by simp [bs]
      have hget : ∀ i, i < len → w.cell? ⟨b, o + i, none⟩ = some (.int .u8 (bs.getD i 0)) ∧ 0 ≤ bs.getD i 0 ∧ bs.getD i 0 < 256 := by
        intro i hi
        obtain ⟨k, _, hc, h1, h2⟩ := key i hi
        have : bs.getD i 0 = k := by
          rw [getD_lt _ _ (by omega)]
          simp [bs, hc]
        rw [this]
        exact ⟨hc, h1, h2⟩
      refine ⟨b, bs, hlt, .inr ⟨o, cap, by rw [hbs], by omega, hc2, fun i hi => (hget i (by omega)).1⟩, fun x hx => ?_⟩
      obtain ⟨i, hi, rfl⟩ := List.mem_iff_getElem.1 hx
      have := (hget i (by omega)).2
      rwa [getD_lt _ _ hi] at this
theorem open_nums {v : Value} {x : DataW H × List MemPlace} (h0 : 0 < w.heap.size) (h : DataW.trod enc Tryd.prog w 0 spare held fuel 54 [v] = some x) :
    ∃ B ls, B < w.heap.size ∧ Rd .i64 w v B ls := by
  have ht : Tryd.prog.underlying 54 = some (.slice 3) := Tryd.underlying54
  have c3 : Tryd.prog.cellsOf 3 = 1 := by kernel_rfl
  rcases DataW.trod_slice ht h with ⟨hv, _⟩ | ⟨a, len, cap, elems, rest, n, rfl, hv, _, _, hc1, hc2, hlen, hel, _⟩
  · obtain rfl : v = .slice none 0 0 := by simpa using hv
    exact ⟨0, [], h0, Rd.nil _ _ _⟩
  · obtain rfl : v = .slice (some a) len cap := by simpa using hv
    by_cases hz : len = 0
    · subst hz
      exact ⟨0, [], h0, .inl ⟨_, cap, rfl, hc2, rfl⟩⟩
    obtain ⟨b, o, rfl⟩ : ∃ b o, a = ⟨b, o, none⟩ := by
      have h1 := hel 0 (by omega)
      rw [c3, List.getElem?_eq_getElem (by omega), Option.bind_eq_some_iff] at h1
      obtain ⟨cs, h2, _⟩ := h1
      exact spot_none h2 (by omega)
    have key : ∀ i, i < len → ∃ k : Int, b < w.heap.size ∧ w.cell? ⟨b, o + i, none⟩ = some (.int .i64 k) := by
      intro i hi
      have h1 := hel i hi
      rw [c3, List.getElem?_eq_getElem (by omega), Option.bind_eq_some_iff] at h1
      obtain ⟨cs, h2, h3⟩ := h1
      obtain ⟨k, rfl, _, hw⟩ := DataW.trod_int Tryd.underlying3 h3
      obtain ⟨b', o', he, hlt, _, hc⟩ := cells_at h2 (by omega)
      rw [addr_add] at he
      obtain ⟨rfl, rfl⟩ : b' = b ∧ o' = o + i * 1 := by injection he with e1 e2; exact ⟨e1.symm, e2.symm⟩
      exact ⟨k, hlt, by simpa [Nat.mul_one] using hc 0 (by omega)⟩
    obtain ⟨_, hlt, _⟩ := key 0 (by omega)
    let ls : List Int := (List.range len).map fun i => match w.cell? ⟨b, o + i, none⟩ with | some (.int _ k) => k | _ => 0
    have hls : ls.length = len := by simp [ls]
    refine ⟨b, ls, hlt, .inr ⟨o, cap, by rw [hls], by omega, hc2, fun i hi => ?_⟩⟩
    obtain ⟨k, _, hc⟩ := key i (by omega)
    have : ls.getD i 0 = k := by
      rw [getD_lt _ _ hi]
      simp [ls, hc]
    rw [this]
    exact hc
theorem wf_i64 {n : Int} (h : (Lit.int .i64 n).wf = true) : -9223372036854775808 ≤ n ∧ n ≤ 9223372036854775807 := by
  have h1 : IntKind.i64.min = -9223372036854775808 := by decide
  have h2 : IntKind.i64.max = 9223372036854775807 := by decide
  simpa [Lit.wf, h1, h2] using h
set_option maxRecDepth 100000 in
/-- The cells of a list of acts. -/
theorem open_acts {v : Value} {x : DataW H × List MemPlace} (h0 : 0 < w.heap.size) (h : DataW.trod enc Tryd.prog w 0 spare held fuel 49 [v] = some x) : ∃ l, ActsAt w w.heap.size v l := by
  have cA : Tryd.prog.cellsOf 53 = 3 := by kernel_rfl
  have ci : Tryd.prog.cellsOf 3 = 1 := by kernel_rfl
  have cb : Tryd.prog.cellsOf 43 = 1 := by kernel_rfl
  rcases DataW.trod_slice Tryd.underlying49 h with ⟨hv, _⟩ | ⟨a, len, cap, elems, rest, n, rfl, hv, _, _, hc1, hc2, hlen, hel, _⟩
  · obtain rfl : v = .slice none 0 0 := by simpa using hv
    exact ⟨[], none, 0, rfl, Nat.le_refl _, Nat.zero_le _, fun i x hx => by simp at hx⟩
  · obtain rfl : v = .slice (some a) len cap := by simpa using hv
    by_cases hz : len = 0
    · subst hz
      exact ⟨[], _, cap, rfl, Nat.zero_le _, hc2, fun i x hx => by simp at hx⟩
    obtain ⟨b, o, rfl⟩ : ∃ b o, a = ⟨b, o, none⟩ := by
      have h1 := hel 0 (by omega)
      rw [cA, List.getElem?_eq_getElem (by omega), Option.bind_eq_some_iff] at h1
      obtain ⟨cs, h2, _⟩ := h1
      exact spot_none h2 (by omega)
    have key : ∀ i, i < len → ∃ x : GAct, ∃ bv B, b < w.heap.size ∧ B < w.heap.size ∧ w.cell? ⟨b, o + i * 3, none⟩ = some (.int .i64 x.kind) ∧ w.cell? ⟨b, o + i * 3 + 1, none⟩ = some (.int .i64 x.at_) ∧ w.cell? ⟨b, o + i * 3 + 2, none⟩ = some bv ∧ Rd .u8 w bv B x.bs ∧ U8 x.bs := by
      intro i hi
      have h1 := hel i hi
      rw [cA, List.getElem?_eq_getElem (by omega), Option.bind_eq_some_iff] at h1
      obtain ⟨cs, h2, h3⟩ := h1
      obtain ⟨b', o', he, hlt, hl, hc⟩ := cells_at h2 (by omega)
      rw [addr_add] at he
      obtain ⟨rfl, rfl⟩ : b' = b ∧ o' = o + i * 3 := by injection he with e1 e2; exact ⟨e1.symm, e2.symm⟩
      obtain ⟨xs, m, rfl, _, _, hx, hf⟩ := DataW.trod_struct Tryd.underlying53 h3
      have f0 : DataW.trod enc Tryd.prog w 0 spare held m 3 ((cs.drop 0).take (Tryd.prog.cellsOf 3)) = xs[0]? := hf 0 _ rfl
      have f1 : DataW.trod enc Tryd.prog w 0 spare held m 3 ((cs.drop 1).take (Tryd.prog.cellsOf 3)) = xs[1]? := hf 1 _ rfl
      have f2 : DataW.trod enc Tryd.prog w 0 spare held m 43 ((cs.drop 2).take (Tryd.prog.cellsOf 43)) = xs[2]? := hf 2 _ rfl
      rw [ci, List.getElem?_eq_getElem (by rw [hx]; decide)] at f0 f1
      rw [cb, List.getElem?_eq_getElem (by rw [hx]; decide)] at f2
      obtain ⟨c0, c1, c2, rfl⟩ : ∃ c0 c1 c2, cs = [c0, c1, c2] := by
        match cs, hl with
        | [c0, c1, c2], _ => exact ⟨c0, c1, c2, rfl⟩
      obtain ⟨k, e0, _, hw0⟩ := DataW.trod_int Tryd.underlying3 f0
      obtain ⟨t, e1, _, hw1⟩ := DataW.trod_int Tryd.underlying3 f1
      obtain ⟨B, bs, hB, hR, hU⟩ := open_bytes Tryd.underlying43 h0 f2
      obtain rfl : c0 = .int .i64 k := by simpa using e0
      obtain rfl : c1 = .int .i64 t := by simpa using e1
      exact ⟨⟨k, t, bs⟩, c2, B, hlt, hB, hc 0 (by omega), hc 1 (by omega), hc 2 (by omega), hR, hU⟩
    · obtain ⟨f, hf⟩ : ∃ f : Nat → GAct, ∀ i, i < len → ∃ bv B, b < w.heap.size ∧ B < w.heap.size ∧ w.cell? ⟨b, o + i * 3, none⟩ = some (.int .i64 (f i).kind) ∧ w.cell? ⟨b, o + i * 3 + 1, none⟩ = some (.int .i64 (f i).at_) ∧ w.cell? ⟨b, o + i * 3 + 2, none⟩ = some bv ∧ Rd .u8 w bv B (f i).bs ∧ U8 (f i).bs := by
        refine ⟨fun i => if h : i < len then (key i h).choose else ⟨0, 0, []⟩, fun i hi => ?_⟩
        simp only [hi, dif_pos]
        exact (key i hi).choose_spec
      refine ⟨(List.range len).map f, some ⟨b, o, none⟩, cap, by simp, by simpa using hc1, hc2, fun i x hx => ?_⟩
      have hi : i < len := by
        have := (List.getElem?_eq_some_iff.1 hx).1
        simpa using this
      obtain rfl : f i = x := by simpa [hi] using hx
      obtain ⟨bv, B, h1, h2, h3⟩ := hf i hi
      exact ⟨b, o, bv, B, rfl, h1, h2, h3⟩
set_option maxRecDepth 100000 in
theorem val_slice {t e : TypeId} {v : Value} {base : Nat} (ht : Tryd.prog.underlying t = some (.slice e)) (h : Value.okWide Tryd.prog w .any base t v) : v.cells.toList = [v] := by
  unfold Value.okWide Cell.okWide Cell.ok at h
  rw [ht] at h
  cases v <;> simp_all [Value.cells]
end
end Go.Proofs.YtfpdikhdfcppeaaDoor
