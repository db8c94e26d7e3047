/- Walk of the law ShadowSafe. -/
import Derived.Test.YtfpdikhdfcppeaaDoorM5
import Derived.Test.YtfpdikhdfcppeaaDoorD3

namespace Go.Proofs.YtfpdikhdfcppeaaDoor
open Go.RowKit Go.Proofs

theorem Rd.part {k : IntKind} {w : World} {B l h o cap : Nat} {ls : List Int} (hr : Rd k w (.slice (some ⟨B, o, none⟩) ls.length cap) B ls) (h1 : l ≤ h) (h2 : h ≤ ls.length) (hlt : l < cap) :
    Rd k w (.slice (some ⟨B, o + l, none⟩) (h - l) (cap - l)) B ((ls.drop l).take (h - l)) := by
  have hd := hr.drop (n := l) (by omega)
  rw [if_neg (by omega)] at hd
  rcases hr with ⟨a, cap', hv, hc, rfl⟩ | ⟨o', cap', hv, h3, h4, h5⟩
  · injection hv with e1 e2 e3
    simp at h2
    obtain rfl : l = 0 := by omega
    subst h2
    exact .inl ⟨_, _, rfl, by omega, rfl⟩
  · injection hv with ha _ hc
    injection ha with ha
    injection ha with _ ho _
    subst ho; subst hc
    have hl : ((ls.drop l).take (h - l)).length = h - l := by rw [List.length_take, List.length_drop]; omega
    refine .inr ⟨_, _, by rw [hl], by rw [hl]; omega, by omega, fun i hi => ?_⟩
    rw [hl] at hi
    have := h5 (l + i) (by omega)
    rw [Nat.add_assoc, this]
    simp [List.getD, hi, List.getElem?_take]

section
variable {P : Program}
theorem run_build0 (w : World) (t e : TypeId) (ie : TypeInfo) (hu : P.underlying t = some (.slice e)) (hie : P.info? e = some ie) :
    (Instr.buildSlice t 0 #[]).run P w = .ok (.slice (some ⟨w.heap.size, 0, none⟩) 0 0) (w.alloc (.cells #[] e)) := by
  simp [Instr.buildSlice, run_underlying hu, sizeOf, typeInfo, hie, newRow, Instr.fill]
  simp [Array.range]
theorem wpList_build0 {ops : Array Oper} {rest : List Oper} {o : Oper} {a : Act} {w : World} {Q : Exit → Act → World → Prop} (hg : o.guard = none) (t e : TypeId) (ho : o.op = .buildSlice t 0 #[]) (ie : TypeInfo)
    (hu : P.underlying t = some (.slice e)) (hie : P.info? e = some ie)
    (h : wpList P ops Q rest (a.put o.dst (.slice (some ⟨w.heap.size, 0, none⟩) 0 0)) (w.alloc (.cells #[] e))) : wpList P ops Q (o :: rest) a w :=
  wpList_plain hg fun _ hK => by
    unfold Oper.wp execOp
    simp only [ho, Sem.run_bind, List.map_toArray, List.map_nil, run_build0 w t e ie hu hie, Result.andThen_ok]
    exact hK _ _ h
theorem run_append_none (w : World) (t ty e : TypeId) (i : TypeInfo) (ht : P.underlying t = some (.slice e)) (hi : P.info? e = some i) (a : Option Addr) (n cap : Nat) (hn : n ≤ cap) :
    (Builtin.append_ #[t, t] ty #[.slice a n cap, .slice none 0 0]).run P w = .ok (.slice a n cap) w := by
  cases a <;> simp [Builtin.append_, run_underlying ht, sizeOf, typeInfo, hi, Builtin.lenOf, hn, Builtin.firstCells, storeCells]
/-- append of a row that may be nil. -/
theorem wpList_append_two {w : World} {ops : Array Oper} {rest : List Oper} {o : Oper} {a : Act} {Q : Exit → Act → World → Prop} (hgd : o.guard = none) (s x : Operand) (t : TypeId)
    (ho : o.op = .call { callee := .builtin .append, args := #[s, x], argTypes := #[t, t] })
    (base : Nat) (e : TypeId) (i : TypeInfo) (z : Value) (bytes : Nat) (ht : P.underlying t = some (.slice e)) (hi : P.info? e = some i) (hz : i.zero = some z)
    (hsize : i.size = 1) (hby : i.bytes = bytes) (hzs : z.cells.size = 1)
    (v : Value) (n : Nat) (xs : List Value) (hs : a.eval s = v) (hown : w.ownsRow base e 1 v n xs)
    (vx : Value) (m : Nat) (base2 : Nat) (news : List Value) (hx : a.eval x = vx) (hown2 : w.ownsRow base2 e 1 vx m news) (h1 : ∀ u ∈ news, u.oneCell' = true)
    (h63 : n + m ≤ maxLen) (hbytes : (n + m) * bytes ≤ 140737488355328) (hbase : base ≤ w.heap.size)
    (h : ∀ v' w', w'.ownsRow base e 1 v' (n + m) (xs ++ news) → w.grownBy w' v.ownBlock → wpList P ops Q rest (a.put o.dst v') w') :
    wpList P ops Q (o :: rest) a w := by
  rcases hown2.2 with ⟨rfl, rfl⟩ | ⟨g, cap, cur, rfl, hb, hg, h2, h3, h4, h5⟩
  · have hnil : news = [] := by have := hown2.1; simpa using this
    subst hnil
    refine wpList_plain hgd fun K hK => ?_
    obtain ⟨av, cv, rfl, hcv⟩ : ∃ av cv, v = .slice av n cv ∧ n ≤ cv := by
      rcases hown.2 with ⟨rfl, rfl⟩ | ⟨g, cap, cur, rfl, _, _, h2, _⟩
      · exact ⟨none, 0, rfl, Nat.le_refl _⟩
      · exact ⟨_, cap, rfl, h2⟩
    unfold Oper.wp execOp
    simp only [ho, resolve, invoke, builtin, Sem.run_bind, Sem.run_pure, Result.andThen_ok, List.map_toArray, List.map_cons, List.map_nil, hs, hx, run_append_none w t o.type e i ht hi av n cv hcv]
    refine hK _ _ (h _ _ (by simpa using hown) ⟨rfl, rfl, rfl, Nat.le_refl _, fun _ _ _ => rfl⟩)
  · have hB : Blk w g e cur.toList := by unfold Blk; simpa using hg
    refine wpList_append_own w hgd s x t ho base e i z 1 bytes ht hi hz hsize hby hzs (by decide) v n xs hs hown ⟨g, 0, none⟩ m cap news hx hown2.1 (hown2.cells (g := g) rfl) h1 h63 hbytes hbase fun v' w' q1 q2 _ => h v' w' q1 q2
end
theorem owns_empty (w : World) (e : TypeId) (base : Nat) (hb : base ≤ w.heap.size) : (w.alloc (.cells #[] e)).ownsRow base e 1 (.slice (some ⟨w.heap.size, 0, none⟩) 0 0) 0 [] :=
  ⟨rfl, .inr ⟨w.heap.size, 0, #[], rfl, hb, heap_alloc_new _ _, Nat.le_refl _, Nat.zero_le _, rfl, rfl⟩⟩

/-- The facts of a turn of the loops. -/
structure Turn (w wr : World) (s b c a : Nat) (D : Dev) (M : Nat → Nat) (F : List Nat) : Prop where
  sh : ShAt wr s b c a 16 1 D M F
  keeps : Keeps [] w wr
  fresh : ∀ x ∈ b :: c :: F, w.heap.size ≤ x
theorem Turn.grow {w wr w' : World} {s b c a : Nat} {D D' : Dev} {M M' : Nat → Nat} {F F' : List Nat} (h : Turn w wr s b c a D M F) (h' : ShAt w' s b c a 16 1 D' M' F') (g : Grows wr w' (b :: c :: F) (b :: c :: F')) : Turn w w' s b c a D' M' F' :=
  ⟨h', (fresh_grows h.keeps h.fresh g).1, (fresh_grows h.keeps h.fresh g).2⟩
theorem Turn.same {w wr w' : World} {s b c a : Nat} {D : Dev} {M : Nat → Nat} {F : List Nat} (h : Turn w wr s b c a D M F) (g : Keeps [] wr w') : Turn w w' s b c a D M F :=
  ⟨(h.sh.same g).1, h.keeps.trans g (by simp), h.fresh⟩
/-- A row that lies by the store. -/
structure By (wr : World) (K : List Nat) (e : TypeId) (v : Value) (xs : List Value) : Prop where
  own : wr.ownsRow 0 e 1 v xs.length xs
  off : ∀ g, v.ownBlock = some g → g ∉ K ∧ g < wr.heap.size
theorem By.grow {wr w' : World} {K K' : List Nat} {e : TypeId} {v : Value} {xs : List Value} (h : By wr K e v xs) (g : Grows wr w' K K') : By w' K' e v xs :=
  ⟨ownsRow_keeps h.own g.2 fun k hk => (h.off k hk).1, fun k hk => stay (h.off k hk).1 (h.off k hk).2 g⟩
theorem By.same {wr w' : World} {K : List Nat} {e : TypeId} {v : Value} {xs : List Value} (h : By wr K e v xs) (g : Keeps [] wr w') : By w' K e v xs :=
  ⟨ownsRow_keeps h.own g (by simp), fun k hk => ⟨(h.off k hk).1, Nat.lt_of_lt_of_le (h.off k hk).2 g.size⟩⟩
theorem By.make {w0 wr : World} {K : List Nat} {e : TypeId} {v : Value} {n : Nat} {xs : List Value} (h : wr.ownsRow w0.heap.size e 1 v n xs) (hn : xs.length = n) (hK : ∀ k ∈ K, k < w0.heap.size) : By wr K e v xs := by
  subst hn
  exact ⟨ownsRow_base h (Nat.zero_le _), fun g hg => ⟨fun hm => by have := (ownsRow_block h g hg).1; have := hK g hm; omega, (ownsRow_block h g hg).2⟩⟩
theorem Turn.lt {w wr : World} {s b c a : Nat} {D : Dev} {M : Nat → Nat} {F : List Nat} (h : Turn w wr s b c a D M F) : ∀ k ∈ b :: c :: F, k < wr.heap.size := by
  obtain ⟨q1, q2, q3, q4⟩ := h.sh.lt
  intro x hx
  simp only [List.mem_cons] at hx
  rcases hx with rfl | rfl | hx
  · exact q2
  · exact q3
  · exact q4 x hx
theorem DCell.Ok.crash {c : DCell} (h : c.Ok) (l : List Int) : (c.crash l).Ok := by
  obtain ⟨h1, h2, h3⟩ := h
  have hf : 0 ≤ fateOf c (l.headD 0) := by
    unfold fateOf
    split
    · split <;> omega
    · split <;> omega
  unfold DCell.crash
  split
  · exact ⟨hf, hf, Int.le_refl 0⟩
  · exact ⟨h1, h1, h3⟩
theorem Dev.Ok.crash {D : Dev} (h : D.Ok) (l : List Int) : (D.crash l).Ok := by
  intro d hd
  obtain ⟨j, hj, rfl⟩ := List.mem_iff_getElem.1 hd
  have hlt : j < D.cells.length := by rw [crash_cells_length] at hj; exact hj
  obtain ⟨l', h'⟩ := crashTo_get D.cells l D.cells.length (Nat.le_refl _) j hlt
  have e : (D.crash l).cells[j]? = some ((D.crash l).cells[j]) := List.getElem?_eq_getElem hj
  rw [show (D.crash l).cells[j]? = _ from h', List.getElem?_eq_getElem hlt] at e
  rw [← Option.some.inj e]
  exact (h _ (List.getElem_mem hlt)).crash l'
theorem Rd.of_own_at {k : IntKind} {w : World} {base e g cap n : Nat} {xs : List Int} (h : w.ownsRow base e 1 (.slice (some ⟨g, 0, none⟩) n cap) n (xs.map (Value.int k))) (hn : 0 < n) : Rd k w (.slice (some ⟨g, 0, none⟩) xs.length cap) g xs := by
  obtain ⟨hl, B, _, hr⟩ := Rd.of_owns h
  subst hl
  rcases id hr with ⟨a, cap', hv, hc, rfl⟩ | ⟨o', cap', hv, h3, h4, h5⟩
  · simp at hn
  · injection hv with ha _ _
    injection ha with ha
    injection ha with hB _ _
    subst hB
    exact hr
theorem part_run {g cap : Nat} {w : World} {bs : List Int} (h : w.ownsRow 0 5 1 (.slice (some ⟨g, 0, none⟩) 1024 cap) 1024 (u8s bs)) (hcap : 1024 ≤ cap) (j : Nat) (hj : j < 16) :
    (∀ W : World, (Instr.slice 43 (.slice (some ⟨g, 0, none⟩) 1024 cap) (some (.int .i64 (64 * j))) (some (.int .i64 (64 * j + 64))) none).run Tryd.prog W = .ok (.slice (some ⟨g, 64 * j, none⟩) 64 (cap - 64 * j)) W) ∧
    ∀ nq, (convert 43 9 (.slice (some ⟨g, 64 * j, none⟩) 64 (cap - 64 * j))).run Tryd.prog (w.drewN nq) = .ok (.string (strOfNums ((bs.drop (64 * j)).take 64))) (w.drewN nq) := by
  obtain ⟨i8, hi8, _, hz8, _⟩ := info_parts info_u8
  have hr := Rd.of_own_at (k := .u8) (xs := bs) h (by omega)
  have hl : bs.length = 1024 := by have := h.1; simpa [u8s] using this
  have hp := hr.part (l := 64 * j) (h := 64 * j + 64) (by omega) (by omega) (by omega)
  rw [show 64 * j + 64 - 64 * j = 64 by omega, Nat.zero_add] at hp
  refine ⟨fun W => ?_, fun nq => run_str (P := Tryd.prog) (w := w.drewN nq) Tryd.underlying43 Tryd.underlying5 Tryd.underlying9 (by exact hp)⟩
  have := run_slice_part (P := Tryd.prog) Tryd.underlying43 hi8 hz8 .i64 .i64 (64 * j) (64 * j + 64) 1024 cap g 0 (by omega) (by omega) W
  rw [if_neg (by omega), show 64 * j + 64 - 64 * j = 64 by omega, Nat.zero_add, Nat.mul_one] at this
  push_cast at this
  exact this
/-- The list of what works. -/
theorem list_facts (M : Nat → Nat) : ∃ L : List Int, ups 16 (M 3) = L ∧ L.length ≤ 16 ∧ ∀ x ∈ L, ∃ j : Nat, x = j ∧ j < 16 ∧ (M 3).testBit j = true := by
  refine ⟨_, rfl, ?_, fun x hx => ?_⟩
  · unfold ups bitsUp; rw [List.length_map]; exact Nat.le_trans (List.length_filter_le _ _) (by simp)
  · unfold ups bitsUp at hx
    simp only [List.mem_map, List.mem_filter, List.mem_range] at hx
    obtain ⟨j, ⟨h1, h2⟩, rfl⟩ := hx
    exact ⟨j, rfl, h1, h2⟩

set_option maxRecDepth 100000 in
set_option maxHeartbeats 8000000 in
theorem shadowSafe_walk (v1 v2 v3 : Value) (l1 l2 : List GAct) (l3 : List Int) (B3 : Nat) (w : World) (hT : Tab w) (A1 : ActsAt w w.heap.size v1 l1) (A2 : ActsAt w w.heap.size v2 l2) (R3 : Rd .i64 w v3 B3 l3) (hB3 : B3 < w.heap.size) :
    Calls Tryd.prog 6 #[v1, v2, v3] w fun e w' => e = .returned (.bool true) ∧ Keeps [] w w' := by
  obtain ⟨a1, cap1, rfl, hc1, hm1, _⟩ := id A1
  obtain ⟨a2, cap2, rfl, hc2, hm2, _⟩ := id A2
  obtain ⟨a3, cap3, rfl, hc3, hm3⟩ := id R3.shape
  have h0 : 0 < w.heap.size := hT.1
  have HA1 := Lib.hid A1
  have HA2 := Lib.hid A2
  have HR3 := Lib.hid R3
  unfold maxLen at hm1 hm2 hm3
  clear A1 A2 R3
  by_cases hs : smallB l1 20 = true ∧ smallB l2 30 = true ∧ l3.length ≤ 40
  · obtain ⟨hs1, hs2, hs3⟩ := hs
    have HS1 := Lib.hid hs1
    have HS2 := Lib.hid hs2
    clear hs1 hs2
    go_enter Tryd.func6, Tryd.ntmps6
    go_wp2_with fail
    refine (awake_calls w hT).mono ?_
    rintro e w1 ⟨rfl, hK1⟩
    have B1 := HA1.out.keeps hK1 (by simp) (Nat.le_refl _)
    have B2 := HA2.out.keeps hK1 (by simp) (Nat.le_refl _)
    have hsm1 := small_calls w.heap.size _ l1 20 w1 B1
    have hsm2 := small_calls w.heap.size _ l2 30 w1 B2
    rw [HS1.out] at hsm1
    rw [HS2.out] at hsm2
    have HM1 := Lib.hid hsm1
    have HM2 := Lib.hid hsm2
    clear hsm1 hsm2 B1 B2
    go_wp2_with fail
    refine HM1.out.mono ?_
    rintro e w2 ⟨rfl, rfl⟩
    go_wp2_with fail
    refine HM2.out.mono ?_
    rintro e w2 ⟨rfl, rfl⟩
    clear HM1 HM2
    go_wp2_with fail
    refine (made_calls 16 1 w1 (hT.keeps hK1 (by simp)) (by omega)).mono ?_
    rintro e w2 ⟨s, b, c, a, F, rfl, hSh0, hK2, hnew⟩
    have hSh : ShAt w2 s b c a 16 1 (Dev.new 128) (madeM 16) F := hSh0
    have HT2 : Hid (Turn w w2 s b c a (Dev.new 128) (madeM 16) F) := ⟨hSh, hK1.trans hK2 (by simp), fun x hx => by have := hnew x (List.mem_cons_of_mem _ hx); have := hK1.size; omega⟩
    clear hSh0 hSh hnew hK1 hK2
    go_wp2
    go_loopw [10] (fun t wr => ∃ (k : Nat) (D : Dev) (M : Nat → Nat) (F' : List Nat), k ≤ l1.length ∧ t = .int .i64 k ∧ Inv 16 D ∧ D.Calm ∧ Turn w wr s b c a D M F') (fun t _ => l1.length - (intOf t).toNat)
    case atStart => exact ⟨0, _, _, F, by omega, rfl, Inv.new 16, Dev.Calm.new _, HT2.out⟩
    case round =>
      obtain ⟨k, D, M, F1, hk, rfl, hI, hC, hTn⟩ := hrel
      have HI := Lib.hid hI
      have HC := Lib.hid hC
      have HTn := Lib.hid hTn
      clear hI hC hTn HT2
      by_cases hlt : k < l1.length
      · obtain ⟨_, cap1', he1, _, _, hel⟩ := HA1.out.keeps HTn.out.keeps (by simp) (Nat.le_refl _)
        obtain ⟨rfl, rfl⟩ : _ = a1 ∧ cap1' = cap1 := by injection he1 with h1 h2 h3; exact ⟨h1.symm, h3.symm⟩
        obtain ⟨x, hx⟩ : ∃ x, l1[k]? = some x := ⟨_, List.getElem?_eq_getElem hlt⟩
        obtain ⟨bb, o, bv, B, rfl, _, hBN, c0, c1, c2, hr, hu⟩ := hel k x hx
        have hd := do_calls s b c a 16 1 D M F1 wr x bv B HTn.out.sh hr hu (fun h => by have := HTn.out.fresh B h; omega)
        have HD := Lib.hid hd
        clear hel hx hr hu hd he1
        go_wp2_with fail
        refine HD.out.mono ?_
        rintro e w3 ⟨F3, rfl, h3, g3⟩
        have HT3 := Lib.hid (HTn.out.grow h3 g3)
        have HDid := Lib.hid (doAct_did (r := 1) HI.out (by omega) x (M := M))
        clear h3 g3
        go_wp2
        go_roundw
        case rel => exact ⟨k + 1, _, _, F3, by omega, by go_num, doAct_inv HI.out (by omega) x, HDid.out.calm HI.out HC.out, HT3.out⟩
        case measure => simp [intOf]; omega
      · go_wp2_with fail
        refine (shSure_calls s b c a 16 1 D M F1 wr HTn.out.sh).mono ?_
        rintro e w3 ⟨rfl, h3, g3⟩
        have HT3 := Lib.hid (HTn.out.grow h3 g3)
        clear h3 g3 HTn
        go_wp2_with fail
        refine (works_calls a 16 1 M F1 w3 HT3.out.sh.alc HT3.out.sh.tab).mono ?_
        rintro e w4 ⟨p1, q1, rfl, hS4, hK4, _, _⟩
        go_wp2_with fail
        refine (list_calls p1 q1 16 _ w4 hS4 (HT3.out.sh.tab.keeps hK4 (by simp))).mono ?_
        rintro e w5 ⟨u1, rfl, hO5, hK5⟩
        obtain ⟨L1, hL1, hL1l, hL1m⟩ := list_facts M
        change w5.ownsRow w4.heap.size 3 1 u1 (ups 16 (M 3)).length (i64s (ups 16 (M 3))) at hO5
        have HT5 := Lib.hid (HT3.out.same (hK4.trans hK5 (by simp)))
        have HB5 := Lib.hid (By.make hO5 (by simp [i64s]) (K := b :: c :: F1) fun k hk => Nat.lt_of_lt_of_le (HT3.out.lt k hk) hK4.size)
        rw [hL1] at HB5
        have HL1 := Lib.hid hL1
        have HL1m := Lib.hid hL1m
        clear hO5 hS4 hK4 hK5 hL1 hL1m HT3
        go_wp2_with fail
        refine (commit_calls a 16 1 M F1 w5 HT5.out.sh.alc HT5.out.sh.tab).mono ?_
        rintro e w6 ⟨F6, rfl, hA6, hG6⟩
        obtain ⟨h6, g6⟩ := HT5.out.sh.onAlc hA6 hG6
        have HT6 := Lib.hid (HT5.out.grow h6 g6)
        have HB6 := Lib.hid (HB5.out.grow g6)
        have HI6 := Lib.hid HI.out.fence.1
        have HC6 : Hid D.fence.2.Calm := fun j c hc => .inr (HC.out.fence HI.out.1 j c hc)
        clear hA6 hG6 h6 g6 HT5 HB5 HI HC
        go_wp2
        go_loopw [12] (fun t wr => ∃ (k : Nat) (D' : Dev) (M' : Nat → Nat) (F' : List Nat), k ≤ l1.length ∧ t = .int .i64 k ∧ Inv 16 D' ∧ D'.Calm ∧ M' 0 = M 3 ∧ Turn w wr s b c a D' M' F' ∧ By wr (b :: c :: F') 3 u1 (i64s L1)) (fun t _ => l1.length - (intOf t).toNat)
        case atStart => exact ⟨0, _, _, F6, by omega, rfl, HI6.out, HC6.out, rfl, HT6.out, HB6.out⟩
        case round =>
          obtain ⟨k2, D2, M2, F2, hk2, rfl, hI, hC, hM0, hTn, hBy⟩ := hrel
          have HI := Lib.hid hI
          have HC := Lib.hid hC
          have HM0 := Lib.hid hM0
          have HTn := Lib.hid hTn
          have HBy := Lib.hid hBy
          clear hI hC hM0 hTn hBy HT6 HB6 HI6 HC6
          by_cases hlt2 : k2 < l1.length
          · have hjl : l1.length - 1 - k2 < l1.length := by omega
            obtain ⟨_, cap1', he1, _, _, hel⟩ := HA1.out.keeps HTn.out.keeps (by simp) (Nat.le_refl _)
            obtain ⟨rfl, rfl⟩ : _ = a1 ∧ cap1' = cap1 := by injection he1 with h1 h2 h3; exact ⟨h1.symm, h3.symm⟩
            obtain ⟨x, hx⟩ : ∃ x, l1[l1.length - 1 - k2]? = some x := ⟨_, List.getElem?_eq_getElem hjl⟩
            obtain ⟨bb, o, bv, B, rfl, _, hBN, c0, c1, c2, hr, hu⟩ := hel (l1.length - 1 - k2) x hx
            have hd := do_calls s b c a 16 1 D2 M2 F2 wr x bv B HTn.out.sh hr hu (fun h => by have := HTn.out.fresh B h; omega)
            have HD := Lib.hid hd
            clear hel hx hr hu hd he1
            go_wp2_with fail
            refine HD.out.mono ?_
            rintro e w7 ⟨F7, rfl, h7, g7⟩
            have HT7 := Lib.hid (HTn.out.grow h7 g7)
            have HB7 := Lib.hid (HBy.out.grow g7)
            have HDid := Lib.hid (doAct_did (r := 1) HI.out (by omega) x (M := M2))
            clear h7 g7
            go_wp2
            go_roundw
            case rel => exact ⟨k2 + 1, _, _, F7, by omega, by go_num, doAct_inv HI.out (by omega) x, HDid.out.calm HI.out HC.out, HDid.out.sets.1.trans HM0.out, HT7.out, HB7.out⟩
            case measure => simp [intOf]; omega
          · go_wp2_with fail
            refine (shSure_calls s b c a 16 1 D2 M2 F2 wr HTn.out.sh).mono ?_
            rintro e w7 ⟨rfl, h7, g7⟩
            have HT7 := Lib.hid (HTn.out.grow h7 g7)
            have HB7 := Lib.hid (HBy.out.grow g7)
            clear h7 g7 HTn HBy
            go_wp2_with fail
            refine (works_calls a 16 1 M2 F2 w7 HT7.out.sh.alc HT7.out.sh.tab).mono ?_
            rintro e w8 ⟨p2, q2, rfl, hS8, hK8, _, _⟩
            go_wp2_with fail
            refine (list_calls p2 q2 16 _ w8 hS8 (HT7.out.sh.tab.keeps hK8 (by simp))).mono ?_
            rintro e w9 ⟨u2, rfl, hO9, hK9⟩
            obtain ⟨L2, hL2, hL2l, hL2m⟩ := list_facts M2
            change w9.ownsRow w8.heap.size 3 1 u2 (ups 16 (M2 3)).length (i64s (ups 16 (M2 3))) at hO9
            have HT9 := Lib.hid (HT7.out.same (hK8.trans hK9 (by simp)))
            have HB9 := Lib.hid (HB7.out.same (hK8.trans hK9 (by simp)))
            have HC9 := Lib.hid (By.make hO9 (by simp [i64s]) (K := b :: c :: F2) fun k hk => Nat.lt_of_lt_of_le (HT7.out.lt k hk) hK8.size)
            rw [hL2] at HC9
            have HL2 := Lib.hid hL2
            have HL2m := Lib.hid hL2m
            clear hO9 hS8 hK8 hK9 hL2 hL2m HT7 HB7
            go_wp2_with fail
            refine (commit_calls a 16 1 M2 F2 w9 HT9.out.sh.alc HT9.out.sh.tab).mono ?_
            rintro e w10 ⟨F10, rfl, hA10, hG10⟩
            obtain ⟨h10, g10⟩ := HT9.out.sh.onAlc hA10 hG10
            have HT10 := Lib.hid (HT9.out.grow h10 g10)
            have HB10 := Lib.hid (HB9.out.grow g10)
            have HC10 := Lib.hid (HC9.out.grow g10)
            have HI10 := Lib.hid HI.out.fence.1
            have HSh := Lib.hid (HC.out.fence HI.out.1)
            clear hA10 hG10 h10 g10 HT9 HB9 HC9
            go_wp2_with fail
            refine (Image_calls b c _ w10 HT10.out.sh.dev (fun d hd => (HT10.out.sh.ok d hd).1)).mono ?_
            rintro e w11 ⟨uw, rfl, hO11, hK11⟩
            have hlen : D2.fence.2.cells.length * 8 = 1024 := by rw [HI10.out.2]
            rw [hlen] at hO11
            have HT11 := Lib.hid (HT10.out.same hK11)
            have HB11 := Lib.hid (HB10.out.same hK11)
            have HC11 := Lib.hid (HC10.out.same hK11)
            have hl8 : (u8s (bytesOf (D2.fence.2.cells.map DCell.lasts))).length = 1024 := by have := hO11.1; omega
            have HW11 := Lib.hid (By.make hO11 hl8 (K := b :: c :: F10) HT10.out.lt)
            have HL8 := Lib.hid hl8
            clear hO11 hK11 HT10 HB10 HC10 hl8 hlen
            go_wp2
            go_loopw [15] (fun t wr => ∃ (k : Nat) (D' : Dev) (M' : Nat → Nat) (F' : List Nat), k ≤ l2.length ∧ t = .int .i64 k ∧ Safe 16 D2.fence.2 (mCommit M2) D' M' ∧ Turn w wr s b c a D' M' F' ∧ By wr (b :: c :: F') 3 u1 (i64s L1) ∧ By wr (b :: c :: F') 3 u2 (i64s L2) ∧ By wr (b :: c :: F') 5 uw (u8s (bytesOf (D2.fence.2.cells.map DCell.lasts)))) (fun t _ => l2.length - (intOf t).toNat)
            case atStart => exact ⟨0, _, _, F10, by omega, rfl, Safe.start HI10.out, HT11.out, HB11.out, HC11.out, HW11.out⟩
            case round =>
              obtain ⟨k3, D3, M3, F3, hk3, rfl, hSf, hTn, hBy, hCy, hWy⟩ := hrel
              have HSf := Lib.hid hSf
              have HTn := Lib.hid hTn
              have HBy := Lib.hid hBy
              have HCy := Lib.hid hCy
              have HWy := Lib.hid hWy
              clear hSf hTn hBy hCy hWy HT11 HB11 HC11 HW11 HI HC
              by_cases hlt3 : k3 < l2.length
              · obtain ⟨_, cap2', he1, _, _, hel⟩ := HA2.out.keeps HTn.out.keeps (by simp) (Nat.le_refl _)
                obtain ⟨rfl, rfl⟩ : _ = a2 ∧ cap2' = cap2 := by injection he1 with h1 h2 h3; exact ⟨h1.symm, h3.symm⟩
                obtain ⟨x, hx⟩ : ∃ x, l2[k3]? = some x := ⟨_, List.getElem?_eq_getElem hlt3⟩
                obtain ⟨bb, o, bv, B, rfl, _, hBN, c0, c1, c2, hr, hu⟩ := hel k3 x hx
                have hd := do_calls s b c a 16 1 D3 M3 F3 wr x bv B HTn.out.sh hr hu (fun h => by have := HTn.out.fresh B h; omega)
                have HD := Lib.hid hd
                clear hel hx hr hu hd he1
                go_wp2_with fail
                refine HD.out.mono ?_
                rintro e w12 ⟨F12, rfl, h12, g12⟩
                have HT12 := Lib.hid (HTn.out.grow h12 g12)
                have HB12 := Lib.hid (HBy.out.grow g12)
                have HC12 := Lib.hid (HCy.out.grow g12)
                have HW12 := Lib.hid (HWy.out.grow g12)
                have HDid := Lib.hid (doAct_did (r := 1) HSf.out.inv (by omega) x (M := M3))
                clear h12 g12
                go_wp2
                go_roundw
                case rel => exact ⟨k3 + 1, _, _, F12, by omega, by go_num, HSf.out.did HSh.out HDid.out, HT12.out, HB12.out, HC12.out, HW12.out⟩
                case measure => simp [intOf]; omega
              · have hcr := crash_calls b c B3 D3 _ l3 wr HTn.out.sh.dev (HR3.out.keeps HTn.out.keeps (by simp)) (fun e => by have := HTn.out.fresh b (by simp); omega) (fun e => by have := HTn.out.fresh c (by simp); omega)
                have HCr := Lib.hid hcr
                clear hcr
                go_wp2_with fail
                refine HCr.out.mono ?_
                rintro e w12 ⟨rfl, hD12, hK12⟩
                obtain ⟨h12, g12⟩ := HTn.out.sh.onDev hD12 hK12 (HTn.out.sh.ok.crash l3)
                have HT12 := Lib.hid (HTn.out.grow h12 g12)
                have HB12 := Lib.hid (HBy.out.grow g12)
                have HC12 := Lib.hid (HCy.out.grow g12)
                have HW12 := Lib.hid (HWy.out.grow g12)
                clear h12 g12 hD12 hK12 HTn HBy HCy HWy
                go_wp2_with fail
                refine (Image_calls b c _ w12 HT12.out.sh.dev (fun d hd => (HT12.out.sh.ok d hd).1)).mono ?_
                rintro e w13 ⟨un, rfl, hO13, hK13⟩
                have hlen : (D3.crash l3).cells.length * 8 = 1024 := by rw [crash_cells_length, HSf.out.inv.2]
                rw [hlen] at hO13
                have HT13 := Lib.hid (HT12.out.keeps.trans hK13 (by simp))
                have HB13 := Lib.hid (HB12.out.same hK13).own
                have HC13 := Lib.hid (HC12.out.same hK13).own
                have hW13 := (HW12.out.same hK13).own
                rw [HL8.out] at hW13
                obtain ⟨gw, capw, rfl, _, hcw1, hcw2, _⟩ := ownsRow_some hW13 (fun e => by
                  subst e
                  rcases hW13.2 with ⟨_, h⟩ | ⟨_, _, _, h, _⟩
                  · cases h
                  · cases h)
                obtain ⟨gn, capn, rfl, _, hcn1, hcn2, _⟩ := ownsRow_some hO13 (fun e => by
                  subst e
                  rcases hO13.2 with ⟨_, h⟩ | ⟨_, _, _, h, _⟩
                  · cases h
                  · cases h)
                have hN8 : (u8s (bytesOf ((D3.crash l3).cells.map DCell.lasts))).length = 1024 := by have := hO13.1; omega
                have HW13 := Lib.hid hW13
                have HN13 := Lib.hid hO13
                have HN8 := Lib.hid hN8
                clear hlen hW13 hO13 hN8 hK13 HB12 HC12 HW12 HT12
                obtain ⟨i0, hi, hz0, hz1, hz2⟩ := info_parts info_int
                have hg0 : Keeps [] w13 (w13.alloc (.cells #[] 3)) := (Keeps.refl _ _).alloc _
                go_wp2_with (at_builtin; refine wpList_append_two rfl _ _ 54 rfl w13.heap.size 3 i0 (.int .i64 0) 8 Tryd.underlying54 hi hz0 hz1 hz2 rfl _ 0 [] rfl (owns_empty w13 3 w13.heap.size (Nat.le_refl _)) _ _ 0 (i64s L1) rfl (ownsRow_keeps HB13.out hg0 (by simp)) ?d1 ?d2 ?d3 ?d4 ?_)
                case d1 => intro u hu; unfold i64s at hu; obtain ⟨y, _, rfl⟩ := List.mem_map.1 hu; rfl
                case d2 => simp only [i64s, List.length_map]; unfold maxLen; omega
                case d3 => simp only [i64s, List.length_map]; omega
                case d4 => simp only [World.size_alloc]; omega
                intro vk w14 hO14 hG14
                have hk14 : Keeps [] w13 w14 := hg0.grown hG14 fun g hg hlt3 => by
                  obtain rfl : w13.heap.size = g := by simpa [Value.ownBlock] using hg
                  omega
                have HK14 := Lib.hid hk14
                have HO14 := Lib.hid hO14
                clear hG14 hO14 hk14 hg0
                go_wp2_with (at_builtin; refine wpList_append_two rfl _ _ 54 rfl w13.heap.size 3 i0 (.int .i64 0) 8 Tryd.underlying54 hi hz0 hz1 hz2 rfl _ _ _ rfl HO14.out _ _ 0 (i64s L2) rfl (ownsRow_keeps HC13.out HK14.out (by simp)) ?f1 ?f2 ?f3 ?f4 ?_)
                case f1 => intro u hu; unfold i64s at hu; obtain ⟨y, _, rfl⟩ := List.mem_map.1 hu; rfl
                case f2 => simp only [i64s, List.length_map]; unfold maxLen; omega
                case f3 => simp only [i64s, List.length_map]; omega
                case f4 => exact HK14.out.size
                intro vk2 w15 hO15 hG15
                have hk15 : Keeps [] w13 w15 := HK14.out.grown hG15 fun g hg hlt3 => by
                  have := (ownsRow_block HO14.out g hg).1
                  omega
                have hO15' : w15.ownsRow w13.heap.size 3 1 vk2 (L1 ++ L2).length (i64s (L1 ++ L2)) := by
                  have e1 : (L1 ++ L2).length = 0 + (i64s L1).length + (i64s L2).length := by simp [i64s]
                  have e2 : i64s (L1 ++ L2) = [] ++ i64s L1 ++ i64s L2 := by simp [i64s]
                  rw [e1, e2]
                  simpa using hO15
                obtain ⟨LL, hLL⟩ : ∃ LL, L1 ++ L2 = LL := ⟨_, rfl⟩
                rw [hLL] at hO15'
                have hmem : ∀ x ∈ LL, ∃ j : Nat, x = j ∧ j < 16 ∧ ((mCommit M2 0).testBit j = true ∨ (mCommit M2 1).testBit j = true) := by
                  intro x hx
                  rw [← hLL] at hx
                  rcases List.mem_append.1 hx with hx | hx
                  · obtain ⟨j, e, h1, h2⟩ := HL1m.out x hx
                    exact ⟨j, e, h1, .inr (by show (M2 0).testBit j = true; rw [HM0.out]; exact h2)⟩
                  · obtain ⟨j, e, h1, h2⟩ := HL2m.out x hx
                    exact ⟨j, e, h1, .inl h2⟩
                have hLLl : LL.length ≤ 32 := by rw [← hLL, List.length_append]; omega
                obtain ⟨_, Bk, _, _, hRk⟩ := Rd.of_owns2 hO15' (by have := HT13.out.size; have := hk15.size; omega)
                obtain ⟨ka, kcap, rfl, hkc, hkm⟩ := hRk.shape
                unfold maxLen at hkm
                have HRk := Lib.hid hRk
                have HMem := Lib.hid hmem
                have HW15 := Lib.hid (ownsRow_keeps HW13.out hk15 (by simp))
                have HN15 := Lib.hid (ownsRow_keeps HN13.out hk15 (by simp))
                have HT15 := Lib.hid (HT13.out.trans hk15 (by simp))
                clear hO15 hG15 hk15 hO15' hRk hmem hLL HO14 HK14 HW13 HN13 HT13 HL1m HL2m
                go_wp2
                go_loopw [18] (fun t wr => ∃ k : Nat, k ≤ LL.length ∧ t = .int .i64 k ∧ Keeps [] w15 wr) (fun t _ => LL.length - (intOf t).toNat)
                case atStart => exact ⟨0, by omega, rfl, Keeps.refl _ _⟩
                case round =>
                  obtain ⟨k9, hk9, rfl, hK16⟩ := hrel
                  have HK16 := Lib.hid hK16
                  clear hK16
                  by_cases hlt9 : k9 < LL.length
                  · obtain ⟨lo, lc2, hv, c0⟩ := (HRk.out.keeps HK16.out (by simp)).get hlt9
                    obtain ⟨rfl, rfl⟩ : ka = some ⟨Bk, lo, none⟩ ∧ lc2 = kcap := by injection hv with h1 h2 h3; exact ⟨h1, h3.symm⟩
                    rw [getD_lt _ _ hlt9] at c0
                    obtain ⟨j, hj, hj16, hjb⟩ := HMem.out LL[k9] (List.getElem_mem _)
                    rw [hj] at c0
                    clear hv hj
                    have hOn := ownsRow_keeps HN15.out HK16.out (by simp)
                    have hOw := ownsRow_keeps HW15.out HK16.out (by simp)
                    obtain ⟨sl1, cv1⟩ := part_run (ownsRow_base hOn (Nat.zero_le _)) hcn1 j hj16
                    obtain ⟨sl2, cv2⟩ := part_run (ownsRow_base hOw (Nat.zero_le _)) hcw1 j hj16
                    rw [HSf.out.crash HSh.out HI10.out.2 l3 j hj16 hjb] at cv1
                    obtain ⟨st, hst⟩ : ∃ st, strOfNums (((bytesOf (D2.fence.2.cells.map DCell.lasts)).drop (64 * j)).take 64) = st := ⟨_, rfl⟩
                    simp only [hst] at cv1 cv2
                    have b1 : (0 : Int) ≤ k9 := by omega
                    have b2 : (k9 : Int) < LL.length := by omega
                    have b3 : (0 : Int) ≤ j := by omega
                    have b4 : (j : Int) < 16 := by omega
                    have t1 : decide ((j : Int) < 0) = false := by simp
                    have t2 : decide ((15 : Int) < j) = false := by simp; omega
                    clear hOn hOw hst hjb hj16
                    go_wp2_with fail
                    go_quiet (fail)
                    go_wp2
                    go_roundw
                    case rel => exact ⟨k9 + 1, by omega, by go_num, HK16.out.drewN nq⟩
                    case measure => simp [intOf]; omega
                  · go_wp2
                    go_ret
                    exact ⟨rfl, HT15.out.trans HK16.out (by simp)⟩
  · cases hs1 : smallB l1 20 with
    | false =>
      have HS1 := Lib.hid hs1
      clear hs hs1
      go_enter Tryd.func6, Tryd.ntmps6
      go_wp2_with fail
      refine (awake_calls w hT).mono ?_
      rintro e w1 ⟨rfl, hK1⟩
      have hsm1 := small_calls w.heap.size _ l1 20 w1 (HA1.out.keeps hK1 (by simp) (Nat.le_refl _))
      rw [HS1.out] at hsm1
      have HM1 := Lib.hid hsm1
      have HT1 := Lib.hid (hT.keeps hK1 (by simp))
      have HK1 := Lib.hid hK1
      clear hsm1 hK1
      go_wp2_with fail
      refine HM1.out.mono ?_
      rintro e w2 ⟨rfl, rfl⟩
      go_wp2_with fail
      refine (awake_calls w1 HT1.out).mono ?_
      rintro e w2 ⟨rfl, hK2⟩
      go_wp2
      go_ret
      exact ⟨rfl, HK1.out.trans hK2 (by simp)⟩
    | true =>
    cases hs2 : smallB l2 30 with
    | false =>
      have HS1 := Lib.hid hs1
      have HS2 := Lib.hid hs2
      clear hs hs1 hs2
      go_enter Tryd.func6, Tryd.ntmps6
      go_wp2_with fail
      refine (awake_calls w hT).mono ?_
      rintro e w1 ⟨rfl, hK1⟩
      have hsm1 := small_calls w.heap.size _ l1 20 w1 (HA1.out.keeps hK1 (by simp) (Nat.le_refl _))
      rw [HS1.out] at hsm1
      have HM1 := Lib.hid hsm1
      have hsm2 := small_calls w.heap.size _ l2 30 w1 (HA2.out.keeps hK1 (by simp) (Nat.le_refl _))
      rw [HS2.out] at hsm2
      have HM2 := Lib.hid hsm2
      clear hsm2
      have HT1 := Lib.hid (hT.keeps hK1 (by simp))
      have HK1 := Lib.hid hK1
      clear hsm1 hK1
      go_wp2_with fail
      refine HM1.out.mono ?_
      rintro e w2 ⟨rfl, rfl⟩
      go_wp2_with fail
      refine HM2.out.mono ?_
      rintro e w2 ⟨rfl, rfl⟩
      go_wp2_with fail
      refine (awake_calls w1 HT1.out).mono ?_
      rintro e w2 ⟨rfl, hK2⟩
      go_wp2
      go_ret
      exact ⟨rfl, HK1.out.trans hK2 (by simp)⟩
    | true =>
      have hs3 : 40 < l3.length := by
        rcases Nat.lt_or_ge 40 l3.length with h | h
        · exact h
        · exact absurd ⟨hs1, hs2, h⟩ hs
      have HS1 := Lib.hid hs1
      have HS2 := Lib.hid hs2
      clear hs hs1 hs2
      go_enter Tryd.func6, Tryd.ntmps6
      go_wp2_with fail
      refine (awake_calls w hT).mono ?_
      rintro e w1 ⟨rfl, hK1⟩
      have hsm1 := small_calls w.heap.size _ l1 20 w1 (HA1.out.keeps hK1 (by simp) (Nat.le_refl _))
      rw [HS1.out] at hsm1
      have HM1 := Lib.hid hsm1
      have hsm2 := small_calls w.heap.size _ l2 30 w1 (HA2.out.keeps hK1 (by simp) (Nat.le_refl _))
      rw [HS2.out] at hsm2
      have HM2 := Lib.hid hsm2
      clear hsm2
      have HT1 := Lib.hid (hT.keeps hK1 (by simp))
      have HK1 := Lib.hid hK1
      clear hsm1 hK1
      go_wp2_with fail
      refine HM1.out.mono ?_
      rintro e w2 ⟨rfl, rfl⟩
      go_wp2_with fail
      refine HM2.out.mono ?_
      rintro e w2 ⟨rfl, rfl⟩
      go_wp2_with fail
      refine (awake_calls w1 HT1.out).mono ?_
      rintro e w2 ⟨rfl, hK2⟩
      go_wp2
      go_ret
      exact ⟨rfl, HK1.out.trans hK2 (by simp)⟩
end Go.Proofs.YtfpdikhdfcppeaaDoor
