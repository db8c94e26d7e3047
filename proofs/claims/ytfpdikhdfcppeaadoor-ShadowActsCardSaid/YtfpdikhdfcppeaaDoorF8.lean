/- The reference's lists: Add. -/
import Derived.Test.YtfpdikhdfcppeaaDoorF7
namespace Go.Proofs.YtfpdikhdfcppeaaDoor
open Go.RowKit Go.Proofs

section
variable {P : Program}
theorem run_append_empty (w : World) (t ty e : TypeId) (i : TypeInfo) (ht : P.underlying t = some (.slice e)) (hi : P.info? e = some i) (a : Option Addr) (n cap : Nat) (hn : n ≤ cap) (b : Option Addr) (cb : Nat) :
    (Builtin.append_ #[t, t] ty #[.slice a n cap, .slice b 0 cb]).run P w = .ok (.slice a n cap) w := by
  have hl : ∀ x : Addr, (loadCells x 0).run P w = .ok #[] w := fun x => by simpa using run_loadCells_list (P := P) w x [] (by simp)
  cases a <;> cases b <;> simp [Builtin.append_, run_underlying ht, sizeOf, typeInfo, hi, Builtin.lenOf, hn, Builtin.firstCells, storeCells, hl]
/-- append of what reads as a list (an empty slice may lie anywhere). -/
theorem wpList_append_rd {w : World} {ops : Array Oper} {rest : List Oper} {o : Oper} {a : Act} {Q : Exit → Act → World → Prop} (hgd : o.guard = none) (s x : Operand) (t : TypeId)
    (ho : o.op = .call { callee := .builtin .append, args := #[s, x], argTypes := #[t, t] })
    (base : Nat) (e : TypeId) (i : TypeInfo) (z : Value) (bytes : Nat) (ht : P.underlying t = some (.slice e)) (hi : P.info? e = some i) (hz : i.zero = some z)
    (hsize : i.size = 1) (hby : i.bytes = bytes) (hzs : z.cells.size = 1)
    (v : Value) (n : Nat) (xs : List Value) (hs : a.eval s = v) (hown : w.ownsRow base e 1 v n xs)
    (k : IntKind) (vx : Value) (B : Nat) (ls : List Int) (hx : a.eval x = vx) (hr : Rd k w vx B ls)
    (h63 : n + ls.length ≤ maxLen) (hbytes : (n + ls.length) * bytes ≤ 140737488355328) (hbase : base ≤ w.heap.size)
    (h : ∀ v' w', w'.ownsRow base e 1 v' (n + ls.length) (xs ++ ls.map (Value.int k)) → w.grownBy w' v.ownBlock → wpList P ops Q rest (a.put o.dst v') w') :
    wpList P ops Q (o :: rest) a w := by
  by_cases hl : ls.length = 0
  · obtain rfl := List.length_eq_zero_iff.1 hl
    obtain ⟨ax, cx, rfl, _, _⟩ := hr.shape
    refine wpList_plain hgd fun K hK => ?_
    obtain ⟨av, cv, rfl, hcv⟩ : ∃ av cv, v = .slice av n cv ∧ n ≤ cv := by
      rcases hown.2 with ⟨rfl, rfl⟩ | ⟨g, cap, cur, rfl, _, _, h2, _⟩
      · exact ⟨none, 0, rfl, Nat.le_refl _⟩
      · exact ⟨_, cap, rfl, h2⟩
    unfold Oper.wp execOp
    simp only [ho, resolve, invoke, builtin, Sem.run_bind, Sem.run_pure, Result.andThen_ok, List.map_toArray, List.map_cons, List.map_nil, hs, hx, List.length_nil, run_append_empty w t o.type e i ht hi av n cv hcv ax cx]
    exact hK _ _ (h _ _ (by simpa using hown) ⟨rfl, rfl, rfl, Nat.le_refl _, fun _ _ _ => rfl⟩)
  · rcases hr with ⟨_, _, _, _, rfl⟩ | ⟨o', cap, rfl, h1, h2, h3⟩
    · simp at hl
    · refine wpList_append_own w hgd s x t ho base e i z 1 bytes ht hi hz hsize hby hzs (by decide) v n xs hs hown ⟨B, o', none⟩ ls.length cap (ls.map (Value.int k)) hx (by simp) (fun j u hj => ?_) (fun u hu => by obtain ⟨y, _, rfl⟩ := List.mem_map.1 hu; rfl) h63 hbytes hbase fun v' w' q1 q2 _ => h v' w' q1 q2
      rw [List.getElem?_map] at hj
      cases hlj : ls[j]? with
      | none => rw [hlj] at hj; cases hj
      | some y =>
        rw [hlj] at hj
        obtain ⟨hjl, rfl⟩ := List.getElem?_eq_some_iff.1 hlj
        rw [addr_add, h3 j hjl, getD_lt _ _ hjl]
        exact hj
end
theorem Rd.cutAt {P : Program} {t e : TypeId} (ht : P.underlying t = some (.slice e)) {i : TypeInfo} (hi : P.info? e = some i) (hs : i.size = 1) {k : IntKind} {w : World} {a : Option Addr} {cap B : Nat} {l : List Int} (hr : Rd k w (.slice a l.length cap) B l) (p : Nat) (hp : p ≤ l.length) :
    ∃ vA vB, (∀ W : World, (Instr.slice t (.slice a l.length cap) none (some (.int .i64 p)) none).run P W = .ok vA W) ∧ Rd k w vA B (l.take p) ∧
      (∀ W : World, (Instr.slice t (.slice a l.length cap) (some (.int .i64 p)) none none).run P W = .ok vB W) ∧ Rd k w vB B (l.drop p) := by
  obtain ⟨_, _, hv, hlc, hcm⟩ := hr.shape
  injection hv with _ _ hc
  subst hc
  have he : P.elem t = e := by simp [Program.elem, ht]
  have ht' : P.underlying t = some (.slice (P.elem t)) := by rw [he]; exact ht
  refine ⟨sliced a 0 p cap 1, sliced a p l.length cap 1, fun W => ?_, ?_, fun W => ?_, ?_⟩
  · rw [run_slice_h W t a l.length cap ht' .i64 (p : Int) (by omega) (by omega), he]
    simp [sizeOf, typeInfo, hi, hs]
  · rcases hr with ⟨_, _, hv, hc, rfl⟩ | ⟨o, cap', hv, h1, h2, h3⟩
    · simp at hp; subst hp
      exact .inl ⟨_, _, rfl, by omega, rfl⟩
    · injection hv with ha _ hc
      subst ha; subst hc
      have hl : (l.take p).length = p := by rw [List.length_take]; omega
      refine .inr ⟨o, cap, ?_, by rw [hl]; omega, hcm, fun j hj => ?_⟩
      · rw [hl]
        unfold sliced
        simp [Addr.add]
      · rw [hl] at hj
        rw [h3 j (by omega), getD_lt _ _ (by omega : j < l.length), getD_lt _ _ (by rw [hl]; exact hj)]
        simp
  · rw [run_slice_l W t a l.length cap ht' .i64 (p : Int) (by omega) (by omega), he]
    simp [sizeOf, typeInfo, hi, hs]
  · rcases hr with ⟨_, _, hv, hc, rfl⟩ | ⟨o, cap', hv, h1, h2, h3⟩
    · simp at hp; subst hp
      exact .inl ⟨_, _, rfl, by omega, rfl⟩
    · injection hv with ha _ hc
      subst ha; subst hc
      have hr2 : Rd k w (.slice (some ⟨B, o, none⟩) l.length cap) B l := .inr ⟨o, cap, rfl, h1, h2, h3⟩
      have := hr2.drop hp
      unfold sliced
      simp only [Option.map_some, addr_add, Nat.mul_one]
      split
      · rename_i e; rw [if_pos e] at this; exact this
      · rename_i e; rw [if_neg e] at this; exact this
/-- Behind which place of the first k the number belongs. -/
def posDown (l : List Int) (x : Int) : Nat → Nat
  | 0 => 0
  | k + 1 => if x < l.getD k 0 then posDown l x k else k + 1
theorem posDown_le (l : List Int) (x : Int) (k : Nat) : posDown l x k ≤ k := by
  induction k with
  | zero => exact Nat.le_refl _
  | succ k ih => unfold posDown; split <;> omega
def insAt (l : List Int) (x : Int) : List Int := l.take (posDown l x l.length) ++ [x] ++ l.drop (posDown l x l.length)
def addList (l : List Int) (n x : Int) : List Int := if x < 0 ∨ n ≤ x ∨ l.contains x = true then l else insAt l x

set_option maxRecDepth 100000 in
set_option maxHeartbeats 4000000 in
theorem radd_calls (v : Value) (B : Nat) (l : List Int) (n x : Int) (w : World) (hr : Rd .i64 w v B l) (hl : l.length ≤ 100000) (hB : B < w.heap.size) :
    Calls Tryd.prog 86 #[v, .int .i64 n, .int .i64 x] w fun e w' => Any fun u => Any fun B' => e = .returned u ∧ Rd .i64 w' u B' (addList l n x) ∧ (B' = B ∨ w.heap.size ≤ B') ∧ B' < w'.heap.size ∧ Keeps [] w w' := by
  obtain ⟨va, vcap, rfl, hvc, hvm⟩ := id hr.shape
  unfold maxLen at hvm
  obtain ⟨i0, hi, hz0, hz1, hz2⟩ := info_parts info_int
  have hhas := rhas_calls _ B l x w hr
  have HR := Lib.hid hr
  clear hr
  unfold addList
  by_cases h1 : x < 0
  · rw [if_pos (.inl h1)]
    clear hhas
    go_enter Tryd.func86, Tryd.ntmps86
    go_wp2
    go_ret
    exact Any.mk _ (Any.mk B ⟨rfl, HR.out, .inl rfl, hB, Keeps.refl _ _⟩)
  · by_cases h2 : n ≤ x
    · rw [if_pos (.inr (.inl h2))]
      clear hhas
      go_enter Tryd.func86, Tryd.ntmps86
      go_wp2
      go_ret
      exact Any.mk _ (Any.mk B ⟨rfl, HR.out, .inl rfl, hB, Keeps.refl _ _⟩)
    · cases h3 : l.contains x with
      | true =>
        rw [if_pos (.inr (.inr rfl))]
        rw [h3] at hhas
        have HH := Lib.hid hhas
        clear hhas h3
        go_enter Tryd.func86, Tryd.ntmps86
        go_wp2_with fail
        refine HH.out.mono ?_
        rintro e w1 ⟨rfl, rfl⟩
        go_wp2
        go_ret
        exact Any.mk _ (Any.mk B ⟨rfl, HR.out, .inl rfl, hB, Keeps.refl _ _⟩)
      | false =>
        rw [if_neg (by simp; omega)]
        rw [h3] at hhas
        have HH := Lib.hid hhas
        clear hhas h3
        obtain ⟨P, hP⟩ : ∃ P, posDown l x l.length = P := ⟨_, rfl⟩
        have hPl : P ≤ l.length := by rw [← hP]; exact posDown_le _ _ _
        unfold insAt
        rw [hP]
        have HP := Lib.hid hP
        clear hP
        go_enter Tryd.func86, Tryd.ntmps86
        go_wp2_with fail
        refine HH.out.mono ?_
        rintro e w1 ⟨rfl, rfl⟩
        go_wp2
        go_loopw [7] (fun t wr => ∃ k : Nat, k ≤ l.length ∧ t = .int .i64 k ∧ w = wr ∧ posDown l x k = P) (fun t _ => (intOf t).toNat)
        case atStart => exact ⟨l.length, by omega, rfl, rfl, HP.out⟩
        case round =>
          obtain ⟨k, hk, rfl, rfl, hpos⟩ := hrel
          by_cases hgo : 0 < k ∧ x < l.getD (k - 1) 0
          · obtain ⟨hg1, hg2⟩ := hgo
            obtain ⟨k', rfl⟩ : ∃ k', k = k' + 1 := ⟨k - 1, by omega⟩
            rw [Nat.add_sub_cancel] at hg2
            have hp : posDown l x k' = P := by
              rw [← hpos]
              show _ = if x < l.getD k' 0 then posDown l x k' else k' + 1
              rw [if_pos hg2]
            obtain ⟨lo, lc2, hv, c0⟩ := HR.out.get (i := k') (by omega)
            obtain ⟨rfl, rfl⟩ : va = some ⟨B, lo, none⟩ ∧ lc2 = vcap := by injection hv with h1 h2 h3; exact ⟨h1, h3.symm⟩
            obtain ⟨y, hy⟩ : ∃ y, l.getD k' 0 = y := ⟨_, rfl⟩
            rw [hy] at c0 hg2
            have HPp := Lib.hid hp
            clear hp hpos hy hv
            go_wp2
            go_roundw
            case rel => exact ⟨k', by omega, by go_num, by first | rfl | trivial, HPp.out⟩
            case measure => first | (simp [intOf]; done) | (simp [intOf]; omega)
          · have hkP : k = P := by
              cases k with
              | zero => simpa [posDown] using hpos
              | succ k' =>
                unfold posDown at hpos
                rw [if_neg (fun h => hgo ⟨by omega, by simpa using h⟩)] at hpos
                exact hpos
            subst hkP
            obtain ⟨vA, vB, hcA, hRA, hcB, hRB⟩ := HR.out.cutAt (P := Tryd.prog) Tryd.underlying54 hi hz1 k hk
            have HRA := Lib.hid hRA
            have HRB := Lib.hid hRB
            have hlA : (l.take k).length ≤ 100000 := by rw [List.length_take]; omega
            have hlB : (l.drop k).length ≤ 100000 := by rw [List.length_drop]; omega
            have HMin : Hid (min k l.length = k) := by show _ = _; omega
            have HlA := Lib.hid hlA
            have HlB := Lib.hid hlB
            clear hRA hRB hpos hlA hlB
            obtain ⟨w0, hw0⟩ : ∃ w0 : World, w0 = w := ⟨_, rfl⟩
            rcases Nat.eq_zero_or_pos k with hk0 | hk0
            · have hnk : ¬ (0 < k) := by omega
              clear hgo hk0
              go_wp2_with (at_builtin; refine wpList_append_rd (by rfl) _ _ 54 (by rfl) w.heap.size 3 i0 (.int .i64 0) 8 Tryd.underlying54 hi hz0 hz1 hz2 rfl (.slice none 0 0) 0 [] (by rfl) (World.ownsRow_nil _ _ _ _) .i64 _ B _ (by rfl) HRA.out ?c1 ?c2 ?c3 ?_)
              case c1 => have := HlA.out; unfold maxLen; omega
              case c2 => have := HlA.out; omega
              case c3 => exact Nat.le_refl _
              intro v1 w1 hO1 hG1
              have hK1 : Keeps [] w w1 := (Keeps.refl _ _).grown hG1 fun g hg hlt3 => by cases hg
              have HO1 := Lib.hid hO1
              have HK1 := Lib.hid hK1
              clear hO1 hG1 hK1
              go_wp2_with (at_builtin; refine wpList_append_own _ rfl _ _ 54 rfl w.heap.size 3 i0 (.int .i64 0) 1 8 Tryd.underlying54 hi hz0 hz1 hz2 rfl (by decide) _ _ _ rfl (HO1.out.alloc _) ⟨w1.heap.size, 0, none⟩ 1 1 [.int .i64 x] rfl rfl ?c1 ?c2 ?c3 ?c4 ?c5 ?_)
              case c1 => exact one_cell_new w1 _ _
              case c2 => intro u hu; simp at hu; subst hu; rfl
              case c3 => have := HlA.out; unfold maxLen; omega
              case c4 => have := HlA.out; omega
              case c5 => simp only [World.size_alloc]; have := HK1.out.size; omega
              intro v2 w2 hO2 hG2 hnil
              have hK2 : Keeps [] w w2 := (HK1.out.alloc _).grown hG2 fun g hg hlt3 => by have := (HO1.out.lt g hg).1; omega
              have HO2 := Lib.hid hO2
              have HK2 := Lib.hid hK2
              clear hO2 hG2 hK2 hnil
              go_wp2_with (at_builtin; refine wpList_append_rd (by rfl) _ _ 54 (by rfl) w.heap.size 3 i0 (.int .i64 0) 8 Tryd.underlying54 hi hz0 hz1 hz2 rfl _ _ _ (by rfl) HO2.out .i64 _ B _ (by rfl) (HRB.out.keeps HK2.out (by simp)) ?c1 ?c2 ?c3 ?_)
              case c1 => have := HlA.out; have := HlB.out; unfold maxLen; omega
              case c2 => have := HlA.out; have := HlB.out; omega
              case c3 => exact HK2.out.size
              intro v3 w3 hO3 hG3
              have hK3 : Keeps [] w w3 := HK2.out.grown hG3 fun g hg hlt3 => by have := (HO2.out.lt g hg).1; omega
              have hO3' : w3.ownsRow w.heap.size 3 1 v3 (0 + (l.take k).length + 1 + (l.drop k).length) ((l.take k ++ [x] ++ l.drop k).map (Value.int .i64)) := by
                have h := hO3
                have hm := HMin.out
                simp only [List.length_append, List.length_take, hm] at h ⊢
                simpa using h
              obtain ⟨_, B3, hB3, hR3⟩ := Rd.of_owns hO3'
              have hlt := hR3.lt (by simp only [List.length_append, List.length_singleton]; omega)
              have HR3 := Lib.hid hR3
              have HK3 := Lib.hid hK3
              clear hO3 hG3 hK3 hO3' hR3
              go_wp2
              go_ret
              exact Any.mk _ (Any.mk B3 ⟨rfl, HR3.out, .inr hB3, hlt, HK3.out⟩)
            · obtain ⟨k', rfl⟩ : ∃ k', k = k' + 1 := ⟨k - 1, by omega⟩
              obtain ⟨lo, lc2, hv, c0⟩ := HR.out.get (i := k') (by omega)
              obtain ⟨rfl, rfl⟩ : va = some ⟨B, lo, none⟩ ∧ lc2 = vcap := by injection hv with h1 h2 h3; exact ⟨h1, h3.symm⟩
              obtain ⟨y, hy⟩ : ∃ y, l.getD k' 0 = y := ⟨_, rfl⟩
              have hyx : y ≤ x := Int.not_lt.1 fun h => hgo ⟨by omega, by rw [Nat.add_sub_cancel, hy]; exact h⟩
              rw [hy] at c0
              push_cast at hcA hcB
              clear hgo hy hv hk0
              go_wp2_with (at_builtin; refine wpList_append_rd (by rfl) _ _ 54 (by rfl) w.heap.size 3 i0 (.int .i64 0) 8 Tryd.underlying54 hi hz0 hz1 hz2 rfl (.slice none 0 0) 0 [] (by rfl) (World.ownsRow_nil _ _ _ _) .i64 _ B _ (by rfl) HRA.out ?c1 ?c2 ?c3 ?_)
              case c1 => have := HlA.out; unfold maxLen; omega
              case c2 => have := HlA.out; omega
              case c3 => exact Nat.le_refl _
              intro v1 w1 hO1 hG1
              have hK1 : Keeps [] w w1 := (Keeps.refl _ _).grown hG1 fun g hg hlt3 => by cases hg
              have HO1 := Lib.hid hO1
              have HK1 := Lib.hid hK1
              clear hO1 hG1 hK1
              go_wp2_with (at_builtin; refine wpList_append_own _ rfl _ _ 54 rfl w.heap.size 3 i0 (.int .i64 0) 1 8 Tryd.underlying54 hi hz0 hz1 hz2 rfl (by decide) _ _ _ rfl (HO1.out.alloc _) ⟨w1.heap.size, 0, none⟩ 1 1 [.int .i64 x] rfl rfl ?c1 ?c2 ?c3 ?c4 ?c5 ?_)
              case c1 => exact one_cell_new w1 _ _
              case c2 => intro u hu; simp at hu; subst hu; rfl
              case c3 => have := HlA.out; unfold maxLen; omega
              case c4 => have := HlA.out; omega
              case c5 => simp only [World.size_alloc]; have := HK1.out.size; omega
              intro v2 w2 hO2 hG2 hnil
              have hK2 : Keeps [] w w2 := (HK1.out.alloc _).grown hG2 fun g hg hlt3 => by have := (HO1.out.lt g hg).1; omega
              have HO2 := Lib.hid hO2
              have HK2 := Lib.hid hK2
              clear hO2 hG2 hK2 hnil
              go_wp2_with (at_builtin; refine wpList_append_rd (by rfl) _ _ 54 (by rfl) w.heap.size 3 i0 (.int .i64 0) 8 Tryd.underlying54 hi hz0 hz1 hz2 rfl _ _ _ (by rfl) HO2.out .i64 _ B _ (by rfl) (HRB.out.keeps HK2.out (by simp)) ?c1 ?c2 ?c3 ?_)
              case c1 => have := HlA.out; have := HlB.out; unfold maxLen; omega
              case c2 => have := HlA.out; have := HlB.out; omega
              case c3 => exact HK2.out.size
              intro v3 w3 hO3 hG3
              have hK3 : Keeps [] w w3 := HK2.out.grown hG3 fun g hg hlt3 => by have := (HO2.out.lt g hg).1; omega
              have hO3' : w3.ownsRow w.heap.size 3 1 v3 (0 + (l.take (k' + 1)).length + 1 + (l.drop (k' + 1)).length) ((l.take (k' + 1) ++ [x] ++ l.drop (k' + 1)).map (Value.int .i64)) := by
                have h := hO3
                have hm := HMin.out
                simp only [List.length_append, List.length_take, hm] at h ⊢
                simpa using h
              obtain ⟨_, B3, hB3, hR3⟩ := Rd.of_owns hO3'
              have hlt := hR3.lt (by simp only [List.length_append, List.length_singleton]; omega)
              have HR3 := Lib.hid hR3
              have HK3 := Lib.hid hK3
              clear hO3 hG3 hK3 hO3' hR3
              go_wp2
              go_ret
              exact Any.mk _ (Any.mk B3 ⟨rfl, HR3.out, .inr hB3, hlt, HK3.out⟩)
end Go.Proofs.YtfpdikhdfcppeaaDoor
