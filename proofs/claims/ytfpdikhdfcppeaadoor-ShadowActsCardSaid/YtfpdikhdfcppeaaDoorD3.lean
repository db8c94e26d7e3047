/- Walk of the law ShadowBack. -/
import Derived.Test.YtfpdikhdfcppeaaDoorM4
namespace Go.Proofs.YtfpdikhdfcppeaaDoor
open Go.RowKit Go.Proofs

theorem fresh_grows {w wr w' : World} {K1 K2 : List Nat} (hK : Keeps [] w wr) (hN : ∀ x ∈ K1, w.heap.size ≤ x) (g : Grows wr w' K1 K2) : Keeps [] w w' ∧ ∀ x ∈ K2, w.heap.size ≤ x := by
  refine ⟨hK.trans g.2 fun k hk hlt => ?_, fun x hx => ?_⟩
  · have := hN k hk; omega
  · rcases g.1 x hx with h | h
    · exact hN x h
    · have := hK.size; omega
theorem stay {wr w' : World} {K1 K2 : List Nat} {B : Nat} (hB : B ∉ K1) (hlt : B < wr.heap.size) (g : Grows wr w' K1 K2) : B ∉ K2 ∧ B < w'.heap.size := by
  refine ⟨fun h => ?_, Nat.lt_of_lt_of_le hlt g.2.size⟩
  rcases g.1 B h with h' | h'
  · exact hB h'
  · omega
theorem Rd.of_owns2 {k : IntKind} {w : World} {base e : Nat} {v : Value} {n : Nat} {xs : List Int} (h : w.ownsRow base e 1 v n (xs.map (Value.int k))) (h0 : 0 < w.heap.size) : xs.length = n ∧ ∃ B, (base ≤ B ∨ B = 0) ∧ B < w.heap.size ∧ Rd k w v B xs := by
  have hl := h.1
  simp at hl
  refine ⟨hl, ?_⟩
  rcases h.2 with ⟨rfl, rfl⟩ | ⟨g, cap, cur, rfl, hb, hg, h1, h2, h3, h4⟩
  · obtain rfl := List.length_eq_zero_iff.1 hl
    exact ⟨0, .inr rfl, h0, Rd.nil _ _ _⟩
  · refine ⟨g, .inl hb, (Array.getElem?_eq_some_iff.1 hg).1, .inr ⟨0, cap, by rw [hl], by omega, h2, fun i hi => ?_⟩⟩
    have hB : Blk w g e cur.toList := by unfold Blk; simpa using hg
    rw [hB.cell, Nat.zero_add]
    have : (cur.toList.take (n * 1))[i]? = some (.int k (xs.getD i 0)) := by rw [h4, getD_lt _ _ hi]; simp [hi]
    rw [List.getElem?_take, if_pos (by omega)] at this
    exact this

theorem ownsRow_block {w : World} {base : Nat} {e : TypeId} {size : Nat} {v : Value} {n : Nat} {xs : List Value} (h : w.ownsRow base e size v n xs) : ∀ g, v.ownBlock = some g → base ≤ g ∧ g < w.heap.size := by
  rcases h.2 with ⟨rfl, _⟩ | ⟨g, cap, cur, rfl, hb, hgg, rest⟩
  · intro g hg; cases hg
  · intro g' hg
    obtain rfl : g = g' := by simpa [Value.ownBlock] using hg
    exact ⟨hb, (Array.getElem?_eq_some_iff.1 hgg).1⟩

theorem info_string : (Tryd.prog.info? 9).map (fun i => (i.zero, i.size, i.bytes)) = some (some (.string ByteArray.empty), 1, 16) := by kernel_rfl

/-- The text of a line. -/
def lineStr (D : Dev) (i : Int) : Value := .string (strOfNums (bytesOf (lineOf D i.toNat)))

set_option maxRecDepth 100000 in
set_option maxHeartbeats 8000000 in
theorem shadowBack_walk (v1 v2 : Value) (l1 l2 : List GAct) (w : World) (hT : Tab w) (A1 : ActsAt w w.heap.size v1 l1) (A2 : ActsAt w w.heap.size v2 l2) :
    Calls Tryd.prog 5 #[v1, v2] w fun e w' => e = .returned (.bool true) ∧ Keeps [] w w' := by
  obtain ⟨a1, cap1, rfl, hc1, hm1, _⟩ := id A1
  obtain ⟨a2, cap2, rfl, hc2, hm2, _⟩ := id A2
  have h0 : 0 < w.heap.size := hT.1
  have HA1 := Lib.hid A1
  have HA2 := Lib.hid A2
  unfold maxLen at hm1 hm2
  clear A1 A2
  by_cases hs : smallB l1 20 = true ∧ smallB l2 20 = true
  · obtain ⟨hs1, hs2⟩ := hs
    have HS1 := Lib.hid hs1
    have HS2 := Lib.hid hs2
    clear hs1 hs2
    go_enter Tryd.func5, Tryd.ntmps5
    go_wp2_with fail
    refine (awake_calls w hT).mono ?_
    rintro e w1 ⟨rfl, hK1⟩
    have B1 := HA1.out.keeps hK1 (by simp) (Nat.le_refl _)
    have B2 := HA2.out.keeps hK1 (by simp) (Nat.le_refl _)
    have hsm1 := small_calls w.heap.size _ l1 20 w1 B1
    have hsm2 := small_calls w.heap.size _ l2 20 w1 B2
    rw [HS1.out] at hsm1
    rw [HS2.out] at hsm2
    have HM1 := Lib.hid hsm1
    have HM2 := Lib.hid hsm2
    clear hsm1 hsm2 B1 B2
    go_wp2_with fail
    refine HM1.out.mono ?_
    rintro e w2 ⟨rfl, rfl⟩
    go_wp2_with fail
    refine HM2.out.mono ?_
    rintro e w2 ⟨rfl, rfl⟩
    clear HM1 HM2
    go_wp2_with fail
    refine (made_calls 16 0 w1 (hT.keeps hK1 (by simp)) (by omega)).mono ?_
    rintro e w2 ⟨s, b, c, a, F, rfl, hSh0, hK2, hnew⟩
    have hSh : ShAt w2 s b c a 16 0 (Dev.new 128) (madeM 16) F := hSh0
    have hKw2 := hK1.trans hK2 (by simp)
    have hN2 : ∀ x ∈ b :: c :: F, w.heap.size ≤ x := fun x hx => by have := hnew x (List.mem_cons_of_mem _ hx); have := hK1.size; omega
    have HSh := Lib.hid hSh
    have HN2 := Lib.hid hN2
    clear hSh0 hSh hnew hN2 hK1 hK2
    go_wp2
    go_loopw [8] (fun t wr => ∃ (k : Nat) (D : Dev) (M : Nat → Nat) (F' : List Nat), k ≤ l1.length ∧ t = .int .i64 k ∧ ShAt wr s b c a 16 0 D M F' ∧ Inv 16 D ∧ Keeps [] w wr ∧ ∀ x ∈ b :: c :: F', w.heap.size ≤ x) (fun t _ => l1.length - (intOf t).toNat)
    case atStart => exact ⟨0, _, _, F, by omega, rfl, HSh.out, Inv.new 16, hKw2, HN2.out⟩
    case round =>
      obtain ⟨k, D, M, F1, hk, rfl, hS, hI, hK, hN⟩ := hrel
      have HS := Lib.hid hS
      have HI := Lib.hid hI
      have HK := Lib.hid hK
      have HN := Lib.hid hN
      clear hS hI hK hN
      by_cases hlt : k < l1.length
      · obtain ⟨_, cap1', he1, _, _, hel⟩ := HA1.out.keeps HK.out (by simp) (Nat.le_refl _)
        obtain ⟨rfl, rfl⟩ : _ = a1 ∧ cap1' = cap1 := by injection he1 with h1 h2 h3; exact ⟨h1.symm, h3.symm⟩
        obtain ⟨x, hx⟩ : ∃ x, l1[k]? = some x := ⟨_, List.getElem?_eq_getElem hlt⟩
        obtain ⟨bb, o, bv, B, rfl, _, hBN, c0, c1, c2, hr, hu⟩ := hel k x hx
        have hd := do_calls s b c a 16 0 D M F1 wr x bv B HS.out hr hu (fun h => by have := HN.out B h; omega)
        have HD := Lib.hid hd
        clear hel hx hr hu hd he1
        go_wp2_with fail
        refine HD.out.mono ?_
        rintro e w3 ⟨F3, rfl, h3, g3⟩
        obtain ⟨hk3, hn3⟩ := fresh_grows HK.out HN.out g3
        have HH3 := Lib.hid h3
        clear h3 g3
        go_wp2
        go_roundw
        case rel => exact ⟨k + 1, _, _, F3, by omega, by go_num, HH3.out, doAct_inv HI.out (by omega) x, hk3, hn3⟩
        case measure => simp [intOf]; omega
      · go_wp2_with fail
        refine (mark_calls a 16 0 M F1 wr HS.out.alc HS.out.tab).mono ?_
        rintro e w3 ⟨F3, rfl, hA3, hG3⟩
        obtain ⟨h3, g3⟩ := HS.out.onAlc hA3 hG3
        obtain ⟨hk3, hn3⟩ := fresh_grows HK.out HN.out g3
        have h3s : ∀ x ∈ b :: c :: F3, 0 < x ∧ x < w3.heap.size := fun x hx => by
          obtain ⟨q1, q2, q3, q4⟩ := h3.lt
          have hp := h3.pos
          simp only [List.mem_cons] at hx
          rcases hx with rfl | rfl | hx
          · exact ⟨by omega, q2⟩
          · exact ⟨by omega, q3⟩
          · exact h3.alc.lt x hx
        have H3 := Lib.hid h3
        have HN3 := Lib.hid hn3
        have H3S := Lib.hid h3s
        clear h3 g3 hn3 hA3 hG3 h3s
        go_wp2_with fail
        refine (works_calls a 16 0 _ F3 w3 H3.out.alc H3.out.tab).mono ?_
        rintro e w4 ⟨p1, q1, rfl, hS4, hK4, _, _⟩
        go_wp2_with fail
        refine (list_calls p1 q1 16 _ w4 hS4 (H3.out.tab.keeps hK4 (by simp))).mono ?_
        rintro e w5 ⟨ul, rfl, hO5, hK5⟩
        have hK35 := hK4.trans hK5 (by simp)
        obtain ⟨h5, g5⟩ := H3.out.same hK35
        change w5.ownsRow w4.heap.size 3 1 ul (ups 16 (M 3)).length (i64s (ups 16 (M 3))) at hO5
        obtain ⟨L, hL⟩ : ∃ L, ups 16 (M 3) = L := ⟨_, rfl⟩
        rw [hL] at hO5
        obtain ⟨_, Bl, hBl, hBlt, hRl⟩ := Rd.of_owns2 hO5 (by have := hk3.size; have := hK35.size; omega)
        have hBF : Bl ∉ b :: c :: F3 := fun h => by
          have h1 := H3S.out Bl h
          have := hK4.size
          omega
        have hmem : ∀ x ∈ L, ∃ j : Nat, x = j ∧ j < 16 ∧ (M 3).testBit j = true := fun x hx => by
          rw [← hL] at hx
          unfold ups bitsUp at hx
          simp only [List.mem_map, List.mem_filter, List.mem_range] at hx
          obtain ⟨j, ⟨h1, h2⟩, rfl⟩ := hx
          exact ⟨j, rfl, h1, h2⟩
        have hLl : L.length ≤ 16 := by rw [← hL]; unfold ups bitsUp; rw [List.length_map]; exact Nat.le_trans (List.length_filter_le _ _) (by simp)
        have H5 := Lib.hid h5
        have HRl := Lib.hid hRl
        have HBF := Lib.hid hBF
        have HL := Lib.hid hL
        have HMem := Lib.hid hmem
        have hk5 := hk3.trans hK35 (by simp)
        obtain ⟨la, lcap, rfl, hlc, hlm⟩ := hRl.shape
        unfold maxLen at hlm
        clear h5 g5 hO5 hRl hBF hL hmem hK4 hK5 hS4 hBl
        obtain ⟨i0, hi, hz0, hz1, hz2⟩ := info_parts info_string
        obtain ⟨wb, hwb⟩ : ∃ wb : World, wb = w5 := ⟨_, rfl⟩
        go_wp2
        go_loopw [10, 11] (fun u t wr => ∃ k : Nat, k ≤ L.length ∧ t = .int .i64 k ∧ ShAt wr s b c a 16 0 D (mMark M) F3 ∧ Keeps [] w5 wr ∧ wr.ownsRow w5.heap.size 9 1 u k ((L.take k).map (lineStr D))) (fun _ t _ => L.length - (intOf t).toNat)
        case atStart => exact ⟨0, by omega, rfl, H5.out, Keeps.refl _ _, by simpa using World.ownsRow_nil w5 w5.heap.size 9 1⟩
        case round =>
          obtain ⟨k2, hk2, rfl, hS6, hK6, hO6⟩ := hrel
          have HS6 := Lib.hid hS6
          have HO6 := Lib.hid hO6
          have HK6 := Lib.hid hK6
          clear hS6 hO6 hK6
          by_cases hlt2 : k2 < L.length
          · obtain ⟨lo, lc2, hv, c0⟩ := (HRl.out.keeps HK6.out (by simp)).get hlt2
            obtain ⟨rfl, rfl⟩ : la = some ⟨Bl, lo, none⟩ ∧ lc2 = lcap := by injection hv with h1 h2 h3; exact ⟨h1, h3.symm⟩
            rw [getD_lt _ _ hlt2] at c0
            obtain ⟨j, hj, hj16, hjb⟩ := HMem.out L[k2] (List.getElem_mem _)
            rw [hj] at c0
            have hget := shGet_calls s b c a 16 0 D _ F3 _ HS6.out j
            rw [HI.out.read hj16] at hget
            have HG := Lib.hid hget
            have HJ := Lib.hid hj
            clear hget hv hj
            go_wp2_with fail
            refine HG.out.mono ?_
            rintro e w7 ⟨uu, rfl, hO7, hK7⟩
            obtain ⟨_, Bu, _, hRu⟩ := Rd.of_owns hO7
            have hcv := run_str (P := Tryd.prog) (w := w7) Tryd.underlying43 Tryd.underlying5 Tryd.underlying9 hRu
            obtain ⟨st, hst⟩ : ∃ st, strOfNums (bytesOf (lineOf D j)) = st := ⟨_, rfl⟩
            rw [hst] at hcv
            have hO7' := ownsRow_keeps HO6.out hK7 (by simp)
            have HO7 := Lib.hid hO7'
            have HST : Hid (lineStr D L[k2] = .string st) := by show _ = _; unfold lineStr; rw [HJ.out, ← hst]; rfl
            clear hO7 hRu hst hO7'
            go_wp2_with (at_builtin; refine wpList_append_own _ rfl _ _ 57 rfl w5.heap.size 9 i0 (.string ByteArray.empty) 1 16 Tryd.underlying57 hi hz0 hz1 hz2 rfl (by decide) _ _ _ rfl (HO7.out.alloc _) ⟨w7.heap.size, 0, none⟩ 1 1 [.string st] rfl rfl ?c1 ?c2 ?c3 ?c4 ?c5 ?_)
            case c1 => exact one_cell_new w7 _ _
            case c2 => intro u hu; simp at hu; subst hu; rfl
            case c3 => unfold maxLen; omega
            case c4 => omega
            case c5 => simp only [World.size_alloc]; have := HK6.out.size; have := hK7.size; omega
            intro vv w8 hO8 hG8 hnil
            have hG9 := Lib.hid hG8
            have hO9 := Lib.hid hO8
            clear hG8 hO8 hnil
            have hK8 : Keeps [] w5 w8 := ((HK6.out.trans hK7 (by simp)).alloc _).grown hG9.out fun g hg hlt3 => by have := (HO7.out.lt g hg).1; omega
            go_wp2
            go_roundw
            case rel =>
              refine ⟨k2 + 1, by omega, by go_num, (H5.out.same hK8).1, hK8, ?_⟩
              have := hO9.out
              rw [List.map_take, List.take_succ_eq_append_getElem (by simpa using hlt2), ← List.map_take, List.getElem_map, HST.out]
              first | exact this | simpa using this
            case measure => simp [intOf]; omega
          · obtain rfl : k2 = L.length := by omega
            have hK6' := HK6.out
            have hS6' := HS6.out
            have HKm := Lib.hid (KeepsMark.refl (M := mMark M) HI.out)
            have hk6 := hk5.trans hK6' (by simp)
            have HK36 := Lib.hid hK6'
            go_wp2
            go_loopw [14] (fun t wr => ∃ (k : Nat) (D' : Dev) (M' : Nat → Nat) (F' : List Nat), k ≤ l2.length ∧ t = .int .i64 k ∧ ShAt wr s b c a 16 0 D' M' F' ∧ KeepsMark 16 D (mMark M) D' M' ∧ Keeps [] w wr ∧ (∀ x ∈ b :: c :: F', w.heap.size ≤ x) ∧ Rd .i64 wr (.slice la L.length lcap) Bl L ∧ Bl ∉ b :: c :: F' ∧ Bl < wr.heap.size ∧ wr.ownsRow w5.heap.size 9 1 u10 L.length (L.map (lineStr D)) ∧ ∀ g, u10.ownBlock = some g → g ∉ b :: c :: F' ∧ g < wr.heap.size) (fun t _ => l2.length - (intOf t).toNat)
            case atStart => exact ⟨0, _, _, _, by omega, rfl, HS6.out, HKm.out, hk6, HN3.out, HRl.out.keeps HK6.out (by simp), HBF.out, Nat.lt_of_lt_of_le hBlt HK6.out.size, by simpa using HO6.out, fun g hg => ⟨fun hm => by have h1 := (ownsRow_block HO6.out g hg).1; have h2 := H3S.out g hm; have := hK35.size; omega, (ownsRow_block HO6.out g hg).2⟩⟩
            case round =>
              obtain ⟨k3, D4, M4, F4, hk4, rfl, hS7, hKM7, hK7, hN7, hR7, hB7, hBl7, hO7, hW7⟩ := hrel
              have HS7 := Lib.hid hS7
              have HKM7 := Lib.hid hKM7
              have HK7 := Lib.hid hK7
              have HN7 := Lib.hid hN7
              have HR7 := Lib.hid hR7
              have HB7 := Lib.hid hB7
              have HO7 := Lib.hid hO7
              have HW7 := Lib.hid hW7
              clear hS7 hKM7 hK7 hN7 hR7 hB7 hO7 hW7
              by_cases hlt3 : k3 < l2.length
              · obtain ⟨_, cap2', he1, _, _, hel⟩ := HA2.out.keeps HK7.out (by simp) (Nat.le_refl _)
                obtain ⟨rfl, rfl⟩ : _ = a2 ∧ cap2' = cap2 := by injection he1 with h1 h2 h3; exact ⟨h1.symm, h3.symm⟩
                obtain ⟨x, hx⟩ : ∃ x, l2[k3]? = some x := ⟨_, List.getElem?_eq_getElem hlt3⟩
                obtain ⟨bb, o, bv, B, rfl, _, hBN, c0, c1, c2, hr, hu⟩ := hel k3 x hx
                have hd := do_calls s b c a 16 0 D4 M4 F4 wr x bv B HS7.out hr hu (fun h => by have := HN7.out B h; omega)
                have HD := Lib.hid hd
                clear hel hx hr hu hd he1
                go_wp2_with fail
                refine (rest_calls x.kind 10 wr (by omega) (by omega)).mono ?_
                rintro e w8 ⟨rfl, rfl⟩
                by_cases hlow : x.kind % 10 < 3
                · go_wp2_with fail
                  refine HD.out.mono ?_
                  rintro e w8 ⟨F8, rfl, h8, g8⟩
                  obtain ⟨hk8, hn8⟩ := fresh_grows HK7.out HN7.out g8
                  have h8r := HR7.out.same (g8.2.block _ (by omega) HB7.out)
                  obtain ⟨hs8, ht8⟩ := stay HB7.out hBl7 g8
                  have HH8 := Lib.hid h8
                  have HG8 := Lib.hid g8
                  have HO8 := Lib.hid (ownsRow_keeps HO7.out g8.2 (fun g hg => (HW7.out g hg).1))
                  have HW8 : Hid (∀ g, u10.ownBlock = some g → g ∉ b :: c :: F8 ∧ g < w8.heap.size) := fun g hg => stay (HW7.out g hg).1 (HW7.out g hg).2 g8
                  have HKM8 := Lib.hid (HKM7.out.trans (doAct_low (r := 0) HKM7.out.inv (by omega) x hlow))
                  clear h8 g8
                  go_wp2
                  go_roundw
                  case rel => exact ⟨k3 + 1, _, _, F8, by omega, by go_num, HH8.out, HKM8.out, hk8, hn8, h8r, hs8, ht8, HO8.out, HW8.out⟩
                  case measure => simp [intOf]; omega
                · go_wp2
                  go_roundw
                  case rel => exact ⟨k3 + 1, _, _, F4, by omega, by go_num, HS7.out, HKM7.out, HK7.out, HN7.out, HR7.out, HB7.out, hBl7, HO7.out, HW7.out⟩
                  case measure => simp [intOf]; omega
              · go_wp2_with fail
                refine (back_calls a 16 0 M4 F4 wr HS7.out.alc HS7.out.tab).mono ?_
                rintro e w8 ⟨F8, rfl, hA8, hG8⟩
                obtain ⟨h8, g8⟩ := HS7.out.onAlc hA8 hG8
                obtain ⟨hk8, hn8⟩ := fresh_grows HK7.out HN7.out g8
                have hR8 := HR7.out.same (g8.2.block _ (by omega) HB7.out)
                have hO8 := ownsRow_keeps HO7.out g8.2 (fun g hg => (HW7.out g hg).1)
                have HH8 := Lib.hid h8
                have HN8 := Lib.hid hn8
                have HR8 := Lib.hid hR8
                have HO8 := Lib.hid hO8
                clear h8 g8 hn8 hR8 hO8 hA8 hG8
                go_wp2_with fail
                refine (works_calls a 16 0 _ F8 w8 HH8.out.alc HH8.out.tab).mono ?_
                rintro e w9 ⟨p2, q2, rfl, hS9, hK9, _, _⟩
                go_wp2_with fail
                refine (list_calls p2 q2 16 _ w9 hS9 (HH8.out.tab.keeps hK9 (by simp))).mono ?_
                rintro e w10 ⟨ul2, rfl, hO10, hK10⟩
                have hK810 := hK9.trans hK10 (by simp)
                have hM3 : mBack M4 3 = M 3 := by
                  have := HKM7.out.sets 2 (by omega)
                  show upd M4 3 (M4 2) 3 = M 3
                  rw [this]
                  simp [upd, mMark]
                rw [hM3] at hO10
                change w10.ownsRow w9.heap.size 3 1 ul2 (ups 16 (M 3)).length (i64s (ups 16 (M 3))) at hO10
                rw [HL.out] at hO10
                obtain ⟨_, Bl2, hBl2, hBlt2, hRl2⟩ := Rd.of_owns2 hO10 (by have := hk8.size; have := hK810.size; omega)
                have hin := ints_calls _ _ _ _ L L w10 hRl2 (HR8.out.keeps hK810 (by simp))
                rw [decide_eq_true rfl] at hin
                have HIn := Lib.hid hin
                have HK810 := Lib.hid hK810
                clear hin hO10 hRl2 hK9 hK10 hS9 hK810
                go_wp2_with fail
                refine HIn.out.mono ?_
                rintro e w11 ⟨rfl, n11, rfl⟩
                go_wp2
                have hk10 := (hk8.trans HK810.out (by simp)).drewN n11
                have HK10 := Lib.hid hk10
                have HS10 := Lib.hid (HH8.out.same (HK810.out.drewN n11)).1
                have HR10 := Lib.hid (HR8.out.keeps (HK810.out.drewN n11) (by simp))
                have HO10 := Lib.hid (ownsRow_keeps HO8.out (HK810.out.drewN n11) (by simp))
                clear hk10
                obtain ⟨wc, hwc⟩ : ∃ wc, wc = w10.drewN n11 := ⟨_, rfl⟩
                go_loopw [15] (fun t wr => ∃ k : Nat, k ≤ L.length ∧ t = .int .i64 k ∧ Keeps [] (w10.drewN n11) wr) (fun t _ => L.length - (intOf t).toNat)
                case atStart => exact ⟨0, by omega, rfl, Keeps.refl _ _⟩
                case round =>
                  obtain ⟨k9, hk9, rfl, hK11⟩ := hrel
                  by_cases hlt9 : k9 < L.length
                  · obtain ⟨lo, lc2, hv, c0⟩ := (HR10.out.keeps hK11 (by simp)).get hlt9
                    obtain ⟨rfl, rfl⟩ : la = some ⟨Bl, lo, none⟩ ∧ lc2 = lcap := by injection hv with h1 h2 h3; exact ⟨h1, h3.symm⟩
                    rw [getD_lt _ _ hlt9] at c0
                    obtain ⟨j, hj, hj16, hjb⟩ := HMem.out L[k9] (List.getElem_mem _)
                    rw [hj] at c0
                    have hget := shGet_calls s b c a 16 0 D4 _ F8 _ (HS10.out.same hK11).1 j
                    rw [HKM7.out.inv.read hj16, HKM7.out.lines j hj16 (by simpa [mMark, upd] using hjb)] at hget
                    have HG := Lib.hid hget
                    have HJ := Lib.hid hj
                    have HO11 := Lib.hid (ownsRow_keeps HO10.out hK11 (by simp))
                    have HK11 := Lib.hid hK11
                    clear hget hv hj hK11
                    go_wp2_with fail
                    refine HG.out.mono ?_
                    rintro e w12 ⟨uu, rfl, hO12, hK12⟩
                    obtain ⟨_, Bu, _, hRu⟩ := Rd.of_owns hO12
                    obtain ⟨st, hst⟩ : ∃ st, strOfNums (bytesOf (lineOf D j)) = st := ⟨_, rfl⟩
                    have hcv := fun nq => run_str (P := Tryd.prog) (w := w12.drewN nq) Tryd.underlying43 Tryd.underlying5 Tryd.underlying9 (by exact hRu)
                    simp only [hst] at hcv
                    have hO12' := ownsRow_keeps HO11.out hK12 (by simp)
                    have hst2 : (L.map (lineStr D))[k9]? = some (.string st) := by
                      rw [List.getElem?_map, List.getElem?_eq_getElem hlt9]
                      show some _ = _
                      unfold lineStr
                      rw [HJ.out, ← hst]; rfl
                    obtain ⟨gw, capw, hu10, _, hlw, hmw, hcw⟩ := ownsRow_some hO12' (fun e => by
                      have := hO12'.1
                      subst e
                      rcases hO12'.2 with ⟨_, h⟩ | ⟨_, _, _, h, _⟩
                      · omega
                      · cases h)
                    subst hu10
                    have c9 : w12.cell? ⟨gw, k9, none⟩ = some (.string st) := by
                      have := hcw k9 _ hst2
                      rw [addr_add, Nat.zero_add] at this
                      exact this
                    have b1 : (0 : Int) ≤ k9 := by omega
                    have b2 : (k9 : Int) < L.length := by omega
                    clear hcw hO12' hO12 hRu hst hst2
                    go_wp2_with fail
                    go_quiet (fail)
                    go_wp2
                    go_roundw
                    case rel => exact ⟨k9 + 1, by omega, by go_num, (HK11.out.trans hK12 (by simp)).drewN nq⟩
                    case measure => simp [intOf]; omega
                  · go_wp2
                    go_ret
                    exact ⟨rfl, HK10.out.trans hK11 (by simp)⟩
  · cases hs1 : smallB l1 20 with
    | false =>
      have HS1 := Lib.hid hs1
      clear hs hs1
      go_enter Tryd.func5, Tryd.ntmps5
      go_wp2_with fail
      refine (awake_calls w hT).mono ?_
      rintro e w1 ⟨rfl, hK1⟩
      have hsm1 := small_calls w.heap.size _ l1 20 w1 (HA1.out.keeps hK1 (by simp) (Nat.le_refl _))
      rw [HS1.out] at hsm1
      have HM1 := Lib.hid hsm1
      have HT1 := Lib.hid (hT.keeps hK1 (by simp))
      have HK1 := Lib.hid hK1
      clear hsm1 hK1
      go_wp2_with fail
      refine HM1.out.mono ?_
      rintro e w2 ⟨rfl, rfl⟩
      go_wp2_with fail
      refine (awake_calls w1 HT1.out).mono ?_
      rintro e w2 ⟨rfl, hK2⟩
      go_wp2
      go_ret
      exact ⟨rfl, HK1.out.trans hK2 (by simp)⟩
    | true =>
      have hs2 : smallB l2 20 = false := by
        cases h : smallB l2 20 with
        | false => rfl
        | true => exact absurd ⟨hs1, h⟩ hs
      have HS1 := Lib.hid hs1
      have HS2 := Lib.hid hs2
      clear hs hs1 hs2
      go_enter Tryd.func5, Tryd.ntmps5
      go_wp2_with fail
      refine (awake_calls w hT).mono ?_
      rintro e w1 ⟨rfl, hK1⟩
      have hsm1 := small_calls w.heap.size _ l1 20 w1 (HA1.out.keeps hK1 (by simp) (Nat.le_refl _))
      rw [HS1.out] at hsm1
      have HM1 := Lib.hid hsm1
      have hsm2 := small_calls w.heap.size _ l2 20 w1 (HA2.out.keeps hK1 (by simp) (Nat.le_refl _))
      rw [HS2.out] at hsm2
      have HM2 := Lib.hid hsm2
      clear hsm2
      have HT1 := Lib.hid (hT.keeps hK1 (by simp))
      have HK1 := Lib.hid hK1
      clear hsm1 hK1
      go_wp2_with fail
      refine HM1.out.mono ?_
      rintro e w2 ⟨rfl, rfl⟩
      go_wp2_with fail
      refine HM2.out.mono ?_
      rintro e w2 ⟨rfl, rfl⟩
      go_wp2_with fail
      refine (awake_calls w1 HT1.out).mono ?_
      rintro e w2 ⟨rfl, hK2⟩
      go_wp2
      go_ret
      exact ⟨rfl, HK1.out.trans hK2 (by simp)⟩
end Go.Proofs.YtfpdikhdfcppeaaDoor
