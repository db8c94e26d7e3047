/- Walks of package pmem: a new device, what lasts behind a crash. -/
import Derived.Test.YtfpdikhdfcppeaaDoorA1
namespace Go.Proofs.YtfpdikhdfcppeaaDoor
open Go.RowKit Go.Proofs

theorem info_cell : (Tryd.prog.info? 113).map (fun i => (i.zero, i.size, i.bytes)) = some (some (.agg #[.int .u64 0, .int .u64 0, .int .u64 0, .bool false]), 4, 32) := by kernel_rfl
theorem info_int : (Tryd.prog.info? 3).map (fun i => (i.zero, i.size, i.bytes)) = some (some (.int .i64 0), 1, 8) := by kernel_rfl
theorem info_u64 : (Tryd.prog.info? 107).map (fun i => (i.zero, i.size, i.bytes)) = some (some (.int .u64 0), 1, 8) := by kernel_rfl

theorem made_get (z : Array Value) (n j : Nat) (hj : j < n) : (madeCells z n).toList[j]? = some (z[j % z.size]!) := by
  simp [madeCells, hj]
theorem made_one (z : Value) (n : Nat) : madeCells #[z] n = (List.replicate n z).toArray := by
  apply Array.ext
  · simp [madeCells]
  · intro i h1 h2; simp [madeCells, Nat.mod_one]
theorem made_cells (n : Nat) : madeCells #[.int .u64 0, .int .u64 0, .int .u64 0, .bool false] (n * 4) = (flat (List.replicate n ⟨0, 0, 0, false⟩)).toArray := by
  apply Array.ext
  · simp [madeCells, flat_length]
  · intro i h1 h2
    simp only [madeCells, Array.size_map, Array.size_range] at h1
    have h3 : i = i / 4 * 4 + i % 4 := by omega
    have hj : i % 4 < 4 := by omega
    have hi : i / 4 < n := by omega
    have e : (flat (List.replicate n (⟨0, 0, 0, false⟩ : DCell)))[i / 4 * 4 + i % 4]? = _ := flat_get _ _ _ hj
    rw [← h3, List.getElem?_replicate, if_pos hi] at e
    have e2 : (flat (List.replicate n (⟨0, 0, 0, false⟩ : DCell)))[i]? = some ((flat (List.replicate n (⟨0, 0, 0, false⟩ : DCell)))[i]'(by simpa using h2)) := List.getElem?_eq_getElem _
    rw [e] at e2
    have e3 : i % 4 = 0 ∨ i % 4 = 1 ∨ i % 4 = 2 ∨ i % 4 = 3 := by omega
    simp only [madeCells, List.getElem_toArray, Array.getElem_map, Array.getElem_range]
    rcases e3 with e3 | e3 | e3 | e3 <;> rw [e3] at e2 <;> simp [DCell.vals] at e2 <;> simp [e3, ← e2]

def Dev.new (n : Nat) : Dev := { cells := List.replicate n ⟨0, 0, 0, false⟩, off := false, armed := false, left := 0, steps := 0 }

set_option maxHeartbeats 400000 in
theorem new_bad (n : Int) (w : World) (h : n < 0 ∨ 4096 < n) :
    Calls Tryd.prog 9 #[.int .i64 n] w fun e w' => e = .returned (.tuple #[.pointer none, .int .i64 2]) ∧ w = w' := by
  by_cases h1 : n < 0
  · go_enter Tryd.func9, Tryd.ntmps9
    go_wp2
    go_ret2
    exact ⟨rfl, rfl⟩
  · have h2 : 4096 < n := by omega
    clear h
    go_enter Tryd.func9, Tryd.ntmps9
    go_wp2
    go_ret2
    exact ⟨rfl, rfl⟩

set_option maxRecDepth 100000 in
set_option maxHeartbeats 400000 in
theorem new_good (n : Nat) (w : World) (h : n ≤ 4096) :
    Calls Tryd.prog 9 #[.int .i64 n] w fun e w' => Any fun b => Any fun c => e = .returned (.tuple #[.pointer (some ⟨b, 0, none⟩), .int .i64 0]) ∧ DevAt w' b c (Dev.new (n * 8)) ∧ Keeps [] w w' ∧
      w.heap.size ≤ b ∧ w.heap.size ≤ c ∧ b < w'.heap.size ∧ c < w'.heap.size := by
  obtain ⟨i0, hi, hz0, hz1, hz2⟩ := info_parts info_cell
  have hmk := run_make (P := Tryd.prog) w 89 113 i0 _ Tryd.underlying89 hi hz0 .i64 .i64 ((n : Int) * 8) ((n : Int) * 8) (by omega) (by omega) (by rw [hz2]; omega) (by omega)
  rw [hz1] at hmk
  simp only [Value.cells] at hmk
  rw [show ((n : Int) * 8).toNat = n * 8 from by omega, made_cells] at hmk
  have h2 : ¬ (4096 < (n : Int)) := by omega
  clear hz0 hz1 hz2 hi
  generalize hL : flat (List.replicate (n * 8) ⟨0, 0, 0, false⟩) = L at hmk
  have HL := Lib.hid hL
  clear hL
  go_enter Tryd.func9, Tryd.ntmps9
  go_wp2
  go_ret2
  refine Any.mk (w.heap.size + 1) (Any.mk w.heap.size ⟨by simp, ?_, ((Keeps.refl _ _).alloc _).alloc _, by omega, by omega, by simp, by simp only [World.size_alloc]; omega⟩)
  have hb1 : Blk (w.alloc (.cells L.toArray 113)) w.heap.size 113 L := Blk.new w _ _
  refine ⟨_, ?_, ⟨?_, .inr ⟨n * 8, [], rfl, ?_, ?_, ?_, ?_⟩⟩, by omega, ?_⟩
  · have := Blk.new (w.alloc (.cells L.toArray 113)) 93 [.slice (some ⟨w.heap.size, 0, none⟩) (n * 8) (n * 8), .slice none 0 0, .int .i64 0, .bool false, .bool false, .int .i64 0, .int .i64 0]
    simpa [Dev.new] using this
  · simp [Dev.new, flat_length]
  · have := hb1.alloc (.cells [Value.slice (some ⟨w.heap.size, 0, none⟩) (n * 8) (n * 8), .slice none 0 0, .int .i64 0, .bool false, .bool false, .int .i64 0, .int .i64 0].toArray 93)
    rw [← HL.out] at this
    simpa [Dev.new, ← HL.out] using this
  · simp [Dev.new]
  · simp [Dev.new]
  · unfold maxLen; omega
  · simp [Dev.new]; omega

theorem cell_facts {w : World} {e g n : Nat} {v : Value} {l : List DCell} (h : Sl w e 4 v g n (flat l)) (hn : l.length = n) {i : Nat} {c : DCell} (hi : l[i]? = some c) :
    w.cell? ⟨g, i * 4, none⟩ = some (.int .u64 c.lasts) ∧ w.cell? ⟨g, i * 4 + 1, none⟩ = some (.int .u64 c.stored) ∧ w.cell? ⟨g, i * 4 + 2, none⟩ = some (.int .u64 c.sent) ∧
    w.cell? ⟨g, i * 4 + 3, none⟩ = some (.bool c.flushed) ∧ ∀ j, w.frozen? ⟨g, j, none⟩ = false := by
  have hlt : i < l.length := by rw [List.getElem?_eq_some_iff] at hi; exact hi.1
  have hc : ∀ j, j < 4 → w.cell? ⟨g, i * 4 + j, none⟩ = c.vals[j]? := fun j hj => by
    rw [h.cell _ (by omega), flat_get _ _ _ hj, hi]; rfl
  exact ⟨hc 0 (by omega), hc 1 (by omega), hc 2 (by omega), hc 3 (by omega), h.free (by omega)⟩

set_option maxHeartbeats 400000 in
theorem open_calls (g o : Nat) (lasts stored : Int) (fl : Bool) (w : World)
    (h0 : w.cell? ⟨g, o, none⟩ = some (.int .u64 lasts)) (h1 : w.cell? ⟨g, o + 1, none⟩ = some (.int .u64 stored)) (h3 : w.cell? ⟨g, o + 3, none⟩ = some (.bool fl)) :
    Calls Tryd.prog 61 #[.pointer (some ⟨g, o, none⟩)] w fun e w' => e = .returned (.bool (fl || stored != lasts)) ∧ ∃ n, w' = w.drewN n := by
  cases fl with
  | true =>
    go_enter Tryd.func61, Tryd.ntmps61
    go_wp2
    go_quiet (fail)
    go_wp2
    go_ret
    exact ⟨by simp, _, rfl⟩
  | false =>
    go_enter Tryd.func61, Tryd.ntmps61
    go_wp2
    go_quiet (fail)
    go_wp2
    go_ret
    exact ⟨by simp, _, rfl⟩

set_option maxHeartbeats 400000 in
theorem fate_calls (g o : Nat) (c : DCell) (n : Int) (w : World)
    (h0 : w.cell? ⟨g, o, none⟩ = some (.int .u64 c.lasts)) (h1 : w.cell? ⟨g, o + 1, none⟩ = some (.int .u64 c.stored)) (h2 : w.cell? ⟨g, o + 2, none⟩ = some (.int .u64 c.sent)) (h3 : w.cell? ⟨g, o + 3, none⟩ = some (.bool c.flushed)) :
    Calls Tryd.prog 63 #[.pointer (some ⟨g, o, none⟩), .int .i64 n] w fun e w' => e = .returned (.int .u64 (fateOf c n)) ∧ w = w' := by
  go_enter Tryd.func63, Tryd.ntmps63
  go_wp2
  all_goals
    go_ret
    exact ⟨by simp_all [fateOf], rfl⟩

theorem open_cell {w : World} {e g n : Nat} {v : Value} {l : List DCell} (h : Sl w e 4 v g n (flat l)) (hn : l.length = n) {i : Nat} {c : DCell} (hi : Hid (l[i]? = some c)) (bo : Bool) (hb : Hid (c.isOpen = bo)) :
    Calls Tryd.prog 61 #[.pointer (some ⟨g, i * 4, none⟩)] w fun e w' => e = .returned (.bool bo) ∧ ∃ n, w' = w.drewN n := by
  obtain ⟨h0, h1, _, h3, _⟩ := cell_facts h hn hi.out
  rw [← hb.out]
  exact open_calls g (i * 4) c.lasts c.stored c.flushed w h0 h1 h3

theorem fate_cell {w : World} {e g n : Nat} {v : Value} {l : List DCell} (h : Sl w e 4 v g n (flat l)) (hn : l.length = n) {i : Nat} {c : DCell} (hi : Hid (l[i]? = some c)) (x y : Int) (hy : Hid (fateOf c x = y)) :
    Calls Tryd.prog 63 #[.pointer (some ⟨g, i * 4, none⟩), .int .i64 x] w fun e w' => e = .returned (.int .u64 y) ∧ w = w' := by
  obtain ⟨h0, h1, h2, h3, _⟩ := cell_facts h hn hi.out
  rw [← hy.out]
  exact fate_calls g (i * 4) c x w h0 h1 h2 h3

set_option maxHeartbeats 2000000 in
theorem crash_calls (b c B : Nat) (D : Dev) (v : Value) (l : List Int) (w : World) (h : DevAt w b c D) (hl : Rd .i64 w v B l) (hBb : B ≠ b) (hBc : B ≠ c) :
    Calls Tryd.prog 30 #[.pointer (some ⟨b, 0, none⟩), v] w fun e w' =>
      e = .returned (.tuple #[]) ∧ DevAt w' b c (D.crash l) ∧ Keeps [b, c] w w' := by
  have h0 := h
  obtain ⟨v0, hB, hS, hne, hs⟩ := h
  obtain ⟨a, cap, rfl, hcap, hmax, ha⟩ := hS.shape
  have c0 := hB.cell 0
  simp at c0
  clear hB hS ha
  go_enter Tryd.func30, Tryd.ntmps30
  go_wp2
  clear c0
  go_loopw [1, 12] (fun u t wr => ∃ k : Nat, k ≤ D.cells.length ∧ t = .int .i64 k ∧ DevAt wr b c { D with cells := (crashTo D.cells l k).1 ++ D.cells.drop k } ∧ Rd .i64 wr u B (crashTo D.cells l k).2 ∧ Keeps [b, c] w wr) (fun _ t _ => D.cells.length - (intOf t).toNat)
  case atStart => exact ⟨0, by omega, rfl, by simpa [crashTo] using h0, hl, Keeps.refl _ _⟩
  case round =>
    obtain ⟨k, hkn, rfl, hD, hL, hK⟩ := hrel
    by_cases hlt : k < D.cells.length
    · obtain ⟨d, hd⟩ : ∃ d, D.cells[k]? = some d := ⟨_, List.getElem?_eq_getElem hlt⟩
      have hnx := crashTo_succ D.cells l k d hd
      have hcl := crashTo_length D.cells l k hkn
      have hdr : D.cells.drop k = d :: D.cells.drop (k + 1) := by
        obtain ⟨_, rfl⟩ := List.getElem?_eq_some_iff.1 hd
        exact List.drop_eq_getElem_cons hlt
      generalize crashTo D.cells l k = s at *
      obtain ⟨acc, L⟩ := s
      simp only at hnx hcl hD hL
      obtain ⟨v1, hB, hS, hne1, hs1⟩ := hD
      simp only at hB hS hs1
      have hlen : (acc ++ D.cells.drop k).length = D.cells.length := by simp; omega
      rw [hlen] at hS hs1
      have hd2 : (acc ++ D.cells.drop k)[k]? = some d := by rw [List.getElem?_append_right (by omega), hcl, hdr]; simp
      have hset : ∀ d' : DCell, (acc ++ D.cells.drop k).set k d' = (acc ++ [d']) ++ D.cells.drop (k + 1) := by
        intro d'
        rw [List.set_append_right _ _ (by omega), hcl, hdr]; simp
      obtain ⟨a1, cap1, rfl, hcap1, hmax1, ha1⟩ := hS.shape
      obtain rfl := ha1 (by omega)
      have c0 := hB.cell 0
      simp at c0
      obtain ⟨f0, f1, f2, f3, ff⟩ := cell_facts hS hlen hd2
      have HD := Lib.hid hd2
      have HN := Lib.hid hnx
      have HSet := Lib.hid hset
      have HS := Lib.hid hS
      have HB := Lib.hid hB
      have HLn := Lib.hid hlen
      clear hd hnx hcl hdr hd2 hset hS hB hlen ha1 hcap1
      have HF : Hid (∀ W1, Blk W1 b 93 [.slice (some ⟨c, 0, none⟩) D.cells.length cap1, .slice none 0 0, .int .i64 0, .bool D.off, .bool D.armed, .int .i64 D.left, .int .i64 D.steps] →
          Sl W1 113 4 (.slice (some ⟨c, 0, none⟩) D.cells.length cap1) c D.cells.length (flat ((acc ++ D.cells.drop k).set k (d.crash L))) →
          DevAt W1 b c { D with cells := (crashTo D.cells l (k + 1)).1 ++ D.cells.drop (k + 1) }) := by
        intro W1 hb1 hs2
        rw [HN.out]
        have hl2 : ((acc ++ [d.crash L]) ++ D.cells.drop (k + 1)).length = D.cells.length := by rw [← HSet.out, List.length_set]; exact HLn.out
        refine ⟨.slice (some ⟨c, 0, none⟩) D.cells.length cap1, hb1, ?_, hne, ?_⟩
        · simp only [hl2]; rw [← HSet.out]; exact hs2
        · simp only [hl2]; exact hs1
      have HB' : Hid (Blk wr b 93 [.slice (some ⟨c, 0, none⟩) D.cells.length cap1, .slice none 0 0, .int .i64 0, .bool D.off, .bool D.armed, .int .i64 D.left, .int .i64 D.steps]) := HB
      have HL := Lib.hid hL
      cases hop : d.isOpen with
      | false =>
        have HO := Lib.hid hop
        have h1 : Hid (Sl (wr.setCell ⟨c, k * 4 + 1, none⟩ (.int .u64 d.lasts)) 113 4 (.slice (some ⟨c, 0, none⟩) D.cells.length cap1) c D.cells.length (flat ((acc ++ D.cells.drop k).set k (d.crash L)))) :=
          HS.out.put HLn.out k 1 (by omega) (.int .u64 d.lasts) d _ HD.out (by simp [DCell.crash, hop, DCell.vals])
        clear hop hL
        go_wp2_with (go_at_call 61; refine (open_cell HS.out HLn.out HD false HO).mono ?_; rintro e w' ⟨rfl, q, rfl⟩)
        go_roundw
        case rel =>
          have hk2 : Keeps [c] wr ((wr.setCell ⟨c, k * 4 + 1, none⟩ (.int .u64 d.lasts)).drewN q) := ((Keeps.refl _ _).set (by simp) _ _).drewN q
          refine ⟨k + 1, by omega, by go_num, HF.out _ (HB'.out.set_ne (Ne.symm hne) _ _) h1.out, ?_, hK.trans hk2 (by simp)⟩
          rw [HN.out]
          simp only [DCell.spend, HO.out]
          exact HL.out.keeps hk2 (by simpa using hBc)
        case measure => simp [intOf]; omega
      | true =>
        have HO := Lib.hid hop
        have HX : Hid (d.crash L = { d.keep (fateOf d (L.headD 0)) with stored := fateOf d (L.headD 0) }) := by show _ = _; simp [DCell.crash, hop]
        clear hop hL
        obtain ⟨y, hy⟩ : ∃ y, fateOf d (L.headD 0) = y := ⟨_, rfl⟩
        rw [hy] at HX
        have hL2 : ((acc ++ D.cells.drop k).set k (d.keep y)).length = D.cells.length := by rw [List.length_set]; exact HLn.out
        have hG : ((acc ++ D.cells.drop k).set k (d.keep y))[k]? = some (d.keep y) := by rw [List.getElem?_set_self (by rw [HLn.out]; exact hlt)]
        have HL2 := Lib.hid hL2
        have HG := Lib.hid hG
        have HFin : Hid (∀ (w1 : World) (q : Nat), Sl w1 113 4 (.slice (some ⟨c, 0, none⟩) D.cells.length cap1) c D.cells.length (flat ((acc ++ D.cells.drop k).set k (d.keep y))) → Keeps [c] (wr.drewN q) w1 →
            DevAt (w1.setCell ⟨c, k * 4 + 1, none⟩ (.int .u64 y)) b c { D with cells := (crashTo D.cells l (k + 1)).1 ++ D.cells.drop (k + 1) }) := by
          intro w1 q hs2 hk2
          have hb2 := hk2.blk (HB'.out.drewN q) (by simpa using hne)
          refine HF.out _ (hb2.set_ne (Ne.symm hne) _ _) ?_
          have := hs2.put HL2.out k 1 (by omega) (.int .u64 y) (d.keep y) (d.crash L) HG.out (by rw [HX.out]; rfl)
          rwa [List.set_set] at this
        have HKeep : Hid (∀ (w1 : World) (q : Nat), Keeps [c] (wr.drewN q) w1 → Keeps [c] wr (w1.setCell ⟨c, k * 4 + 1, none⟩ (.int .u64 y))) := by
          intro w1 q hk2
          exact (((Keeps.refl [c] wr).drewN q).trans hk2 (by simp)).set (by simp) _ _
        clear hL2 hG
        cases L with
        | nil =>
          obtain ⟨ua, ucap, rfl, hu1, hu2⟩ := HL.out.shape
          have HY : Hid (fateOf d 0 = y) := hy
          clear hy
          simp only [List.length_nil] at hu1
          go_wp2_with (first | (go_at_call 61; refine (open_cell HS.out HLn.out HD true HO).mono ?_; rintro e w' ⟨rfl, q, rfl⟩) |
            (go_at_call 63; refine (fate_cell (w := wr.drewN q) HS.out HLn.out HD 0 y HY).mono ?_; rintro e w' ⟨rfl, rfl⟩) |
            (go_at_call 62; refine (keep_calls c k _ _ d _ y (wr.drewN q) HD.out HS.out HLn.out).mono ?_; rintro e w1 ⟨rfl, hS1, hK1⟩; obtain ⟨g0, g1, _, _, gf⟩ := cell_facts hS1 HL2.out HG.out; simp only [DCell.keep] at g0 g1; have HS1 := Lib.hid hS1; clear hS1))
          go_roundw
          case rel =>
            refine ⟨k + 1, by omega, by go_num, HFin.out w1 q HS1.out hK1, ?_, hK.trans (HKeep.out w1 q hK1) (by simp)⟩
            rw [HN.out]
            simp only [DCell.spend, HO.out]
            exact HL.out.keeps (HKeep.out w1 q hK1) (by simpa using hBc)
          case measure => simp [intOf]; omega
        | cons x xs =>
          have HY : Hid (fateOf d x = y) := hy
          clear hy
          rcases HL.out with ⟨_, _, _, _, h'⟩ | ⟨o, ucap, rfl, hu1, hu2, hu3⟩
          · cases h'
          have u0 : wr.cell? ⟨B, o, none⟩ = some (.int .i64 x) := hu3 0 (by simp)
          simp only [List.length_cons] at hu1
          have HU3 := Lib.hid hu3
          clear hu3
          have hsl : ∀ W : World, (Instr.slice 54 (.slice (some ⟨B, o, none⟩) (xs.length + 1) ucap) (some (.int .i64 1)) none none).run Tryd.prog W = .ok (.slice (some ⟨B, if ucap = 1 then o else o + 1, none⟩) xs.length (ucap - 1)) W := by
            intro W
            obtain ⟨ii, hii, _, his, _⟩ := info_parts info_int
            have := run_slice_from (P := Tryd.prog) Tryd.underlying54 hii his .i64 1 (xs.length + 1) ucap B o (by omega) W
            simpa using this
          go_wp2_with (first | (go_at_call 61; refine (open_cell HS.out HLn.out HD true HO).mono ?_; rintro e w' ⟨rfl, q, rfl⟩))
          go_quiet (fail)
          go_wp2_with (first | 
            (go_at_call 63; refine (fate_cell (w := _) (by exact HS.out) HLn.out HD x y HY).mono ?_; rintro e w' ⟨rfl, rfl⟩) |
            (go_at_call 62; refine (keep_calls c k _ _ d _ y _ HD.out (by exact HS.out) HLn.out).mono ?_; rintro e w1 ⟨rfl, hS1, hK1⟩; obtain ⟨g0, g1, _, _, gf⟩ := cell_facts hS1 HL2.out HG.out; simp only [DCell.keep] at g0 g1; have HS1 := Lib.hid hS1; clear hS1))
          go_roundw
          case rel =>
            refine ⟨k + 1, by omega, by go_num, HFin.out w1 _ HS1.out hK1, ?_, hK.trans (HKeep.out w1 _ hK1) (by simp)⟩
            rw [HN.out]
            simp only [DCell.spend, HO.out, if_true, List.tail_cons]
            refine Rd.keeps (w := wr) (.inr ⟨if ucap = 1 then o else o + 1, ucap - 1, rfl, by omega, by omega, fun i hi => ?_⟩) (HKeep.out w1 _ hK1) (by simpa using hBc)
            have := HU3.out (i + 1) (by simp only [List.length_cons]; omega)
            rw [if_neg (by omega)]
            simpa [Nat.add_assoc, Nat.add_comm 1] using this
          case measure => simp [intOf]; omega
    · obtain rfl : k = D.cells.length := by omega
      obtain ⟨v1, hB, hS, hne, hs1⟩ := hD
      have c1 := hB.cell 1
      have c2 := hB.cell 2
      have c3 := hB.cell 3
      have c4 := hB.cell 4
      have c5 := hB.cell 5
      have hf := hB.free
      simp at c1 c2 c3 c4 c5
      have HB := Lib.hid hB
      have HS := Lib.hid hS
      have hdr : D.cells.drop D.cells.length = [] := by simp
      have hcl := crashTo_length D.cells l D.cells.length (Nat.le_refl _)
      have HDr := Lib.hid hdr
      have HCl := Lib.hid hcl
      clear hB hS hdr hcl
      go_wp2
      go_end0
      refine ⟨rfl, ?_, hK.trans (S' := [b]) ((((((Keeps.refl _ _).set (by simp) _ _).set (by simp) _ _).set (by simp) _ _).set (by simp) _ _).set (by simp) _ _) (by simp)⟩
      have hb := ((((HB.out.set 1 (.slice none 0 0)).set 2 (.int .i64 0)).set 3 (.bool false)).set 4 (.bool false)).set 5 (.int .i64 0)
      have hs2 := ((((HS.out.set_ne hne 1 (.slice none 0 0)).set_ne hne 2 (.int .i64 0)).set_ne hne 3 (.bool false)).set_ne hne 4 (.bool false)).set_ne hne 5 (.int .i64 0)
      simp only [HDr.out, List.append_nil, HCl.out] at hb hs2
      refine ⟨v1, ?_, ?_, hne, ?_⟩
      · simpa [Dev.crash] using hb
      · simp only [Dev.crash, HCl.out]; exact hs2
      · simp only [Dev.crash, HCl.out]; exact hs
end Go.Proofs.YtfpdikhdfcppeaaDoor
