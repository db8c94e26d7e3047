/- Walks of package octet: octets of words, words of octets. -/
import Derived.Test.YtfpdikhdfcppeaaDoorA2
namespace Go.Proofs.YtfpdikhdfcppeaaDoor
open Go.RowKit Go.Proofs

def lenOf : Value → Nat | .slice _ n _ => n | _ => 0
def u8s (l : List Int) : List Value := l.map (Value.int .u8)
def u64s (l : List Int) : List Value := l.map (Value.int .u64)

theorem info_u8 : (Tryd.prog.info? 5).map (fun i => (i.zero, i.size, i.bytes)) = some (some (.int .u8 0), 1, 1) := by kernel_rfl

theorem Keeps.grown {S : List Nat} {a b c : World} {row : Option Nat} (h : Keeps S a b) (hg : b.grownBy c row) (hr : ∀ k, row = some k → k < a.heap.size → k ∈ S) : Keeps S a c :=
  ⟨hg.os.trans h.os, hg.tape.trans h.tape, hg.output.trans h.output, Nat.le_trans h.size hg.size, fun k hk hn => by
    rw [hg.block k (Nat.lt_of_lt_of_le hk h.size) (fun e => hn (hr k e.symm hk)), h.block k hk hn]⟩

set_option maxRecDepth 100000 in
set_option maxHeartbeats 1000000 in
theorem lay_calls (x : Int) (n : Nat) (w : World) (hx : 0 ≤ x) (hn : n ≤ 8) :
    Calls Tryd.prog 98 #[.int .u64 x, .int .i64 n] w fun e w' => Any fun v => e = .returned v ∧ w'.ownsRow w.heap.size 5 1 v n (u8s (leBytes x n)) ∧ Keeps [] w w' ∧ v ≠ .slice none 0 0 := by
  obtain ⟨i0, hi, hz0, hz1, hz2⟩ := info_parts info_u8
  have hmk := run_make (P := Tryd.prog) w 43 5 i0 _ Tryd.underlying43 hi hz0 .i64 .i64 (n : Int) (n : Int) (by omega) (by omega) (by rw [hz2]; omega) (by omega)
  rw [hz1] at hmk
  simp only [Value.cells] at hmk
  rw [made_one] at hmk
  simp at hmk
  clear hz0 hz1 hz2 hi
  have h8 : ¬ (8 < (n : Int)) := by omega
  go_enter Tryd.func98, Tryd.ntmps98
  go_wp2
  go_loopw [0, 17] (fun u t wr => ∃ k : Nat, k ≤ n ∧ t = .int .i64 k ∧ u = .int .u64 (x / 256 ^ k) ∧ Blk wr w.heap.size 5 (u8s (leBytes x k) ++ List.replicate (n - k) (.int .u8 0)) ∧ Keeps [] w wr) (fun _ t _ => n - (intOf t).toNat)
  case atStart =>
    refine ⟨0, by omega, rfl, by simp, ?_, (Keeps.refl _ _).alloc _⟩
    have := Blk.new w 5 (List.replicate n (.int .u8 0))
    simpa [leBytes, u8s] using this
  case round =>
    obtain ⟨k, hk, rfl, rfl, hB, hK⟩ := hrel
    by_cases hlt : k < n
    · have c0 : wr.cell? ⟨w.heap.size, k, none⟩ = some (.int .u8 0) := by
        rw [hB.cell, List.getElem?_append_right (by simp [u8s, leBytes_length])]
        rw [List.getElem?_replicate, if_pos (by simp [u8s, leBytes_length]; omega)]
      have hf := hB.free k
      have HB := Lib.hid hB
      clear hB
      go_wp2
      go_roundw
      case rel =>
        refine ⟨k + 1, by omega, by go_num, ?_, ?_, hK.set (by omega) _ _⟩
        · rw [Int.pow_succ, Int.ediv_ediv_of_nonneg (Int.le_of_lt (Int.pow_pos (by omega)))]
        · have := HB.out.set k (.int .u8 (x / 256 ^ k % 256))
          rw [List.set_append_right _ _ (by simp [u8s, leBytes_length])] at this
          rw [leBytes_snoc]
          have h1 : n - k = (n - (k + 1)) + 1 := by omega
          rw [h1, List.replicate_succ] at this
          simpa [u8s, leBytes_length] using this
      case measure => simp [intOf]; omega
    · obtain rfl : k = n := by omega
      go_wp2
      go_ret
      refine Any.mk _ ⟨rfl, ?_, hK, by simp⟩
      refine ⟨by simp [u8s, leBytes_length], .inr ⟨w.heap.size, k, (u8s (leBytes x k)).toArray, rfl, Nat.le_refl _, ?_, Nat.le_refl _, by unfold maxLen; omega, by simp [u8s, leBytes_length], by rw [Nat.mul_one]; exact List.take_of_length_le (by simp [u8s, leBytes_length])⟩⟩
      have := hB
      simp at this
      exact this

theorem ownsRow_keeps {S : List Nat} {w w' : World} {base : Nat} {e : TypeId} {size : Nat} {v : Value} {n : Nat} {xs : List Value} (h : w.ownsRow base e size v n xs) (hk : Keeps S w w') (hn : ∀ k, v.ownBlock = some k → k ∉ S) : w'.ownsRow base e size v n xs := by
  refine ⟨h.1, ?_⟩
  rcases h.2 with hn | ⟨g, cap, cur, rfl, hb, hgg, rest⟩
  · exact .inl hn
  · refine .inr ⟨g, cap, cur, rfl, hb, ?_, rest⟩
    rw [hk.block g (Array.getElem?_eq_some_iff.1 hgg).1 (hn g rfl)]
    exact hgg

theorem ownsRow_base {w : World} {base base' : Nat} {e : TypeId} {size : Nat} {v : Value} {n : Nat} {xs : List Value} (h : w.ownsRow base e size v n xs) (hb : base' ≤ base) : w.ownsRow base' e size v n xs := by
  refine ⟨h.1, ?_⟩
  rcases h.2 with hn | ⟨g, cap, cur, rfl, hb2, rest⟩
  · exact .inl hn
  · exact .inr ⟨g, cap, cur, rfl, Nat.le_trans hb hb2, rest⟩

theorem ownsRow_some {w : World} {base : Nat} {e : TypeId} {v : Value} {n : Nat} {xs : List Value} (h : w.ownsRow base e 1 v n xs) (hv : v ≠ .slice none 0 0) :
    ∃ g cap, v = .slice (some ⟨g, 0, none⟩) n cap ∧ base ≤ g ∧ n ≤ cap ∧ cap ≤ maxLen ∧ ∀ j u, xs[j]? = some u → w.cell? ((⟨g, 0, none⟩ : Addr).add j) = some u := by
  have hc := fun g => World.ownsRow.cells h (g := g)
  rcases h.2 with ⟨hn, _⟩ | ⟨g, cap, cur, rfl, hb, hgg, h1, h2, _⟩
  · exact absurd hn hv
  · exact ⟨g, cap, rfl, hb, h1, h2, hc g rfl⟩

theorem getD_lt {α : Type} (l : List α) {i : Nat} (d : α) (h : i < l.length) : l.getD i d = l[i] := by simp [List.getD, List.getElem?_eq_getElem h]

def bytesOf (ls : List Int) : List Int := ls.flatMap fun x => leBytes x 8
theorem bytesOf_length (ls : List Int) : (bytesOf ls).length = ls.length * 8 := by
  induction ls with
  | nil => rfl
  | cons x l ih => simp only [bytesOf, List.flatMap_cons, List.length_append, List.length_cons] at *; rw [ih, leBytes_length]; omega
theorem bytesOf_snoc (ls : List Int) (x : Int) : bytesOf (ls ++ [x]) = bytesOf ls ++ leBytes x 8 := by simp [bytesOf]

theorem Rd.get {k : IntKind} {w : World} {v : Value} {B : Nat} {ls : List Int} (h : Rd k w v B ls) {i : Nat} (hi : i < ls.length) :
    ∃ o cap, v = .slice (some ⟨B, o, none⟩) ls.length cap ∧ w.cell? ⟨B, o + i, none⟩ = some (.int k (ls.getD i 0)) := by
  rcases h with ⟨a, cap, rfl, hc, rfl⟩ | ⟨o, cap, rfl, h1, h2, h3⟩
  · simp at hi
  · exact ⟨o, cap, rfl, h3 i hi⟩

set_option maxRecDepth 100000 in
set_option maxHeartbeats 1000000 in
theorem octets_calls (B : Nat) (v : Value) (ls : List Int) (w : World) (h : Rd .u64 w v B ls) (hx : ∀ x ∈ ls, 0 ≤ x) (hl : ls.length ≤ 100000) :
    Calls Tryd.prog 83 #[v] w fun e w' => Any fun u => e = .returned u ∧ w'.ownsRow w.heap.size 5 1 u (ls.length * 8) (u8s (bytesOf ls)) ∧ Keeps [] w w' := by
  obtain ⟨i0, hi, hz0, hz1, hz2⟩ := info_parts info_u8
  obtain ⟨a, cap, rfl, hcap, hmax⟩ := h.shape
  go_enter Tryd.func83, Tryd.ntmps83
  go_wp2
  go_loopw [3, 8] (fun u t wr => ∃ k : Nat, k ≤ ls.length ∧ t = .int .i64 k ∧ wr.ownsRow w.heap.size 5 1 u (k * 8) (u8s (bytesOf (ls.take k))) ∧ Keeps [] w wr) (fun _ t _ => ls.length - (intOf t).toNat)
  case atStart => exact ⟨0, by omega, rfl, by simpa [bytesOf, u8s] using World.ownsRow_nil w w.heap.size 5 1, Keeps.refl _ _⟩
  case round =>
    obtain ⟨k, hk, rfl, hO, hK⟩ := hrel
    by_cases hlt : k < ls.length
    · obtain ⟨o, cap1, hv, c0⟩ := (h.keeps hK (by simp)).get hlt
      obtain ⟨rfl, rfl⟩ : a = some ⟨B, o, none⟩ ∧ cap1 = cap := by injection hv with h1 h2 h3; exact ⟨h1, h3.symm⟩
      obtain ⟨x, hxe⟩ : ∃ x, ls.getD k 0 = x := ⟨_, rfl⟩
      rw [hxe] at c0
      have hx0 : 0 ≤ x := by rw [← hxe]; rw [getD_lt _ _ hlt]; exact hx _ (List.getElem_mem _)
      have HT : Hid (ls.take (k + 1) = ls.take k ++ [x]) := by show _ = _; rw [List.take_succ_eq_append_getElem hlt, ← hxe, getD_lt _ _ hlt]
      have HO := Lib.hid hO
      have HX := Lib.hid hx
      have HH := Lib.hid h
      clear hxe hv hO hx h
      go_wp2_with (first | (go_at_call 98; refine (lay_calls x 8 _ hx0 (by omega)).mono ?_; rintro e w1 ⟨v1, rfl, hL, hK1, hv1⟩; obtain ⟨g, cap2, rfl, hg1, hg2, hg3, hg4⟩ := ownsRow_some hL hv1; have HG4 := Lib.hid hg4; clear hg4 hv1) |
        (at_builtin; refine wpList_append_own _ rfl _ _ 43 rfl w.heap.size 5 i0 (.int .u8 0) 1 1 Tryd.underlying43 hi hz0 hz1 hz2 rfl (by decide) _ _ _ rfl (ownsRow_keeps HO.out hK1 (by simp)) ⟨g, 0, none⟩ 8 cap2 (u8s (leBytes x 8)) rfl (by simp [u8s, leBytes_length]) HG4.out ?c1 ?c2 ?c3 ?c4 ?_))
      case c1 => intro u hu; simp [u8s] at hu; obtain ⟨y, _, rfl⟩ := hu; rfl
      case c2 => unfold maxLen; omega
      case c3 => omega
      case c4 => exact Nat.le_trans hK.size hK1.size
      intro v2 w2 hO2 hG2 hnil
      have hG3 := Lib.hid hG2
      have hO3 := Lib.hid hO2
      clear hG2 hO2 hnil
      go_wp2
      go_roundw
      case rel =>
        refine ⟨k + 1, by omega, by go_num, ?_, ?_⟩
        · rw [HT.out, bytesOf_snoc]
          have := hO3.out
          simpa [u8s, Nat.add_mul] using this
        · refine (hK.trans hK1 (by simp)).grown hG3.out fun j hj hlt2 => ?_
          have := (HO.out.lt j hj).1
          omega
      case measure => simp [intOf]; omega
    · obtain rfl : k = ls.length := by omega
      go_wp2
      go_ret
      refine Any.mk _ ⟨rfl, ?_, hK⟩
      simpa using hO

set_option maxRecDepth 100000 in
set_option maxHeartbeats 1000000 in
theorem read_calls (B : Nat) (v : Value) (bs : List Int) (w : World) (h : Rd .u8 w v B bs) (hx : ∀ x ∈ bs, 0 ≤ x ∧ x < 256) :
    Calls Tryd.prog 104 #[v] w fun e w' => e = .returned (.int .u64 (leWord (bs.take 8))) ∧ w = w' := by
  obtain ⟨a, cap, rfl, hcap, hmax⟩ := h.shape
  have HX := Lib.hid hx
  have HH := Lib.hid h
  clear hx h
  rcases Nat.lt_trichotomy bs.length 8 with hle | hle | hle
  all_goals
    go_enter Tryd.func104, Tryd.ntmps104
    go_wp2
    go_loop [3, 12] (fun u t => ∃ k : Nat, k ≤ 8 ∧ k ≤ bs.length ∧ t = .int .i64 k ∧ u = .int .u64 (leWord (bs.take k))) (fun _ t => 8 - (intOf t).toNat)
    case atStart => exact ⟨0, by omega, by omega, rfl, by simp [leWord]⟩
    case round =>
      obtain ⟨k, hk, hk2, rfl, rfl⟩ := hrel
      by_cases hlt : k < 8 ∧ k < bs.length
      · obtain ⟨hl1, hl2⟩ := hlt
        obtain ⟨o, cap1, hv, c0⟩ := HH.out.get hl2
        obtain ⟨rfl, rfl⟩ : a = some ⟨B, o, none⟩ ∧ cap1 = cap := by injection hv with h1 h2 h3; exact ⟨h1, h3.symm⟩
        obtain ⟨x, hxe⟩ : ∃ x, bs.getD k 0 = x := ⟨_, rfl⟩
        rw [hxe] at c0
        have hx0 : 0 ≤ x ∧ x < 256 := by rw [← hxe]; rw [getD_lt _ _ hl2]; exact HX.out _ (List.getElem_mem _)
        obtain ⟨hx1, hx2⟩ := hx0
        have HXE := Lib.hid hxe
        obtain ⟨y, hy⟩ : ∃ y, leWord (bs.take k) = y := ⟨_, rfl⟩
        have HY := Lib.hid hy
        rw [hy]
        clear hxe hv hy
        go_wp2
        go_round
        case rel =>
          refine ⟨k + 1, by omega, by omega, by go_num, ?_⟩
          have hb := leWord_bound (bs.take k) (fun z hz => HX.out z (List.mem_of_mem_take hz))
          rw [HY.out, List.length_take, Nat.min_eq_left (by omega)] at hb
          rw [or_shift y x k hl1 hb.1 hb.2 hx1 hx2, List.take_succ_eq_append_getElem hl2, leWord_snoc, HY.out, List.length_take, Nat.min_eq_left (by omega), ← HXE.out, getD_lt _ _ hl2]
        case measure => simp [intOf]; omega
      · obtain ⟨y, hy⟩ : ∃ y, leWord (bs.take k) = y := ⟨_, rfl⟩
        have HY : Hid (leWord (bs.take 8) = y) := by
          rw [← hy]
          show _ = _
          rcases Nat.lt_or_ge k 8 with h1 | h1
          · rw [List.take_of_length_le (by omega), List.take_of_length_le (by omega)]
          · rw [show k = 8 by omega]
        rw [hy]
        clear hy
        have h1 : ¬ k < bs.length ∨ ¬ k < 8 := by omega
        go_wp2
        go_ret
        exact ⟨ret_int HY.out.symm, rfl⟩

theorem one_cell_new (w : World) (t : TypeId) (u : Value) : ∀ j x, [u][j]? = some x → (w.alloc (.cells #[u] t)).cell? ((⟨w.heap.size, 0, none⟩ : Addr).add j) = some x := by
  intro j x hx
  cases j with
  | zero => simp at hx; subst hx; simp [Addr.add]
  | succ j => simp at hx

def wordsOf (bs : List Int) (k : Nat) : List Int := (List.range k).map fun i => leWord ((bs.drop (8 * i)).take 8)

theorem Rd.drop {k : IntKind} {w : World} {B n o cap : Nat} {ls : List Int} (h : Rd k w (.slice (some ⟨B, o, none⟩) ls.length cap) B ls) (hn : n ≤ ls.length) :
    Rd k w (.slice (some ⟨B, if cap = n then o else o + n, none⟩) (ls.length - n) (cap - n)) B (ls.drop n) := by
  rcases h with ⟨a, cap', hv, hc, rfl⟩ | ⟨o', cap', hv, h1, h2, h3⟩
  · injection hv with _ _ hv
    obtain rfl : n = 0 := by simpa using hn
    exact .inl ⟨_, _, rfl, by omega, rfl⟩
  · injection hv with ha _ hc
    injection ha with ha
    injection ha with _ ho _
    subst ho; subst hc
    refine .inr ⟨_, _, by rw [List.length_drop], by rw [List.length_drop]; omega, by omega, fun i hi => ?_⟩
    rw [List.length_drop] at hi
    rw [if_neg (by omega)]
    have := h3 (n + i) (by omega)
    rw [Nat.add_assoc, this]
    simp [List.getD]

set_option maxRecDepth 100000 in
set_option maxHeartbeats 1000000 in
theorem words_calls (B : Nat) (v : Value) (bs : List Int) (w : World) (h : Rd .u8 w v B bs) (hx : ∀ x ∈ bs, 0 ≤ x ∧ x < 256) (hl : bs.length ≤ 1000000) :
    Calls Tryd.prog 96 #[v] w fun e w' => Any fun u => e = .returned u ∧ w'.ownsRow w.heap.size 107 1 u (bs.length / 8) (u64s (wordsOf bs (bs.length / 8))) ∧ Keeps [] w w' := by
  obtain ⟨i0, hi, hz0, hz1, hz2⟩ := info_parts info_u64
  obtain ⟨i8, hi8, _, hz8, _⟩ := info_parts info_u8
  have HX := Lib.hid hx
  go_enter Tryd.func96, Tryd.ntmps96
  go_wp2
  go_loopw [0, 3] (fun t u wr => ∃ k : Nat, 8 * k ≤ bs.length ∧ Rd .u8 w t B (bs.drop (8 * k)) ∧ wr.ownsRow w.heap.size 107 1 u k (u64s (wordsOf bs k)) ∧ Keeps [] w wr) (fun t _ _ => lenOf t)
  case atStart => exact ⟨0, by omega, by simpa using h, by simpa [wordsOf, u64s] using World.ownsRow_nil w w.heap.size 107 1, Keeps.refl _ _⟩
  case round =>
    obtain ⟨k, hk, hR, hO, hK⟩ := hrel
    obtain ⟨a, cap, rfl, hcap, hmax⟩ := hR.shape
    have hlen : (bs.drop (8 * k)).length = bs.length - 8 * k := by rw [List.length_drop]
    have HO := Lib.hid hO
    have HR := Lib.hid hR
    have HRw := Lib.hid (hR.keeps hK (by simp))
    have HX2 : Hid (∀ x ∈ bs.drop (8 * k), 0 ≤ x ∧ x < 256) := fun x hx => HX.out x (List.mem_of_mem_drop hx)
    obtain ⟨ls, hls⟩ : ∃ ls, bs.drop (8 * k) = ls := ⟨_, rfl⟩
    rw [hls] at hcap hlen HR HRw HX2 ⊢
    by_cases hlt : 8 ≤ ls.length
    · obtain ⟨o, cap1, hv, _⟩ := HR.out.get (show 0 < ls.length by omega)
      obtain ⟨rfl, rfl⟩ : a = some ⟨B, o, none⟩ ∧ cap1 = cap := by injection hv with h1 h2 h3; exact ⟨h1, h3.symm⟩
      have hsl := fun W => run_slice_from (P := Tryd.prog) Tryd.underlying43 hi8 hz8 .i64 8 ls.length cap1 B o hlt W
      have HD := Lib.hid (HR.out.drop hlt)
      have HLS := Lib.hid hls
      have HLen := Lib.hid hlen
      have hb : k < 1000000 := by omega
      obtain ⟨y, hy⟩ : ∃ y, leWord (ls.take 8) = y := ⟨_, rfl⟩
      have HY := Lib.hid hy
      clear hO hR hls hlen hv hx h hy
      go_wp2_with (first | (go_at_call 104; refine (read_calls B _ ls wr HRw.out HX2.out).mono ?_; rw [HY.out]; rintro e w1 ⟨rfl, rfl⟩) |
        (at_builtin; refine wpList_append_own _ rfl _ _ 80 rfl w.heap.size 107 i0 (.int .u64 0) 1 8 Tryd.underlying80 hi hz0 hz1 hz2 rfl (by decide) _ _ _ rfl (HO.out.alloc _) ⟨wr.heap.size, 0, none⟩ 1 1 [.int .u64 y] rfl rfl ?c1 ?c2 ?c3 ?c4 ?c5 ?_))
      case c1 => exact one_cell_new wr _ _
      case c2 => intro u hu; simp at hu; subst hu; rfl
      case c3 => unfold maxLen; omega
      case c4 => omega
      case c5 => simp only [World.size_alloc]; exact Nat.le_succ_of_le hK.size
      intro v2 w2 hO2 hG2 hnil
      have hG3 := Lib.hid hG2
      have hO3 := Lib.hid hO2
      clear hG2 hO2 hnil
      go_wp2
      go_roundw
      case rel =>
        have hlen := HLen.out
        have hd : (bs.drop (8 * (k + 1))) = ls.drop 8 := by rw [← HLS.out, List.drop_drop]; congr 1
        refine ⟨k + 1, by omega, ?_, ?_, ?_⟩
        · rw [hd]
          have := HD.out
          by_cases hc : cap1 = 8
          · simpa [hc] using this
          · simpa [hc] using this
        · have := hO3.out
          simp only [wordsOf, List.range_succ, List.map_append, List.map_cons, List.map_nil, u64s] at this ⊢
          rw [HLS.out, HY.out]
          exact this
        · refine (hK.alloc _).grown hG3.out fun j hj hlt2 => ?_
          have := (HO.out.lt j hj).1
          omega
      case measure => simp [lenOf]; omega
    · have hk8 : k = bs.length / 8 := by omega
      clear hR hO
      go_wp2
      go_ret
      refine Any.mk _ ⟨rfl, ?_, hK⟩
      rw [← hk8]; exact HO.out
end Go.Proofs.YtfpdikhdfcppeaaDoor
