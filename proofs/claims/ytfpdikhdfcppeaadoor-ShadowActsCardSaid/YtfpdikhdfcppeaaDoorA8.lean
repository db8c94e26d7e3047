/- Walks: bits.Of; package alloc. -/
import Derived.Test.YtfpdikhdfcppeaaDoorA7
namespace Go.Proofs.YtfpdikhdfcppeaaDoor
open Go.RowKit Go.Proofs

theorem wordsL_zero (n : Nat) : wordsL n 0 = List.replicate (nw n) 0 := by
  apply List.ext_getElem?
  intro i
  rw [List.getElem?_replicate]
  split
  · rename_i h; rw [wordsL_get _ _ _ h]; simp [word]
  · rename_i h; rw [List.getElem?_eq_none (by rw [wordsL_length]; omega)]

set_option maxRecDepth 100000 in
set_option maxHeartbeats 1000000 in
theorem of_calls (n B : Nat) (v : Value) (ls : List Int) (w : World) (hn : n ≤ 3072) (h : Rd .i64 w v B ls) (hB : B < w.heap.size) (h0 : 0 < w.heap.size) :
    Calls Tryd.prog 11 #[.int .i64 n, v] w fun e w' => Any fun p' => Any fun q' => e = .returned (.pointer (some ⟨p', 0, none⟩)) ∧ SetAt w' p' q' n (addAll n 0 ls) ∧ Keeps [] w w' ∧ w.heap.size ≤ p' ∧ w.heap.size ≤ q' := by
  obtain ⟨i0, hi, hz0, hz1, hz2⟩ := info_parts info_u64
  have hnw : nw n ≤ 48 := by unfold nw; omega
  have hmk := run_make (P := Tryd.prog) w 80 107 i0 _ Tryd.underlying80 hi hz0 .i64 .i64 (((n : Int) + 64 - 1) / 64) (((n : Int) + 64 - 1) / 64) (by omega) (by omega) (by rw [hz2]; omega) (by omega)
  rw [hz1] at hmk
  simp only [Value.cells] at hmk
  rw [made_one, show (((n : Int) + 64 - 1) / 64).toNat = nw n by unfold nw; omega, Nat.mul_one] at hmk
  clear hz0 hz1 hz2 hi
  have h3 : ¬ (3072 < (n : Int)) := by omega
  generalize hL : List.replicate (nw n) (Value.int IntKind.u64 0) = L at hmk
  have HL := Lib.hid hL
  clear hL
  have HR := Lib.hid h
  clear h
  have hS : Hid (SetAt ((w.alloc (.cells L.toArray 107)).alloc (.cells [Value.int .i64 n, .slice (some ⟨w.heap.size, 0, none⟩) (nw n) (nw n)].toArray 100)) (w.heap.size + 1) w.heap.size n 0) := by
    refine ⟨.slice (some ⟨w.heap.size, 0, none⟩) (nw n) (nw n), ?_, ⟨by simp [u64s, wordsL_length], .inr ⟨nw n, [], rfl, ?_, by simp, Nat.le_refl _, by unfold maxLen; omega⟩⟩, by omega, by omega, h0, Nat.two_pow_pos n, hn, by simp⟩
    · have := Blk.new (w.alloc (.cells L.toArray 107)) 100 [Value.int .i64 n, .slice (some ⟨w.heap.size, 0, none⟩) (nw n) (nw n)]
      simpa using this
    · have hb : Blk (w.alloc (.cells L.toArray 107)) w.heap.size 107 L := Blk.new w _ _
      have := hb.alloc (.cells [Value.int .i64 n, .slice (some ⟨w.heap.size, 0, none⟩) (nw n) (nw n)].toArray 100)
      rw [wordsL_zero, List.append_nil]
      have e : u64s (List.replicate (nw n) 0) = L := by rw [← HL.out]; simp [u64s]
      rw [e]; exact this
  have hk : Hid (Keeps [] w ((w.alloc (.cells L.toArray 107)).alloc (.cells [Value.int .i64 n, .slice (some ⟨w.heap.size, 0, none⟩) (nw n) (nw n)].toArray 100))) := ((Keeps.refl _ _).alloc _).alloc _
  go_enter Tryd.func11, Tryd.ntmps11
  go_wp2_with (go_at_call 48; refine (add_calls (w.heap.size + 1) w.heap.size n 0 B v ls _ (by exact hS.out) (by exact HR.out.keeps hk.out (by simp)) (by omega)).mono ?_; rintro e w1 ⟨rfl, hA, hK⟩)
  go_ret
  exact Any.mk (w.heap.size + 1) (Any.mk w.heap.size ⟨rfl, hA, hk.out.trans hK (by intro k hk hlt; simp at hk; omega), by omega, by omega⟩)

theorem Keeps.set_in {F : List Nat} {w w' : World} (hk : Keeps [] w w') {k : Nat} (hm : k ∈ F) {i : Nat} {v : Value} : Keeps F w (w'.setCell ⟨k, i, none⟩ v) :=
  (hk.mono (by simp)).set (fun _ => hm) i v
/-- An allocator at block a: its four sets (committed, elder, marked, works) lie at P i, their words at Q i; M i: which are in. -/
structure AllocIn (w : World) (a n : Nat) (r : Int) (P Q M : Nat → Nat) : Prop where
  blk : Blk w a 96 [.int .i64 r, .pointer (some ⟨P 0, 0, none⟩), .pointer (some ⟨P 1, 0, none⟩), .pointer (some ⟨P 2, 0, none⟩), .pointer (some ⟨P 3, 0, none⟩)]
  sets : ∀ i, i < 4 → SetAt w (P i) (Q i) n (M i)
  own : ∀ i, i < 4 → a ≠ P i ∧ a ≠ Q i
  dis : ∀ i j, i < 4 → j < 4 → i ≠ j → P i ≠ P j ∧ P i ≠ Q j ∧ Q i ≠ Q j
  pos : 0 < a
def foot (a : Nat) (P Q : Nat → Nat) : List Nat := [a, P 0, Q 0, P 1, Q 1, P 2, Q 2, P 3, Q 3]
theorem mem_foot {a : Nat} {P Q : Nat → Nat} {k : Nat} : k ∈ foot a P Q ↔ k = a ∨ ∃ i, i < 4 ∧ (k = P i ∨ k = Q i) := by
  constructor
  · intro h
    simp only [foot, List.mem_cons, List.not_mem_nil, or_false] at h
    rcases h with h | h | h | h | h | h | h | h | h
    · exact .inl h
    · exact .inr ⟨0, by omega, .inl h⟩
    · exact .inr ⟨0, by omega, .inr h⟩
    · exact .inr ⟨1, by omega, .inl h⟩
    · exact .inr ⟨1, by omega, .inr h⟩
    · exact .inr ⟨2, by omega, .inl h⟩
    · exact .inr ⟨2, by omega, .inr h⟩
    · exact .inr ⟨3, by omega, .inl h⟩
    · exact .inr ⟨3, by omega, .inr h⟩
  · rintro (rfl | ⟨i, hi, h⟩)
    · simp [foot]
    · have : i = 0 ∨ i = 1 ∨ i = 2 ∨ i = 3 := by omega
      rcases this with rfl | rfl | rfl | rfl <;> rcases h with rfl | rfl <;> simp [foot]
/-- An allocator whose blocks are F. -/
def AllocAt (w : World) (a n : Nat) (r : Int) (M : Nat → Nat) (F : List Nat) : Prop := ∃ P Q, F = foot a P Q ∧ AllocIn w a n r P Q M
theorem AllocIn.ptr {w : World} {a n : Nat} {r : Int} {P Q M : Nat → Nat} (h : AllocIn w a n r P Q M) {i : Nat} (hi : i < 4) : w.cell? ⟨a, 1 + i, none⟩ = some (.pointer (some ⟨P i, 0, none⟩)) := by
  rw [h.blk.cell]
  have : i = 0 ∨ i = 1 ∨ i = 2 ∨ i = 3 := by omega
  rcases this with rfl | rfl | rfl | rfl <;> rfl
theorem AllocIn.lt {w : World} {a n : Nat} {r : Int} {P Q M : Nat → Nat} (h : AllocIn w a n r P Q M) : ∀ k ∈ foot a P Q, k < w.heap.size := by
  intro k hk
  rcases mem_foot.1 hk with rfl | ⟨i, hi, rfl | rfl⟩
  · exact h.blk.lt
  · exact (h.sets i hi).lt.1
  · exact (h.sets i hi).lt.2
theorem AllocIn.keeps {K : List Nat} {w w' : World} {a n : Nat} {r : Int} {P Q M : Nat → Nat} (h : AllocIn w a n r P Q M) (hk : Keeps K w w') (hd : ∀ k ∈ foot a P Q, k ∉ K) : AllocIn w' a n r P Q M :=
  ⟨hk.blk h.blk (hd a (mem_foot.2 (.inl rfl))), fun i hi => (h.sets i hi).keeps hk (hd _ (mem_foot.2 (.inr ⟨i, hi, .inl rfl⟩))) (hd _ (mem_foot.2 (.inr ⟨i, hi, .inr rfl⟩))), h.own, h.dis, h.pos⟩
theorem AllocAt.keeps {K : List Nat} {w w' : World} {a n : Nat} {r : Int} {M : Nat → Nat} {F : List Nat} (h : AllocAt w a n r M F) (hk : Keeps K w w') (hd : ∀ k ∈ F, k ∉ K) : AllocAt w' a n r M F := by
  obtain ⟨P, Q, rfl, h⟩ := h
  exact ⟨P, Q, rfl, h.keeps hk hd⟩
theorem AllocAt.lt {w : World} {a n : Nat} {r : Int} {M : Nat → Nat} {F : List Nat} (h : AllocAt w a n r M F) : ∀ k ∈ F, 0 < k ∧ k < w.heap.size := by
  obtain ⟨P, Q, rfl, h⟩ := h
  intro k hk
  refine ⟨?_, h.lt k hk⟩
  rcases mem_foot.1 hk with rfl | ⟨i, hi, rfl | rfl⟩
  · exact h.pos
  · obtain ⟨_, _, _, _, h, _⟩ := h.sets i hi; exact h
  · obtain ⟨_, _, _, _, _, h, _⟩ := h.sets i hi; exact h
def upd (f : Nat → Nat) (i x : Nat) : Nat → Nat := fun j => if j = i then x else f j
/-- From blocks F to blocks F': what is new was not there, and nothing else has turned. -/
def Grows (w w' : World) (F F' : List Nat) : Prop := (∀ x ∈ F', x ∈ F ∨ w.heap.size ≤ x) ∧ Keeps F w w'
theorem Grows.refl (w : World) (F : List Nat) : Grows w w F F := ⟨fun _ h => .inl h, Keeps.refl _ _⟩
theorem Grows.trans {a b c : World} {F F1 F2 : List Nat} (h : Grows a b F F1) (h' : Grows b c F1 F2) : Grows a c F F2 := by
  refine ⟨fun x hx => ?_, h.2.trans h'.2 fun k hk hlt => ?_⟩
  · rcases h'.1 x hx with h1 | h1
    · exact h.1 x h1
    · exact .inr (Nat.le_trans h.2.size h1)
  · rcases h.1 k hk with h1 | h1
    · exact h1
    · omega
theorem Grows.same {w w' : World} {F : List Nat} (h : Keeps [] w w') : Grows w w' F F := ⟨fun _ h => .inl h, h.mono (by simp)⟩
/-- One set's place is taken by a new one. -/
theorem AllocIn.become {w w' : World} {a n : Nat} {r : Int} {P Q M : Nat → Nat} (h : AllocIn w a n r P Q M) (hk : Keeps [] w w') {k p q m : Nat} (hk4 : k < 4) (hS : SetAt w' p q n m) (hp : w.heap.size ≤ p) (hq : w.heap.size ≤ q) :
    AllocIn (w'.setCell ⟨a, 1 + k, none⟩ (.pointer (some ⟨p, 0, none⟩))) a n r (upd P k p) (upd Q k q) (upd M k m) := by
  have hl := h.lt
  have ha : a < w.heap.size := h.blk.lt
  have h' := h.keeps hk (by simp)
  have hP : ∀ i, i < 4 → P i < w.heap.size ∧ Q i < w.heap.size := fun i hi => ⟨(h.sets i hi).lt.1, (h.sets i hi).lt.2⟩
  have hpq : p ≠ q := by obtain ⟨_, _, _, h, _⟩ := hS; exact h
  refine ⟨?_, fun i hi => ?_, fun i hi => ?_, fun i j hi hj hij => ?_, h.pos⟩
  · have := h'.blk.set (1 + k) (.pointer (some ⟨p, 0, none⟩))
    have hk' : k = 0 ∨ k = 1 ∨ k = 2 ∨ k = 3 := by omega
    rcases hk' with rfl | rfl | rfl | rfl <;> simpa [upd] using this
  · have key : ∀ p' q' m', SetAt w' p' q' n m' → a ≠ p' → a ≠ q' → SetAt (w'.setCell ⟨a, 1 + k, none⟩ (.pointer (some ⟨p, 0, none⟩))) p' q' n m' := fun p' q' m' hs h1 h2 =>
      hs.keeps (K := [a]) ((Keeps.refl [a] w').set (by simp) _ _) (by simpa using fun e => h1 e.symm) (by simpa using fun e => h2 e.symm)
    by_cases e : i = k
    · subst e; simp only [upd, if_true]; exact key _ _ _ hS (by omega) (by omega)
    · simp only [upd, if_neg e]; exact key _ _ _ (h'.sets i hi) (h.own i hi).1 (h.own i hi).2
  · by_cases e : i = k
    · subst e; simp only [upd, if_true]; omega
    · simp only [upd, if_neg e]; exact h.own i hi
  · have h1 := hP i hi
    have h2 := hP j hj
    by_cases e : i = k
    · subst e
      simp only [upd, if_true, if_neg (fun e => hij e.symm : ¬ j = i)]
      exact ⟨by omega, by omega, by omega⟩
    · by_cases e2 : j = k
      · subst e2
        simp only [upd, if_true, if_neg e]
        exact ⟨by omega, by omega, by omega⟩
      · simp only [upd, if_neg e, if_neg e2]; exact h.dis i j hi hj hij

set_option maxHeartbeats 1000000 in
theorem become_calls (a n k o : Nat) (r : Int) (M : Nat → Nat) (F : List Nat) (w : World) (h : AllocAt w a n r M F) (hT : Tab w) (hk : k < 4) (ho : o < 4) (hko : k ≠ o) :
    Calls Tryd.prog 52 #[.pointer (some ⟨a, 0, none⟩), .int .i64 k, .int .i64 o] w fun e w' => Any fun F' => e = .returned (.tuple #[]) ∧ AllocAt w' a n r (upd M k (M o)) F' ∧ Grows w w' F F' := by
  obtain ⟨P, Q, rfl, h⟩ := h
  have cp := h.ptr ho
  have ck := h.ptr hk
  have fr := h.blk.free (1 + k)
  have hs := h.sets o ho
  have ha := h.blk.lt
  have HI := Lib.hid h
  have HT := Lib.hid hT
  have HS := Lib.hid hs
  clear h hT hs
  have o1 : (0 : Int) ≤ o := by omega
  have o2 : (o : Int) < 4 := by omega
  have k1 : (0 : Int) ≤ k := by omega
  have k2 : (k : Int) < 4 := by omega
  have hne : (⟨a, 1 + k, none⟩ : Addr) ≠ ⟨a, 1 + o, none⟩ := by intro e; injection e with _ e _; omega
  go_enter Tryd.func52, Tryd.ntmps52
  go_wp2
  go_region_held3 (fun W => W.cell? ⟨a, 1 + o, none⟩ = some (.pointer (some ⟨P o, 0, none⟩))) ((first | (rw [World.cell?_setCell_other _ _ _ _ hne]; assumption) | go_keep))
    (first | (go_at_call 47; refine (copied_calls (P o) (Q o) n (M o) _ (by exact HS.out) (by exact HT.out)).mono ?_; rintro e w1 ⟨p', q', rfl, hC, hK0, hp, hq⟩; have hK : Keeps [] w w1 := (Keeps.refl [] w).drew.trans hK0 (by simp); have e1 : w1.cell? ⟨a, 1 + o, none⟩ = some (.pointer (some ⟨P o, 0, none⟩)) := (HI.out.keeps hK (by simp)).ptr ho; have e2 : w1.cell? ⟨a, 1 + k, none⟩ = some (.pointer (some ⟨P k, 0, none⟩)) := (HI.out.keeps hK (by simp)).ptr hk; have e3 := (HI.out.keeps hK (by simp)).blk.free (1 + k)))
  go_wp2
  go_end0
  refine Any.mk (foot a (upd P k p') (upd Q k q')) ⟨rfl, ⟨_, _, rfl, HI.out.become hK hk hC hp hq⟩, ⟨fun x hx => ?_, hK.set_in ?_⟩⟩
  · rcases mem_foot.1 hx with rfl | ⟨i, hi, h⟩
    · exact .inl (mem_foot.2 (.inl rfl))
    · by_cases e : i = k
      · subst e
        simp only [upd, if_true] at h
        right
        have h1 : w.drew.heap.size = w.heap.size := rfl
        rcases h with rfl | rfl <;> omega
      · simp only [upd, if_neg e] at h
        exact .inl (mem_foot.2 (.inr ⟨i, hi, h⟩))
  · exact mem_foot.2 (.inl rfl)

theorem Tab.grows {w w' : World} {a n : Nat} {r : Int} {M : Nat → Nat} {F F' : List Nat} (hT : Tab w) (h : AllocAt w a n r M F) (hg : Grows w w' F F') : Tab w' :=
  hT.keeps hg.2 fun h0 => by have := (h.lt _ h0).1; omega

def mMark (M : Nat → Nat) : Nat → Nat := upd M 2 (M 3)
def mBack (M : Nat → Nat) : Nat → Nat := upd M 3 (M 2)
def mCommit (M : Nat → Nat) : Nat → Nat := mMark (upd (upd M 1 (M 0)) 0 (M 3))
def mAbort (M : Nat → Nat) : Nat → Nat := mMark (upd M 3 (M 0))

section
variable (a n : Nat) (r : Int) (M : Nat → Nat) (F : List Nat) (w : World) (h : AllocAt w a n r M F) (hT : Tab w)
include h hT

set_option maxHeartbeats 400000 in
theorem mark_calls : Calls Tryd.prog 16 #[.pointer (some ⟨a, 0, none⟩)] w fun e w' => Any fun F' => e = .returned (.tuple #[]) ∧ AllocAt w' a n r (mMark M) F' ∧ Grows w w' F F' := by
  go_enter Tryd.func16, Tryd.ntmps16
  go_wp2_with (go_at_call 52; refine (become_calls a n 2 3 r M F w h hT (by omega) (by omega) (by omega)).mono ?_; rintro e w1 ⟨F1, rfl, h1, g1⟩)
  go_end0
  exact Any.mk F1 ⟨rfl, h1, g1⟩

set_option maxHeartbeats 400000 in
theorem back_calls : Calls Tryd.prog 25 #[.pointer (some ⟨a, 0, none⟩)] w fun e w' => Any fun F' => e = .returned (.tuple #[]) ∧ AllocAt w' a n r (mBack M) F' ∧ Grows w w' F F' := by
  go_enter Tryd.func25, Tryd.ntmps25
  go_wp2_with (go_at_call 52; refine (become_calls a n 3 2 r M F w h hT (by omega) (by omega) (by omega)).mono ?_; rintro e w1 ⟨F1, rfl, h1, g1⟩)
  go_end0
  exact Any.mk F1 ⟨rfl, h1, g1⟩

set_option maxHeartbeats 400000 in
theorem commit_calls : Calls Tryd.prog 28 #[.pointer (some ⟨a, 0, none⟩)] w fun e w' => Any fun F' => e = .returned (.tuple #[]) ∧ AllocAt w' a n r (mCommit M) F' ∧ Grows w w' F F' := by
  go_enter Tryd.func28, Tryd.ntmps28
  go_wp2_with fail
  refine (become_calls a n 1 0 r M F w h hT (by omega) (by omega) (by omega)).mono ?_
  rintro e w1 ⟨F1, rfl, h1, g1⟩
  have hT1 := hT.grows h g1
  go_wp2_with fail
  refine (become_calls a n 0 3 r _ F1 w1 h1 hT1 (by omega) (by omega) (by omega)).mono ?_
  rintro e w2 ⟨F2, rfl, h2, g2⟩
  have hT2 := hT1.grows h1 g2
  go_wp2_with (go_at_call 16; refine (mark_calls a n r _ F2 w2 h2 hT2).mono ?_; rintro e w3 ⟨F3, rfl, h3, g3⟩)
  go_end0
  exact Any.mk F3 ⟨rfl, h3, (g1.trans g2).trans g3⟩

set_option maxHeartbeats 400000 in
theorem abort_calls : Calls Tryd.prog 39 #[.pointer (some ⟨a, 0, none⟩)] w fun e w' => Any fun F' => e = .returned (.tuple #[]) ∧ AllocAt w' a n r (mAbort M) F' ∧ Grows w w' F F' := by
  go_enter Tryd.func39, Tryd.ntmps39
  go_wp2_with fail
  refine (become_calls a n 3 0 r M F w h hT (by omega) (by omega) (by omega)).mono ?_
  rintro e w1 ⟨F1, rfl, h1, g1⟩
  have hT1 := hT.grows h g1
  go_wp2_with (go_at_call 16; refine (mark_calls a n r _ F1 w1 h1 hT1).mono ?_; rintro e w3 ⟨F3, rfl, h3, g3⟩)
  go_end0
  exact Any.mk F3 ⟨rfl, h3, g1.trans g3⟩

set_option maxHeartbeats 400000 in
theorem works_calls : Calls Tryd.prog 22 #[.pointer (some ⟨a, 0, none⟩)] w fun e w' => Any fun p' => Any fun q' => e = .returned (.pointer (some ⟨p', 0, none⟩)) ∧ SetAt w' p' q' n (M 3) ∧ Keeps [] w w' ∧ w.heap.size ≤ p' ∧ w.heap.size ≤ q' := by
  obtain ⟨P, Q, rfl, h⟩ := h
  have c3 := h.ptr (i := 3) (by omega)
  have hs := h.sets 3 (by omega)
  have HI := Lib.hid h
  clear h
  go_enter Tryd.func22, Tryd.ntmps22
  go_wp2_with (go_at_call 47; refine (copied_calls (P 3) (Q 3) n (M 3) w hs hT).mono ?_; rintro e w1 ⟨p', q', rfl, hC, hK, hp, hq⟩)
  go_ret
  exact Any.mk p' (Any.mk q' ⟨rfl, hC, hK, hp, hq⟩)

omit hT
set_option maxHeartbeats 400000 in
theorem own_calls (at_ : Int) : Calls Tryd.prog 54 #[.pointer (some ⟨a, 0, none⟩), .int .i64 at_] w fun e w' => e = .returned (.bool (hasBit n (M 3) at_ && !hasBit n (M 2) at_)) ∧ w = w' := by
  obtain ⟨P, Q, rfl, h⟩ := h
  have c3 := h.ptr (i := 3) (by omega)
  have c2 := h.ptr (i := 2) (by omega)
  have hs3 := has_calls (P 3) (Q 3) n (M 3) at_ w (h.sets 3 (by omega))
  have hs2 := has_calls (P 2) (Q 2) n (M 2) at_ w (h.sets 2 (by omega))
  have H2 := Lib.hid hs2
  generalize hasBit n (M 2) at_ = b2 at *
  clear h hs2
  cases hb : hasBit n (M 3) at_ with
  | true =>
    rw [hb] at hs3
    have H3 := Lib.hid hs3
    clear hb hs3
    go_enter Tryd.func54, Tryd.ntmps54
    go_wp2_with fail
    refine H3.out.mono ?_
    rintro e w1 ⟨rfl, rfl⟩
    go_wp2_with fail
    refine H2.out.mono ?_
    rintro e w1 ⟨rfl, rfl⟩
    go_wp2_with fail
    go_ret
    exact ⟨by simp, rfl⟩
  | false =>
    rw [hb] at hs3
    have H3 := Lib.hid hs3
    clear hb hs3
    go_enter Tryd.func54, Tryd.ntmps54
    go_wp2_with fail
    refine H3.out.mono ?_
    rintro e w1 ⟨rfl, rfl⟩
    go_wp2_with fail
    go_ret
    exact ⟨by simp, rfl⟩
end
end Go.Proofs.YtfpdikhdfcppeaaDoor
