/- Words on memory: a block of cells, what a call leaves alone, a slice that lies in a block of its own. No Go text in sight. -/
import Derived.Test.YtfpdikhdfcppeaaDoorProg
import Derived.WalkKit
import Derived.WalkSpells
import Derived.WalkLawsBesides
import Derived.Deep.QuietTactic
import Derived.BigQuiet
import Derived.Lib.Hide
import Derived.Deep.LoopGhost
import Derived.IntWalk
import Derived.BigRegion
namespace Go.Proofs.YtfpdikhdfcppeaaDoor
open Go.RowKit Go.Proofs

/-- A block of cells, none of them frozen. -/
def Blk (w : World) (b : Nat) (e : TypeId) (l : List Value) : Prop := w.heap[b]? = some (.cells l.toArray e (0, 0))

section
variable {w : World} {b : Nat} {e : TypeId} {l : List Value}
theorem Blk.cell (h : Blk w b e l) (i : Nat) : w.cell? ⟨b, i, none⟩ = l[i]? := by
  unfold Blk at h; simp [World.cell?, h]
theorem Blk.free (h : Blk w b e l) (i : Nat) : w.frozen? ⟨b, i, none⟩ = false := by
  unfold Blk at h; simp [World.frozen?, h]
theorem Blk.lt (h : Blk w b e l) : b < w.heap.size := by
  unfold Blk at h; exact (Array.getElem?_eq_some_iff.1 h).1
theorem Blk.set (h : Blk w b e l) (i : Nat) (v : Value) : Blk (w.setCell ⟨b, i, none⟩ v) b e (l.set i v) := by
  unfold Blk at *
  simp [World.setCell, Array.getElem?_modify, h]
theorem Blk.set_ne (h : Blk w b e l) {c : Nat} (hne : c ≠ b) (i : Nat) (v : Value) : Blk (w.setCell ⟨c, i, none⟩ v) b e l := by
  unfold Blk at *
  simp [World.setCell, Array.getElem?_modify, h, hne]
theorem Blk.alloc (h : Blk w b e l) (o : Obj) : Blk (w.alloc o) b e l := by
  have hl := h.lt
  unfold Blk at *
  rw [Below.heap_alloc _ _ _ hl, h]
theorem Blk.new (w : World) (e : TypeId) (l : List Value) : Blk (w.alloc (.cells l.toArray e)) w.heap.size e l := by
  exact heap_alloc_new w _
theorem Blk.drew (h : Blk w b e l) : Blk w.drew b e l := h
theorem Blk.drewN (h : Blk w b e l) (n : Nat) : Blk (w.drewN n) b e l := h
theorem Blk.same {w' : World} (h : Blk w b e l) (hw : w'.heap[b]? = w.heap[b]?) : Blk w' b e l := by unfold Blk at *; rw [hw, h]
end

/-- There is one: behind a plain name, so that a walk leaves it as it stands. -/
def Any {α : Type} (P : α → Prop) : Prop := ∃ x, P x
theorem Any.mk {α : Type} {P : α → Prop} (x : α) (h : P x) : Any P := ⟨x, h⟩

/-- Only the blocks of S may have turned; new ones may have been made. -/
structure Keeps (S : List Nat) (w w' : World) : Prop where
  os : w'.os = w.os
  tape : w'.tape = w.tape
  output : w'.output = w.output
  size : w.heap.size ≤ w'.heap.size
  block : ∀ k, k < w.heap.size → k ∉ S → w'.heap[k]? = w.heap[k]?

section
variable {S S' : List Nat} {a b c w w' : World}
theorem Keeps.refl (S : List Nat) (w : World) : Keeps S w w := ⟨rfl, rfl, rfl, Nat.le_refl _, fun _ _ _ => rfl⟩
theorem Keeps.trans (h : Keeps S a b) (h' : Keeps S' b c) (hs : ∀ k ∈ S', k < a.heap.size → k ∈ S) : Keeps S a c :=
  ⟨h'.os.trans h.os, h'.tape.trans h.tape, h'.output.trans h.output, Nat.le_trans h.size h'.size,
   fun k hk hn => (h'.block k (Nat.lt_of_lt_of_le hk h.size) (fun hm => hn (hs k hm hk))).trans (h.block k hk hn)⟩
theorem Keeps.mono (h : Keeps S a b) (hs : ∀ k ∈ S, k < a.heap.size → k ∈ S') : Keeps S' a b :=
  ⟨h.os, h.tape, h.output, h.size, fun k hk hn => h.block k hk (fun hm => hn (hs k hm hk))⟩
theorem Keeps.drew (h : Keeps S a b) : Keeps S a b.drew := ⟨h.os, h.tape, h.output, h.size, h.block⟩
theorem Keeps.drewN (h : Keeps S a b) (n : Nat) : Keeps S a (b.drewN n) := ⟨h.os, h.tape, h.output, h.size, h.block⟩
theorem Keeps.alloc (h : Keeps S a b) (o : Obj) : Keeps S a (b.alloc o) :=
  ⟨h.os, h.tape, h.output, by have := h.size; simp; omega, fun k hk hn => by
    rw [Below.heap_alloc _ _ _ (Nat.lt_of_lt_of_le hk h.size)]; exact h.block k hk hn⟩
theorem Keeps.set (h : Keeps S a b) {k : Nat} (hk : k < a.heap.size → k ∈ S) (i : Nat) (v : Value) : Keeps S a (b.setCell ⟨k, i, none⟩ v) :=
  ⟨h.os, h.tape, h.output, by simpa [World.setCell] using h.size, fun j hj hn => by
    have hne : j ≠ k := fun e => hn (by subst e; exact hk hj)
    rw [Below.heap_setCell _ ⟨k, i, none⟩ _ _ hne]; exact h.block j hj hn⟩
theorem Keeps.blk (h : Keeps S a b) {k : Nat} {e : TypeId} {l : List Value} (hb : Blk a k e l) (hn : k ∉ S) : Blk b k e l :=
  hb.same (h.block k hb.lt hn)
theorem Keeps.below (h : Keeps [] a b) : Below a.heap.size a b := ⟨h.os, h.tape, h.output, h.size, fun k hk => h.block k hk (by simp)⟩
end

/-- A slice of n elements, each of sz cells, that lies at the head of block g, or is nil. -/
def Sl (w : World) (e sz : Nat) (v : Value) (g n : Nat) (xs : List Value) : Prop :=
  xs.length = n * sz ∧ ((v = .slice none 0 0 ∧ n = 0) ∨ ∃ cap spare, v = .slice (some ⟨g, 0, none⟩) n cap ∧ Blk w g e (xs ++ spare) ∧ spare.length = (cap - n) * sz ∧ n ≤ cap ∧ cap ≤ maxLen)

section
variable {w w' : World} {e sz : Nat} {v : Value} {g n : Nat} {xs : List Value}
theorem Sl.shape (h : Sl w e sz v g n xs) : ∃ a cap, v = .slice a n cap ∧ n ≤ cap ∧ cap ≤ maxLen ∧ (0 < n → a = some ⟨g, 0, none⟩) := by
  obtain ⟨_, ⟨rfl, rfl⟩ | ⟨cap, spare, rfl, _, _, h1, h2⟩⟩ := h
  · exact ⟨none, 0, rfl, Nat.le_refl _, Nat.zero_le _, fun h => absurd h (by omega)⟩
  · exact ⟨_, cap, rfl, h1, h2, fun _ => rfl⟩
theorem Sl.cell (h : Sl w e sz v g n xs) (j : Nat) (hj : j < n * sz) : w.cell? ⟨g, j, none⟩ = xs[j]? := by
  obtain ⟨hl, ⟨rfl, rfl⟩ | ⟨cap, spare, rfl, hb, _⟩⟩ := h
  · simp at hj
  · rw [hb.cell, List.getElem?_append_left (by omega)]
theorem Sl.free (h : Sl w e sz v g n xs) (hn : 0 < n) (j : Nat) : w.frozen? ⟨g, j, none⟩ = false := by
  obtain ⟨hl, ⟨rfl, rfl⟩ | ⟨cap, spare, rfl, hb, _⟩⟩ := h
  · simp at hn
  · exact hb.free j
theorem Sl.same (h : Sl w e sz v g n xs) (hw : w'.heap[g]? = w.heap[g]?) : Sl w' e sz v g n xs := by
  obtain ⟨hl, hv | ⟨cap, spare, hv, hb, r⟩⟩ := h
  · exact ⟨hl, .inl hv⟩
  · exact ⟨hl, .inr ⟨cap, spare, hv, hb.same hw, r⟩⟩
theorem Sl.set (h : Sl w e sz v g n xs) (j : Nat) (hj : j < n * sz) (u : Value) : Sl (w.setCell ⟨g, j, none⟩ u) e sz v g n (xs.set j u) := by
  obtain ⟨hl, ⟨rfl, rfl⟩ | ⟨cap, spare, hv, hb, r⟩⟩ := h
  · simp at hj
  · refine ⟨by simpa using hl, .inr ⟨cap, spare, hv, ?_, r⟩⟩
    have := hb.set j u
    rwa [List.set_append_left _ _ (by omega)] at this
theorem Sl.set_ne (h : Sl w e sz v g n xs) {c : Nat} (hne : c ≠ g) (j : Nat) (u : Value) : Sl (w.setCell ⟨c, j, none⟩ u) e sz v g n xs :=
  h.same (Below.heap_setCell _ _ _ _ (fun e => hne e.symm))
theorem Sl.lt (h : Sl w e sz v g n xs) (hn : 0 < n) : g < w.heap.size := by
  obtain ⟨hl, ⟨rfl, rfl⟩ | ⟨cap, spare, hv, hb, r⟩⟩ := h
  · simp at hn
  · exact hb.lt
end

/-- A slice of whole numbers that reads as ls; its cells lie in block B. -/
def Rd (k : IntKind) (w : World) (v : Value) (B : Nat) (ls : List Int) : Prop :=
  (∃ a cap, v = .slice a 0 cap ∧ cap ≤ maxLen ∧ ls = []) ∨ ∃ o cap, v = .slice (some ⟨B, o, none⟩) ls.length cap ∧ ls.length ≤ cap ∧ cap ≤ maxLen ∧ ∀ i, i < ls.length → w.cell? ⟨B, o + i, none⟩ = some (.int k (ls.getD i 0))
section
variable {k : IntKind} {w w' : World} {v : Value} {B : Nat} {ls : List Int}
theorem Rd.shape (h : Rd k w v B ls) : ∃ a cap, v = .slice a ls.length cap ∧ ls.length ≤ cap ∧ cap ≤ maxLen := by
  rcases h with ⟨a, cap, rfl, hc, rfl⟩ | ⟨o, cap, rfl, h1, h2, _⟩
  · exact ⟨a, cap, rfl, Nat.zero_le _, hc⟩
  · exact ⟨_, cap, rfl, h1, h2⟩
theorem Rd.same (h : Rd k w v B ls) (hw : w'.heap[B]? = w.heap[B]?) : Rd k w' v B ls := by
  rcases h with ⟨a, cap, rfl, hc, rfl⟩ | ⟨o, cap, rfl, h1, h2, h3⟩
  · exact .inl ⟨a, cap, rfl, hc, rfl⟩
  · refine .inr ⟨o, cap, rfl, h1, h2, fun i hi => ?_⟩
    rw [World.cell?_of_block (w := w) (w' := w') hw]; exact h3 i hi
theorem Rd.lt (h : Rd k w v B ls) (hne : 0 < ls.length) : B < w.heap.size := by
  rcases h with ⟨a, cap, rfl, hc, rfl⟩ | ⟨o, cap, rfl, h1, h2, h3⟩
  · simp at hne
  · exact World.block_lt_of_cell? w ⟨B, o + 0, none⟩ (h3 0 hne)
theorem Rd.keeps {S : List Nat} (h : Rd k w v B ls) (hk : Keeps S w w') (hB : B ∉ S) : Rd k w' v B ls := by
  by_cases hne : 0 < ls.length
  · exact h.same (hk.block B (h.lt hne) hB)
  · have : ls = [] := List.length_eq_zero_iff.1 (by omega)
    subst this
    rcases h with ⟨a, cap, rfl, hc, _⟩ | ⟨o, cap, rfl, h1, h2, h3⟩
    · exact .inl ⟨a, cap, rfl, hc, rfl⟩
    · exact .inr ⟨o, cap, rfl, h1, h2, fun i hi => by simp at hi⟩
theorem Rd.nil (k : IntKind) (w : World) (B : Nat) : Rd k w (.slice none 0 0) B [] := .inl ⟨none, 0, rfl, Nat.zero_le _, rfl⟩
end

theorem addr_add (b o n : Nat) : (⟨b, o, none⟩ : Addr).add n = ⟨b, o + n, none⟩ := by
  unfold Addr.add; split <;> simp_all
theorem ret_int {k : IntKind} {a b : Int} (h : a = b) : Ending.returned (.int k a) = .returned (.int k b) := by rw [h]
/-- x[l:] -/
theorem run_slice_from {P : Program} {t e : TypeId} (ht : P.underlying t = some (.slice e)) {i : TypeInfo} (hi : P.info? e = some i) {s : Nat} (hs : i.size = s) (kl : IntKind) (l len cap b o : Nat) (h : l ≤ len) (W : World) :
    (Instr.slice t (.slice (some ⟨b, o, none⟩) len cap) (some (.int kl l)) none none).run P W = .ok (.slice (some ⟨b, if cap = l then o else o + l * s, none⟩) (len - l) (cap - l)) W := by
  have he : P.elem t = e := by simp [Program.elem, ht]
  have ht' : P.underlying t = some (.slice (P.elem t)) := by rw [he]; exact ht
  rw [run_slice_l W t (some ⟨b, o, none⟩) len cap ht' kl (l : Int) (by omega) (by omega), he]
  simp [sizeOf, typeInfo, hi, hs, sliced, addr_add]
  split <;> rfl
/-- x[l:h] -/
theorem run_slice_part {P : Program} {t e : TypeId} (ht : P.underlying t = some (.slice e)) {i : TypeInfo} (hi : P.info? e = some i) {s : Nat} (hs : i.size = s) (kl kh : IntKind) (l h len cap b o : Nat) (h1 : l ≤ h) (h2 : h ≤ cap) (W : World) :
    (Instr.slice t (.slice (some ⟨b, o, none⟩) len cap) (some (.int kl l)) (some (.int kh h)) none).run P W = .ok (.slice (some ⟨b, if cap = l then o else o + l * s, none⟩) (h - l) (cap - l)) W := by
  have he : P.elem t = e := by simp [Program.elem, ht]
  have ht' : P.underlying t = some (.slice (P.elem t)) := by rw [he]; exact ht
  rw [run_slice_lh W t (some ⟨b, o, none⟩) len cap ht' kl kh (l : Int) (h : Int) (by omega) (by omega) (by omega), he]
  simp [sizeOf, typeInfo, hi, hs, sliced, addr_add]
  split <;> rfl
end Go.Proofs.YtfpdikhdfcppeaaDoor
