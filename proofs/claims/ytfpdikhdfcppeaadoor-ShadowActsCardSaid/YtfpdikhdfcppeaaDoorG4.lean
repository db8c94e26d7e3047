/- The program's store and the reference's, side by side. -/
import Derived.Test.YtfpdikhdfcppeaaDoorM9
namespace Go.Proofs.YtfpdikhdfcppeaaDoor
open Go.RowKit Go.Proofs

/-- The program's store (at D, M) and the reference's (at E, N): apart from each other, and made behind w0. -/
structure Both (w0 w : World) (s b c a m d p0 p1 p2 p3 A n : Nat) (r : Int) (D : Dev) (M : Nat → Nat) (F : List Nat) (E : Dev) (N : Nat → Nat) (G : List Nat) : Prop where
  sh : ShAt w s b c a n r D M F
  rs : RSt w m d p0 p1 p2 p3 A n r E N G
  fit : E.Fit
  hF : ∀ x ∈ s :: b :: c :: F, w0.heap.size ≤ x
  hG : ∀ x ∈ sfoot m d p0 p1 p2 p3 G, w0.heap.size ≤ x
  dis : ∀ x ∈ sfoot m d p0 p1 p2 p3 G, x ∉ s :: b :: c :: F
  keep : Keeps [] w0 w
  tab0 : 0 < w0.heap.size

section
variable {w0 w w' : World} {s b c a m d p0 p1 p2 p3 A n : Nat} {r : Int} {D D' : Dev} {M M' : Nat → Nat} {F F' : List Nat} {E E' : Dev} {N N' : Nat → Nat} {G G' : List Nat}
theorem ShAt.below (h : ShAt w s b c a n r D M F) : ∀ x ∈ s :: b :: c :: F, x < w.heap.size := by
  obtain ⟨l1, l2, l3, l4⟩ := h.lt
  intro x hx
  simp only [List.mem_cons] at hx
  rcases hx with rfl | rfl | rfl | hx
  · exact l1
  · exact l2
  · exact l3
  · exact l4 x hx
theorem ShAt.keepsS {S : List Nat} (h : ShAt w s b c a n r D M F) (hk : Keeps S w w') (hS : ∀ x ∈ s :: b :: c :: F, x ∉ S) (h0 : 0 ∉ S) : ShAt w' s b c a n r D M F :=
  ⟨hk.blk h.blk (hS s (by simp)), h.dev.keeps hk (hS b (by simp)) (hS c (by simp)) h.cl, h.alc.keeps hk (fun k hk' => hS k (by simp [hk'])), h.hs, h.hb, h.hc, h.pos, Nat.lt_of_lt_of_le h.cl hk.size, h.tab.keeps hk h0, h.ok⟩
theorem Both.prog (h : Both w0 w s b c a m d p0 p1 p2 p3 A n r D M F E N G) (h1 : ShAt w' s b c a n r D' M' F') (g : Grows w w' (b :: c :: F) (b :: c :: F')) : Both w0 w' s b c a m d p0 p1 p2 p3 A n r D' M' F' E N G := by
  have hsz := h.keep.size
  have hsub : ∀ x ∈ s :: b :: c :: F', x ∈ s :: b :: c :: F ∨ w.heap.size ≤ x := fun x hx => by
    rcases List.mem_cons.1 hx with rfl | hx
    · exact .inl (by simp)
    · rcases g.1 x hx with h2 | h2
      · exact .inl (List.mem_cons_of_mem _ h2)
      · exact .inr h2
  refine ⟨h1, h.rs.keeps g.2 fun k hk hm => h.dis k hk (List.mem_cons_of_mem _ hm), h.fit, fun x hx => ?_, h.hG, fun x hx hm => ?_, h.keep.trans g.2 fun k hk hlt => ?_, h.tab0⟩
  · rcases hsub x hx with h2 | h2
    · exact h.hF x h2
    · omega
  · rcases hsub x hm with h2 | h2
    · exact h.dis x hx h2
    · have := h.rs.lt x hx; omega
  · have := h.hF k (List.mem_cons_of_mem _ hk); omega
theorem Both.ref (h : Both w0 w s b c a m d p0 p1 p2 p3 A n r D M F E N G) (h1 : RSt w' m d p0 p1 p2 p3 A n r E' N' G') (g : Grows w w' (sfoot m d p0 p1 p2 p3 G) (sfoot m d p0 p1 p2 p3 G')) (hf : E'.Fit) : Both w0 w' s b c a m d p0 p1 p2 p3 A n r D M F E' N' G' := by
  have hsz := h.keep.size
  refine ⟨h.sh.keepsS g.2 (fun x hx hm => h.dis x hm hx) (fun hm => by have := h.hG _ hm; have := h.tab0; omega), h1, hf, h.hF, fun x hx => ?_, fun x hx hm => ?_, h.keep.trans g.2 fun k hk hlt => ?_, h.tab0⟩
  · rcases g.1 x hx with h2 | h2
    · exact h.hG x h2
    · omega
  · rcases g.1 x hx with h2 | h2
    · exact h.dis x h2 hm
    · have := h.sh.below x hm; omega
  · have := h.hG k hk; omega
theorem Both.same (h : Both w0 w s b c a m d p0 p1 p2 p3 A n r D M F E N G) (hk : Keeps [] w w') : Both w0 w' s b c a m d p0 p1 p2 p3 A n r D M F E N G :=
  ⟨(h.sh.same hk).1, h.rs.keeps hk (by simp), h.fit, h.hF, h.hG, h.dis, h.keep.trans hk (by simp), h.tab0⟩
/-- A block that came in is in neither. -/
theorem Both.out (h : Both w0 w s b c a m d p0 p1 p2 p3 A n r D M F E N G) {B : Nat} (hB : B < w0.heap.size) : B ∉ b :: c :: F ∧ B < w.heap.size ∧ B ∉ sfoot m d p0 p1 p2 p3 G :=
  ⟨fun hm => by have := h.hF B (List.mem_cons_of_mem _ hm); omega, Nat.lt_of_lt_of_le hB h.keep.size, fun hm => by have := h.hG B hm; omega⟩
theorem Both.rd (h : Both w0 w s b c a m d p0 p1 p2 p3 A n r D M F E N G) {k : IntKind} {v : Value} {B : Nat} {l : List Int} (hr : Rd k w0 v B l) : Rd k w v B l := hr.keeps h.keep (by simp)
end
end Go.Proofs.YtfpdikhdfcppeaaDoor
