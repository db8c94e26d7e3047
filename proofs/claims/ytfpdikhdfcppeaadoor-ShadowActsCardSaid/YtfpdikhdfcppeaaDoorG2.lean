/- The reference's store: Make, Turn. -/
import Derived.Test.YtfpdikhdfcppeaaDoorG1
namespace Go.Proofs.YtfpdikhdfcppeaaDoor
open Go.RowKit Go.Proofs

/-- The reference's store at m: its device at d (words at p0 to p3), its allocator at A (blocks F). -/
structure RSt (w : World) (m d p0 p1 p2 p3 A n : Nat) (r : Int) (D : Dev) (M : Nat → Nat) (F : List Nat) : Prop where
  blk : Blk w m 71 [.pointer (some ⟨d, 0, none⟩), .pointer (some ⟨A, 0, none⟩)]
  dev : RAt w d p0 p1 p2 p3 (n * 8) D
  alc : RAlAt w A n r M F
  hm : m ∉ [d, p0, p1, p2, p3] ∧ m ∉ F
  dis : ∀ k ∈ [d, p0, p1, p2, p3], k ∉ F
def sfoot (m d p0 p1 p2 p3 : Nat) (F : List Nat) : List Nat := m :: [d, p0, p1, p2, p3] ++ F
theorem mem_sfoot {m d p0 p1 p2 p3 k : Nat} {F : List Nat} : k ∈ sfoot m d p0 p1 p2 p3 F ↔ k = m ∨ k ∈ [d, p0, p1, p2, p3] ∨ k ∈ F := by
  show k ∈ m :: ([d, p0, p1, p2, p3] ++ F) ↔ _
  rw [List.mem_cons, List.mem_append]

section
variable {w w' : World} {m d p0 p1 p2 p3 A n : Nat} {r : Int} {D D' : Dev} {M M' : Nat → Nat} {F F' : List Nat}
theorem RAlAt.cellR (h : RAlAt w A n r M F) : w.cell? ⟨A, 1, none⟩ = some (.int .i64 r) := by
  obtain ⟨V, G, rfl, ha⟩ := h
  have := ha.blk.cell 1
  simpa using this
theorem RSt.lt (h : RSt w m d p0 p1 p2 p3 A n r D M F) : ∀ k ∈ sfoot m d p0 p1 p2 p3 F, k < w.heap.size := by
  intro k hk
  rcases mem_sfoot.1 hk with rfl | hk | hk
  · exact h.blk.lt
  · exact h.dev.dev.lt k hk
  · exact h.alc.lt k hk
theorem RSt.onDev (h : RSt w m d p0 p1 p2 p3 A n r D M F) (hD : RAt w' d p0 p1 p2 p3 (n * 8) D') (hk : Keeps [d, p0, p1, p2, p3] w w') :
    RSt w' m d p0 p1 p2 p3 A n r D' M F ∧ Grows w w' (sfoot m d p0 p1 p2 p3 F) (sfoot m d p0 p1 p2 p3 F) :=
  ⟨⟨hk.blk h.blk h.hm.1, hD, h.alc.keeps hk fun k hk1 hk2 => h.dis k hk2 hk1, h.hm, h.dis⟩, fun _ h => .inl h, hk.mono fun k hk' _ => mem_sfoot.2 (.inr (.inl hk'))⟩
theorem RSt.onAlc (h : RSt w m d p0 p1 p2 p3 A n r D M F) (hA : RAlAt w' A n r M' F') (hg : Grows w w' F F') :
    RSt w' m d p0 p1 p2 p3 A n r D M' F' ∧ Grows w w' (sfoot m d p0 p1 p2 p3 F) (sfoot m d p0 p1 p2 p3 F') := by
  have key : ∀ k, k < w.heap.size → k ∉ F → k ∉ F' := fun k hk hn hm => by
    rcases hg.1 k hm with h1 | h1
    · exact hn h1
    · omega
  refine ⟨⟨hg.2.blk h.blk h.hm.2, h.dev.keeps hg.2 fun k hk1 hk2 => h.dis k hk2 hk1, hA, ⟨h.hm.1, key m h.blk.lt h.hm.2⟩, fun k hk => key k (h.dev.dev.lt k hk) (h.dis k hk)⟩, fun x hx => ?_, hg.2.mono fun k hk' _ => mem_sfoot.2 (.inr (.inr hk'))⟩
  rcases mem_sfoot.1 hx with rfl | hx | hx
  · exact .inl (mem_sfoot.2 (.inl rfl))
  · exact .inl (mem_sfoot.2 (.inr (.inl hx)))
  · rcases hg.1 x hx with h1 | h1
    · exact .inl (mem_sfoot.2 (.inr (.inr h1)))
    · exact .inr h1
theorem RSt.keeps {S : List Nat} (h : RSt w m d p0 p1 p2 p3 A n r D M F) (hk : Keeps S w w') (hS : ∀ k ∈ sfoot m d p0 p1 p2 p3 F, k ∉ S) : RSt w' m d p0 p1 p2 p3 A n r D M F :=
  ⟨hk.blk h.blk (hS m (mem_sfoot.2 (.inl rfl))), h.dev.keeps hk fun k hk1 hk2 => hS k (mem_sfoot.2 (.inr (.inl hk2))) hk1, h.alc.keeps hk fun k hk' => hS k (mem_sfoot.2 (.inr (.inr hk'))), h.hm, h.dis⟩
theorem RSt.same (h : RSt w m d p0 p1 p2 p3 A n r D M F) (hk : Keeps [] w w') : RSt w' m d p0 p1 p2 p3 A n r D M F ∧ Grows w w' (sfoot m d p0 p1 p2 p3 F) (sfoot m d p0 p1 p2 p3 F) :=
  ⟨h.keeps hk (by simp), Grows.same hk⟩
end

section
variable (m d p0 p1 p2 p3 A n : Nat) (r : Int) (D : Dev) (M : Nat → Nat) (F : List Nat) (w : World) (h : RSt w m d p0 p1 p2 p3 A n r D M F) (hr0 : 0 ≤ r)
variable (B : Nat) (v : Value) (bs : List Int) (hr : Rd .u8 w v B bs) (hu : U8 bs) (hB : B < w.heap.size ∧ B ∉ sfoot m d p0 p1 p2 p3 F)
include h hr hu hB hr0

set_option maxHeartbeats 1000000 in
theorem rmake_calls : Calls Tryd.prog 33 #[.pointer (some ⟨m, 0, none⟩), v] w fun e w' => Any fun F' =>
    e = .returned (.tuple #[.int .i64 (shMake n r D M bs).1, .int .i64 (shMake n r D M bs).2.1]) ∧ RSt w' m d p0 p1 p2 p3 A n r (shMake n r D M bs).2.2.1 (shMake n r D M bs).2.2.2 F' ∧ Grows w w' (sfoot m d p0 p1 p2 p3 F) (sfoot m d p0 p1 p2 p3 F') := by
  obtain ⟨va, cap, rfl, hcap, hmax⟩ := hr.shape
  unfold maxLen at hmax
  have c0 := h.blk.cell 0
  have c1 := h.blk.cell 1
  simp at c0 c1
  have cr := h.alc.cellR
  have HR := Lib.hid hr
  have HU := Lib.hid hu
  have HB := Lib.hid hB
  have H := Lib.hid h
  by_cases hl : bs.length = 64
  · have hne : ((bs.length : Int) != 64) = false := by simp [hl]
    have ht : ∀ w1, RAlAt w1 A n r M F → Calls Tryd.prog 64 #[.pointer (some ⟨A, 0, none⟩), .int .i64 r] w1 fun e w' => Any fun F' => e = .returned (.tuple #[.int .i64 (mTake n M r).1, .int .i64 (mTake n M r).2.1]) ∧ RAlAt w' A n r (mTake n M r).2.2 F' ∧ Grows w1 w' F F' := fun w1 h1 => rtake_calls A n r M F w1 h1 hr0
    by_cases he : (mTake n M r).2.1 = 0
    · obtain ⟨x, hx⟩ : ∃ x, (mTake n M r).1 = x := ⟨_, rfl⟩
      obtain ⟨M1, hM1⟩ : ∃ M1, (mTake n M r).2.2 = M1 := ⟨_, rfl⟩
      have hs : shMake n r D M bs = ((shWritten D x bs).1, (shWritten D x bs).2.1, (shWritten D x bs).2.2, M1) := by
        unfold shMake; rw [if_neg (by omega), if_neg (by omega), hx, hM1]
      rw [hs]
      rw [he, hx, hM1] at ht
      have HT := Lib.hid ht
      unfold shWritten
      by_cases hw : (D.write x bs).1 = 0
      · rw [if_neg (by omega)]
        have HW := Lib.hid hw
        clear hl hs he ht hr hu hB hx hM1 hw h
        go_enter Tryd.func33, Tryd.ntmps33
        go_wp2_with fail
        go_region_held3 (fun w' => w'.cell? ⟨m, 1, none⟩ = some (.pointer (some ⟨A, 0, none⟩)) ∧ w'.cell? ⟨A, 1, none⟩ = some (.int .i64 r)) (first | exact ⟨k1, k2⟩ | exact ⟨c1, cr⟩)
          (first | (go_at_call 64; refine (HT.out _ (by exact (H.out.same (Keeps.refl [] w).drew).1.alc)).mono ?_; rintro e w1 ⟨F1, rfl, hA1, hG1⟩; obtain ⟨h1, g1⟩ := (H.out.same (Keeps.refl [] w).drew).1.onAlc hA1 hG1; have k1 := h1.blk.cell 1; have k2 := h1.alc.cellR))
        replace g1 := (H.out.same (Keeps.refl [] w).drew).2.trans g1
        clear hA1 hG1 k1 k2
        have d0 := h1.blk.cell 0
        simp at d0
        have hB1 := stay HB.out.2 HB.out.1 g1
        have hwr := rwrite_calls h1.dev x _ B bs (HR.out.same (g1.2.block _ HB.out.1 HB.out.2)) HU.out (fun hm => hB1.1 (mem_sfoot.2 (.inr (.inl hm))))
        rw [HW.out] at hwr
        have HWr := Lib.hid hwr
        have H1 := Lib.hid h1
        have G1 := Lib.hid g1
        clear h1 g1 hwr hB1
        go_wp2_with fail
        refine HWr.out.mono ?_
        rintro e w2 ⟨rfl, hD2, hK2⟩
        obtain ⟨h2, g2⟩ := H1.out.onDev hD2 hK2
        have H2 := Lib.hid h2
        have G2 := Lib.hid (G1.out.trans g2)
        clear h2 g2 hD2 hK2
        go_wp2
        go_ret2
        exact Any.mk F1 ⟨rfl, H2.out, G2.out⟩
      · rw [if_pos hw]
        obtain ⟨z, hz⟩ : ∃ z, (D.write x bs).1 = z := ⟨_, rfl⟩
        rw [hz] at hw ⊢
        have HZ := Lib.hid hz
        have hne2 : (z != 0) = true := by simpa using hw
        clear hl hs he ht hr hu hB hx hM1 h hz
        go_enter Tryd.func33, Tryd.ntmps33
        go_wp2_with fail
        go_region_held3 (fun w' => w'.cell? ⟨m, 1, none⟩ = some (.pointer (some ⟨A, 0, none⟩)) ∧ w'.cell? ⟨A, 1, none⟩ = some (.int .i64 r)) (first | exact ⟨k1, k2⟩ | exact ⟨c1, cr⟩)
          (first | (go_at_call 64; refine (HT.out _ (by exact (H.out.same (Keeps.refl [] w).drew).1.alc)).mono ?_; rintro e w1 ⟨F1, rfl, hA1, hG1⟩; obtain ⟨h1, g1⟩ := (H.out.same (Keeps.refl [] w).drew).1.onAlc hA1 hG1; have k1 := h1.blk.cell 1; have k2 := h1.alc.cellR))
        replace g1 := (H.out.same (Keeps.refl [] w).drew).2.trans g1
        clear hA1 hG1 k1 k2
        have d0 := h1.blk.cell 0
        simp at d0
        have hB1 := stay HB.out.2 HB.out.1 g1
        have hwr := rwrite_calls h1.dev x _ B bs (HR.out.same (g1.2.block _ HB.out.1 HB.out.2)) HU.out (fun hm => hB1.1 (mem_sfoot.2 (.inr (.inl hm))))
        rw [HZ.out] at hwr
        have HWr := Lib.hid hwr
        have H1 := Lib.hid h1
        have G1 := Lib.hid g1
        clear h1 g1 hwr hB1
        go_wp2_with fail
        refine HWr.out.mono ?_
        rintro e w2 ⟨rfl, hD2, hK2⟩
        obtain ⟨h2, g2⟩ := H1.out.onDev hD2 hK2
        have H2 := Lib.hid h2
        have G2 := Lib.hid (G1.out.trans g2)
        clear h2 g2 hD2 hK2
        go_wp2
        go_ret2
        exact Any.mk F1 ⟨rfl, H2.out, G2.out⟩
    · obtain ⟨z, hz⟩ : ∃ z, (mTake n M r).2.1 = z := ⟨_, rfl⟩
      obtain ⟨M1, hM1⟩ : ∃ M1, (mTake n M r).2.2 = M1 := ⟨_, rfl⟩
      have hs : shMake n r D M bs = (0, z, D, M1) := by
        unfold shMake; rw [if_neg (by omega), if_pos he, hz, hM1]
      rw [hs]
      rw [hz, hM1] at ht
      rw [hz] at he
      have hne2 : (z != 0) = true := by simpa using he
      have HT := Lib.hid ht
      clear hl hs ht hr hu hB hz hM1 h
      go_enter Tryd.func33, Tryd.ntmps33
      go_wp2_with fail
      go_region_held3 (fun w' => w'.cell? ⟨m, 1, none⟩ = some (.pointer (some ⟨A, 0, none⟩)) ∧ w'.cell? ⟨A, 1, none⟩ = some (.int .i64 r)) (first | exact ⟨k1, k2⟩ | exact ⟨c1, cr⟩)
        (first | (go_at_call 64; refine (HT.out _ (by exact (H.out.same (Keeps.refl [] w).drew).1.alc)).mono ?_; rintro e w1 ⟨F1, rfl, hA1, hG1⟩; obtain ⟨h1, g1⟩ := (H.out.same (Keeps.refl [] w).drew).1.onAlc hA1 hG1; have k1 := h1.blk.cell 1; have k2 := h1.alc.cellR))
      replace g1 := (H.out.same (Keeps.refl [] w).drew).2.trans g1
      clear hA1 hG1 k1 k2
      have H1 := Lib.hid h1
      have G1 := Lib.hid g1
      clear h1 g1
      go_wp2
      go_ret2
      exact Any.mk F1 ⟨rfl, H1.out, G1.out⟩
  · have hne : ((bs.length : Int) != 64) = true := by simp; omega
    have hs : shMake n r D M bs = (0, 2, D, M) := by unfold shMake; rw [if_pos hl]
    rw [hs]
    clear hl hs hr hu hB h
    go_enter Tryd.func33, Tryd.ntmps33
    go_wp2
    go_ret2
    exact Any.mk F ⟨rfl, H.out, Grows.refl _ _⟩
end
end Go.Proofs.YtfpdikhdfcppeaaDoor
