/- Walks of package shadow. -/
import Derived.Test.YtfpdikhdfcppeaaDoorB1
namespace Go.Proofs.YtfpdikhdfcppeaaDoor
open Go.RowKit Go.Proofs

def DCell.Ok (c : DCell) : Prop := 0 ≤ c.lasts ∧ 0 ≤ c.stored ∧ 0 ≤ c.sent
def Dev.Ok (D : Dev) : Prop := ∀ d ∈ D.cells, d.Ok

/-- A store at s: its device at b (words at c), its allocator at a (blocks F). -/
structure ShAt (w : World) (s b c a n : Nat) (r : Int) (D : Dev) (M : Nat → Nat) (F : List Nat) : Prop where
  blk : Blk w s 102 [.pointer (some ⟨b, 0, none⟩), .pointer (some ⟨a, 0, none⟩)]
  dev : DevAt w b c D
  alc : AllocAt w a n r M F
  hs : s ∉ b :: c :: F
  hb : b ∉ F
  hc : c ∉ F
  pos : 0 < s ∧ 0 < b ∧ 0 < c
  cl : c < w.heap.size
  tab : Tab w
  ok : D.Ok

theorem ShAt.lt {w : World} {s b c a n : Nat} {r : Int} {D : Dev} {M : Nat → Nat} {F : List Nat} (h : ShAt w s b c a n r D M F) : s < w.heap.size ∧ b < w.heap.size ∧ c < w.heap.size ∧ ∀ k ∈ F, k < w.heap.size :=
  ⟨h.blk.lt, by obtain ⟨_, hB, _⟩ := h.dev; exact hB.lt, h.cl, fun k hk => (h.alc.lt k hk).2⟩
/-- The device is turned. -/
theorem ShAt.onDev {w w' : World} {s b c a n : Nat} {r : Int} {D D' : Dev} {M : Nat → Nat} {F : List Nat} (h : ShAt w s b c a n r D M F) (hD : DevAt w' b c D') (hk : Keeps [b, c] w w') (hok : D'.Ok) :
    ShAt w' s b c a n r D' M F ∧ Grows w w' (b :: c :: F) (b :: c :: F) := by
  have hs := h.hs
  simp only [List.mem_cons, not_or] at hs
  refine ⟨⟨hk.blk h.blk (by simp; exact ⟨hs.1, hs.2.1⟩), hD, h.alc.keeps hk fun k hk' => ?_, h.hs, h.hb, h.hc, h.pos, Nat.lt_of_lt_of_le h.cl hk.size, h.tab.keeps hk ?_, hok⟩, fun _ h => .inl h, hk.mono (by simp)⟩
  · simp only [List.mem_cons, List.not_mem_nil, or_false, not_or]
    exact ⟨fun e => h.hb (e ▸ hk'), fun e => h.hc (e ▸ hk')⟩
  · have := h.pos; simp; omega
/-- The allocator is turned. -/
theorem ShAt.onAlc {w w' : World} {s b c a n : Nat} {r : Int} {D : Dev} {M M' : Nat → Nat} {F F' : List Nat} (h : ShAt w s b c a n r D M F) (hA : AllocAt w' a n r M' F') (hg : Grows w w' F F') :
    ShAt w' s b c a n r D M' F' ∧ Grows w w' (b :: c :: F) (b :: c :: F') := by
  obtain ⟨l1, l2, l3, l4⟩ := h.lt
  have hs := h.hs
  simp only [List.mem_cons, not_or] at hs
  have key : ∀ k, k < w.heap.size → k ∉ F → k ∉ F' := fun k hk hn hm => by
    rcases hg.1 k hm with h1 | h1
    · exact hn h1
    · omega
  refine ⟨⟨hg.2.blk h.blk hs.2.2, h.dev.keeps hg.2 h.hb h.hc h.cl, hA, ?_, key b l2 h.hb, key c l3 h.hc, h.pos, Nat.lt_of_lt_of_le h.cl hg.2.size, h.tab.grows h.alc hg, h.ok⟩, fun x hx => ?_, hg.2.mono fun k hk _ => by simp [hk]⟩
  · simp only [List.mem_cons, not_or]; exact ⟨hs.1, hs.2.1, key s l1 hs.2.2⟩
  · simp only [List.mem_cons] at hx ⊢
    rcases hx with rfl | rfl | hx
    · exact .inl (.inl rfl)
    · exact .inl (.inr (.inl rfl))
    · rcases hg.1 x hx with h1 | h1
      · exact .inl (.inr (.inr h1))
      · exact .inr h1
/-- Nothing that was there is turned. -/
theorem ShAt.same {w w' : World} {s b c a n : Nat} {r : Int} {D : Dev} {M : Nat → Nat} {F : List Nat} (h : ShAt w s b c a n r D M F) (hk : Keeps [] w w') :
    ShAt w' s b c a n r D M F ∧ Grows w w' (b :: c :: F) (b :: c :: F) :=
  ⟨⟨hk.blk h.blk (by simp), h.dev.keeps hk (by simp) (by simp) h.cl, h.alc.keeps hk (by simp), h.hs, h.hb, h.hc, h.pos, Nat.lt_of_lt_of_le h.cl hk.size, h.tab.keeps hk (by simp), h.ok⟩, Grows.same hk⟩

theorem step_ok {D : Dev} (h : D.Ok) : D.step.Ok := by unfold Dev.Ok; rw [step_cells]; exact h
theorem Ok.set {l : List DCell} (h : ∀ d ∈ l, d.Ok) (i : Nat) (c : DCell) (hc : c.Ok) : ∀ d ∈ l.set i c, d.Ok := fun d hd => by
  rcases List.mem_or_eq_of_mem_set hd with h1 | h1
  · exact h d h1
  · subst h1; exact hc
theorem Ok.modify {l : List DCell} (h : ∀ d ∈ l, d.Ok) (i : Nat) (f : DCell → DCell) (hf : ∀ d, d.Ok → (f d).Ok) : ∀ d ∈ l.modify i f, d.Ok := by
  by_cases hi : i < l.length
  · rw [modify_of_get l i f l[i] (List.getElem?_eq_getElem hi)]
    exact Ok.set h i _ (hf _ (h _ (List.getElem_mem _)))
  · rw [List.modify_eq_self (by omega)]; exact h
theorem store_ok {D : Dev} (h : D.Ok) (o x : Int) (hx : 0 ≤ x) : (D.store o x).2.Ok := by
  unfold Dev.store
  split
  · exact h
  · exact step_ok (D := { D with cells := _ }) (Ok.modify h _ _ fun d hd => ⟨hd.1, hx, hd.2.2⟩)
theorem stores_ok {D : Dev} (h : D.Ok) (o : Int) (l : List Int) (hl : ∀ x ∈ l, 0 ≤ x) : (D.stores o l).2.Ok := by
  induction l generalizing D o with
  | nil => exact h
  | cons x l ih =>
    simp only [Dev.stores]
    split
    · exact store_ok h o x (hl x (by simp))
    · exact ih (store_ok h o x (hl x (by simp))) _ (fun y hy => hl y (by simp [hy]))
theorem flushAt_ok {l : List DCell} (h : ∀ d ∈ l, d.Ok) (o k : Nat) : ∀ d ∈ flushAt l o k, d.Ok := by
  induction k with
  | zero => exact h
  | succ k ih => exact Ok.modify ih _ _ fun d hd => ⟨hd.1, hd.2.1, hd.2.1⟩
theorem flush_ok {D : Dev} (h : D.Ok) (line : Int) : (D.flush line).2.Ok := by
  unfold Dev.flush
  split
  · exact h
  · exact step_ok (D := { D with cells := _ }) (flushAt_ok h _ _)
theorem fence_ok {D : Dev} (h : D.Ok) : D.fence.2.Ok := by
  unfold Dev.fence
  split
  · exact h
  · refine step_ok (D := { D with cells := _ }) fun d hd => ?_
    obtain ⟨c, hc, rfl⟩ := List.mem_map.1 hd
    have := h c hc
    unfold DCell.fence DCell.keep
    split
    · exact ⟨this.2.2, this.2.1, by simp⟩
    · exact this
theorem arm_ok {D : Dev} (h : D.Ok) (n : Int) : (D.arm n).Ok := by unfold Dev.arm; split <;> exact h
theorem lay_ok {D : Dev} (h : D.Ok) (line first : Int) (l : List Int) (hl : ∀ x ∈ l, 0 ≤ x) : (D.lay line first l).2.Ok := by
  unfold Dev.lay
  split
  · exact stores_ok h _ _ hl
  · exact flush_ok (stores_ok h _ _ hl) _
theorem write_ok {D : Dev} (h : D.Ok) (at_ : Int) (bs : List Int) (hb : ∀ x ∈ bs, 0 ≤ x ∧ x < 256) : (D.write at_ bs).2.Ok := by
  unfold Dev.write
  split
  · exact h
  · split
    · exact h
    · refine lay_ok h _ _ _ fun x hx => ?_
      simp only [wordsOf, List.mem_map] at hx
      obtain ⟨i, _, rfl⟩ := hx
      exact (leWord_bound _ fun y hy => hb y (List.mem_of_mem_drop (List.mem_of_mem_take hy))).1

/-- Bytes: each is one. -/
def U8 (l : List Int) : Prop := ∀ x ∈ l, 0 ≤ x ∧ x < 256

def shWritten (D : Dev) (at_ : Int) (bs : List Int) : Int × Int × Dev :=
  if (D.write at_ bs).1 ≠ 0 then (0, (D.write at_ bs).1, (D.write at_ bs).2) else (at_, 0, (D.write at_ bs).2)
def shMake (n : Nat) (r : Int) (D : Dev) (M : Nat → Nat) (bs : List Int) : Int × Int × Dev × (Nat → Nat) :=
  if bs.length ≠ 64 then (0, 2, D, M)
  else if (mTake n M r).2.1 ≠ 0 then (0, (mTake n M r).2.1, D, (mTake n M r).2.2)
  else ((shWritten D (mTake n M r).1 bs).1, (shWritten D (mTake n M r).1 bs).2.1, (shWritten D (mTake n M r).1 bs).2.2, (mTake n M r).2.2)
def shTurn (n : Nat) (r : Int) (D : Dev) (M : Nat → Nat) (at_ : Int) (bs : List Int) : Int × Int × Dev × (Nat → Nat) :=
  if bs.length ≠ 64 ∨ hasBit n (M 3) at_ = false then (0, 2, D, M)
  else if (hasBit n (M 3) at_ && !hasBit n (M 2) at_) = true then ((shWritten D at_ bs).1, (shWritten D at_ bs).2.1, (shWritten D at_ bs).2.2, M)
  else if (shMake n r D M bs).2.1 ≠ 0 then (0, (shMake n r D M bs).2.1, (shMake n r D M bs).2.2.1, (shMake n r D M bs).2.2.2)
  else ((shMake n r D M bs).1, (mGive n (shMake n r D M bs).2.2.2 at_).1, (shMake n r D M bs).2.2.1, (mGive n (shMake n r D M bs).2.2.2 at_).2)

section
variable (s b c a n : Nat) (r : Int) (D : Dev) (M : Nat → Nat) (F : List Nat) (w : World) (h : ShAt w s b c a n r D M F)
include h

set_option maxHeartbeats 400000 in
theorem shAlloc_calls : Calls Tryd.prog 13 #[.pointer (some ⟨s, 0, none⟩)] w fun e w' => e = .returned (.pointer (some ⟨a, 0, none⟩)) ∧ w = w' := by
  have c1 := h.blk.cell 1
  simp at c1
  go_enter Tryd.func13, Tryd.ntmps13
  go_wp2
  go_ret
  exact ⟨rfl, rfl⟩

set_option maxHeartbeats 400000 in
theorem shGet_calls (at_ : Int) : Calls Tryd.prog 18 #[.pointer (some ⟨s, 0, none⟩), .int .i64 at_] w fun e w' => Any fun u => e = .returned (.tuple #[u, .int .i64 (D.read at_).2]) ∧
      w'.ownsRow w.heap.size 5 1 u (D.read at_).1.length (u8s (D.read at_).1) ∧ Keeps [] w w' := by
  have c0 := h.blk.cell 0
  simp at c0
  go_enter Tryd.func18, Tryd.ntmps18
  go_wp2_with (go_at_call 56; refine (pread_calls b c D at_ w h.dev (fun d hd => (h.ok d hd).2.1)).mono ?_; rintro e w1 ⟨u, rfl, hO, hK⟩)
  go_ret2
  exact Any.mk u ⟨rfl, hO, hK⟩

set_option maxHeartbeats 400000 in
theorem shSure_calls : Calls Tryd.prog 27 #[.pointer (some ⟨s, 0, none⟩)] w fun e w' => e = .returned (.int .i64 D.fence.1) ∧ ShAt w' s b c a n r D.fence.2 M F ∧ Grows w w' (b :: c :: F) (b :: c :: F) := by
  have c0 := h.blk.cell 0
  simp at c0
  go_enter Tryd.func27, Tryd.ntmps27
  go_wp2_with (go_at_call 58; refine (sure_calls b c D w h.dev).mono ?_; rintro e w1 ⟨rfl, hD, hK⟩)
  go_ret
  exact ⟨rfl, h.onDev hD hK (fence_ok h.ok)⟩

set_option maxHeartbeats 400000 in
theorem shDrop_calls (at_ : Int) : Calls Tryd.prog 19 #[.pointer (some ⟨s, 0, none⟩), .int .i64 at_] w fun e w' => e = .returned (.int .i64 (mGive n M at_).1) ∧ ShAt w' s b c a n r D (mGive n M at_).2 F ∧ Grows w w' (b :: c :: F) (b :: c :: F) := by
  have c1 := h.blk.cell 1
  simp at c1
  go_enter Tryd.func19, Tryd.ntmps19
  go_wp2_with (go_at_call 55; refine (give_calls a n r M F at_ w h.alc).mono ?_; rintro e w1 ⟨rfl, hA, hG⟩)
  go_ret
  exact ⟨rfl, h.onAlc hA hG⟩

variable (B : Nat) (v : Value) (bs : List Int) (hr : Rd .u8 w v B bs) (hu : U8 bs)
include hr hu

set_option maxHeartbeats 400000 in
theorem shWritten_calls (at_ : Int) : Calls Tryd.prog 51 #[.pointer (some ⟨s, 0, none⟩), .int .i64 at_, v] w fun e w' =>
    e = .returned (.tuple #[.int .i64 (shWritten D at_ bs).1, .int .i64 (shWritten D at_ bs).2.1]) ∧ ShAt w' s b c a n r (shWritten D at_ bs).2.2 M F ∧ Grows w w' (b :: c :: F) (b :: c :: F) := by
  have c0 := h.blk.cell 0
  simp at c0
  have hw := write_calls b c B D at_ v bs w h.dev hr hu
  have hok := write_ok h.ok at_ bs hu
  have HR := Lib.hid hr
  have HU := Lib.hid hu
  by_cases he : (D.write at_ bs).1 = 0
  · have hs : shWritten D at_ bs = (at_, 0, (D.write at_ bs).2) := by unfold shWritten; rw [if_neg (fun x => x he)]
    rw [hs]
    rw [he] at hw
    have HW := Lib.hid hw
    have HOK := Lib.hid hok
    clear hs he hw hr hu hok
    go_enter Tryd.func51, Tryd.ntmps51
    go_wp2_with (go_at_call 79; refine HW.out.mono ?_; rintro e w1 ⟨rfl, hD, hK⟩)
    go_ret2
    exact ⟨rfl, h.onDev hD hK HOK.out⟩
  · have hs : shWritten D at_ bs = (0, (D.write at_ bs).1, (D.write at_ bs).2) := by unfold shWritten; rw [if_pos he]
    rw [hs]
    obtain ⟨m, hm⟩ : ∃ m, (D.write at_ bs).1 = m := ⟨_, rfl⟩
    rw [hm] at hw he
    rw [hm]
    have hne : (m != 0) = true := by simpa using he
    have HW := Lib.hid hw
    have HOK := Lib.hid hok
    clear hs he hw hm hr hu hok
    go_enter Tryd.func51, Tryd.ntmps51
    go_wp2_with (go_at_call 79; refine HW.out.mono ?_; rintro e w1 ⟨rfl, hD, hK⟩)
    go_ret2
    exact ⟨rfl, h.onDev hD hK HOK.out⟩
end
end Go.Proofs.YtfpdikhdfcppeaaDoor
