/- A law for a region that draws its order: each operation leaves a good value, whichever came before it but for those that it waits for; so in the end all values are good, whatever the order. No Go text in sight. -/
import Derived.Test.YtfpdikhdfcppeaaDoorA0
import Derived.Orders
namespace Go.Proofs.YtfpdikhdfcppeaaDoor
open Go.RowKit Go.Proofs

section
variable {P : Program} {ops : Array Oper} {Q : Exit → Act → World → Prop}
/-- The frame as it was, but for what the region's operations write. -/
structure Same (dst : Nat → Nat) (n : Nat) (a0 a : Act) : Prop where
  size : a.tmps.size = a0.tmps.size
  defers : a.defers = a0.defers
  out : ∀ k, (∀ j, j < n → dst j ≠ k) → a.tmps.getD k undef = a0.tmps.getD k undef

theorem put_getD (a : Act) (d k : Nat) (v : Value) (hd : d < a.tmps.size) : (a.put (some d) v).tmps.getD k undef = if d = k then v else a.tmps.getD k undef := by
  unfold Act.put
  simp only [Array.getD_eq_getD_getElem?]
  by_cases h : d = k
  · subst h; simp [hd]
  · simp [Array.getElem?_setIfInBounds_ne h, h]

theorem wp_region_each {id : Nat} {a0 : Act} {w0 : World} (hm : P.follows .mixedOrders = true) (R : World → World → Prop) (hdr : R w0 w0.drew) (htr : ∀ x y z, R x y → R y z → R x z)
    (G : Nat → Value → World → Prop) (dst : Nat → Nat)
    (hdst : ∀ (i : Nat) (o : Oper), ops[i]? = some o → o.dst = some (dst i))
    (hinj : ∀ i j, i < ops.size → j < ops.size → dst i = dst j → i = j)
    (hlt : ∀ i, i < ops.size → dst i < a0.tmps.size)
    (hac : ∀ (i : Nat) (o : Oper), ops[i]? = some o → ∀ e ∈ o.after, e.on < i)
    (hmono : ∀ i v w w', G i v w → R w w' → G i v w')
    (step : ∀ (i : Nat) (o : Oper) (a : Act) (w : World), ops[i]? = some o → R w0 w → Same dst ops.size a0 a →
      (∀ e ∈ o.after, Region.binds .any e = true → G e.on (a.tmps.getD (dst e.on) undef) w) →
      ∀ K : Act → World → Prop, (∀ u w', R w w' → G i u w' → K (a.put o.dst u) w') →
        if Region.wanted o (yielded ops a.tmps) = true then Oper.wp P o a w K Q else K (a.put o.dst undef) w)
    (fin : ∀ a w, R w0 w → Same dst ops.size a0 a → (∀ i, i < ops.size → G i (a.tmps.getD (dst i) undef) w) → Q .normal a w) :
    (Code.region id ops true).wp P Q a0 w0 := by
  refine wp_region_any hm ?_
  have key : ∀ (fuel : Nat) (listed : Array Bool) (a : Act) (w : World), listed.size = ops.size → R w0 w → Same dst ops.size a0 a →
      (∀ i, i < ops.size → listed.getD i false = true → G i (a.tmps.getD (dst i) undef) w) →
      (∃ l : List Nat, l.Nodup ∧ l.length ≤ fuel ∧ ∀ j, j < ops.size → listed.getD j true = false → j ∈ l) → wpAny P .any ops Q fuel listed a w := by
    intro fuel
    induction fuel with
    | zero =>
      rintro listed a w hsz hR hS hG ⟨l, _, hl, hmem⟩
      obtain rfl := List.length_eq_zero_iff.1 (Nat.le_zero.1 hl)
      have hall : ∀ j, j < ops.size → listed.getD j true = true := fun j hj => by
        cases h : listed.getD j true with
        | true => rfl
        | false => exact absurd (hmem j hj h) (by simp)
      refine ⟨?_, fin a w hR hS fun i hi => hG i hi ?_⟩
      · rw [List.eq_nil_iff_forall_not_mem]
        intro j hj
        obtain ⟨h1, o, ho, _⟩ := mem_ready.1 hj
        have hjl : j < ops.size := (Array.getElem?_eq_some_iff.1 ho).1
        rw [hall j hjl] at h1
        cases h1
      · have := hall i hi
        simp only [Array.getD_eq_getD_getElem?] at this ⊢
        rw [Array.getElem?_eq_getElem (by omega)] at this ⊢
        simpa using this
    | succ fuel ih =>
      rintro listed a w hsz hR hS hG ⟨l, hnd, hl, hmem⟩
      refine ⟨fun hr => fin a w hR hS fun i hi => hG i hi ?_, fun i hi => ?_⟩
      · -- nothing may come up: all have
        have : ∀ n j, j < n → j < ops.size → listed.getD j false = true := by
          intro n
          induction n with
          | zero => intro j hj; omega
          | succ n ihn =>
            intro j hj hjl
            cases h : listed.getD j false with
            | true => rfl
            | false =>
              have hin : j ∈ Region.ready .any ops listed := by
                refine mem_ready.2 ⟨?_, ops[j], Array.getElem?_eq_getElem hjl, fun e he _ => ?_⟩
                · simp only [Array.getD_eq_getD_getElem?] at h ⊢
                  rw [Array.getElem?_eq_getElem (by omega)] at h ⊢
                  simpa using h
                · have hlt2 := hac j _ (Array.getElem?_eq_getElem hjl) e he
                  exact ihn e.on (by omega) (by omega)
              rw [hr] at hin
              cases hin
        exact this (i + 1) i (by omega) hi
      · obtain ⟨hun, o, ho, hdep⟩ := mem_ready.1 hi
        have hil : i < ops.size := (Array.getElem?_eq_some_iff.1 ho).1
        have hd := hdst i o ho
        have hdl : dst i < a.tmps.size := by rw [hS.size]; exact hlt i hil
        refine wpOp_step ho fun K' hK => ?_
        refine step i o a w ho hR hS (fun e he hb => ?_) K' fun u w' hww hG' => hK _ _ ?_
        · have hlt2 := hac i o ho e he
          exact hG e.on (by omega) (hdep e he hb)
        · refine ih _ _ _ (by simpa using hsz) (htr _ _ _ hR hww) ⟨?_, ?_, ?_⟩ (fun j hj hjl => ?_) ⟨l.erase i, hnd.erase i, ?_, fun j hj hjl => ?_⟩
          · rw [hd]; unfold Act.put; simpa using hS.size
          · rw [hd]; unfold Act.put; simpa using hS.defers
          · intro k hk
            rw [hd, put_getD a _ _ _ hdl, if_neg (hk i hil)]
            exact hS.out k hk
          · rw [hd, put_getD a _ _ _ hdl]
            by_cases e : dst i = dst j
            · rw [if_pos e]
              rw [← hinj i j hil hj e]
              exact hG'
            · rw [if_neg e]
              have hne : i ≠ j := fun h => e (by rw [h])
              rw [getD_set_ne false hne] at hjl
              exact hmono j _ _ _ (hG j hj hjl) hww
          · have hin : i ∈ l := hmem i hil hun
            rw [List.length_erase_of_mem hin]; omega
          · have hne : i ≠ j := fun h => by
              subst h
              simp only [Array.getD_eq_getD_getElem?] at hjl
              rw [Array.getElem?_setIfInBounds_self_of_lt (by omega)] at hjl
              cases hjl
            rw [getD_set_ne true hne] at hjl
            exact (List.mem_erase_of_ne (Ne.symm hne)).2 (hmem j hj hjl)
  refine key _ _ _ _ (by simp) hdr ⟨rfl, rfl, fun _ _ => rfl⟩ (fun i hi h => ?_) ⟨List.range ops.size, List.nodup_range, by simp, fun j hj _ => by simpa using hj⟩
  simp only [Array.getD_eq_getD_getElem?] at h
  rw [Array.getElem?_eq_getElem (by simpa using hi)] at h
  simp at h
/-- One operation's step. -/
def StepAt (P : Program) (ops : Array Oper) (Q : Exit → Act → World → Prop) (a0 : Act) (w0 : World) (R : World → World → Prop) (G : Nat → Value → World → Prop) (dst : Nat → Nat) (n i : Nat) : Prop :=
  ∀ (o : Oper) (a : Act) (w : World), ops[i]? = some o → R w0 w → Same dst n a0 a →
      (∀ e ∈ o.after, Region.binds .any e = true → G e.on (a.tmps.getD (dst e.on) undef) w) →
      ∀ K : Act → World → Prop, (∀ u w', R w w' → G i u w' → K (a.put o.dst u) w') →
        if Region.wanted o (yielded ops a.tmps) = true then Oper.wp P o a w K Q else K (a.put o.dst undef) w
def regionChk (f : Nat → Nat) : Nat → List Oper → Bool
  | _, [] => true
  | k, o :: l => (o.dst == some (f k) && o.after.all fun e => decide (e.on < k)) && regionChk f (k + 1) l
theorem regionChk_get {f : Nat → Nat} : ∀ (l : List Oper) (k : Nat), regionChk f k l = true → ∀ (i : Nat) (o : Oper), l[i]? = some o → o.dst = some (f (k + i)) ∧ ∀ e ∈ o.after, e.on < k + i := by
  intro l
  induction l with
  | nil => intro k _ i o h; simp at h
  | cons x l ih =>
    intro k h i o ho
    simp only [regionChk, Bool.and_eq_true, beq_iff_eq, Array.all_eq_true_iff_forall_mem, decide_eq_true_eq] at h
    cases i with
    | zero => simp at ho; subst ho; exact ⟨h.1.1, h.1.2⟩
    | succ i =>
      have := ih (k + 1) h.2 i o (by simpa using ho)
      rw [show k + 1 + i = k + (i + 1) by omega] at this
      exact this
theorem chk_dst {f : Nat → Nat} (h : regionChk f 0 ops.toList = true) : ∀ (i : Nat) (o : Oper), ops[i]? = some o → o.dst = some (f i) := fun i o ho => by
  have := (regionChk_get _ 0 h i o (by simpa using ho)).1
  simpa using this
theorem chk_after {f : Nat → Nat} (h : regionChk f 0 ops.toList = true) : ∀ (i : Nat) (o : Oper), ops[i]? = some o → ∀ e ∈ o.after, e.on < i := fun i o ho => by
  have := (regionChk_get _ 0 h i o (by simpa using ho)).2
  simpa using this
/-- Of goods that last. -/
def Lasting (R : World → World → Prop) : List (Value → World → Prop) → Prop
  | [] => True
  | g :: l => (∀ v w w', g v w → R w w' → g v w') ∧ Lasting R l
theorem Lasting.get {R : World → World → Prop} {l : List (Value → World → Prop)} (h : Lasting R l) (i : Nat) (v : Value) (w w' : World) (hg : (l.getD i fun _ _ => True) v w) (hR : R w w') : (l.getD i fun _ _ => True) v w' := by
  induction l generalizing i with
  | nil => simp
  | cons g l ih =>
    cases i with
    | zero => exact h.1 v w w' hg hR
    | succ i => exact ih h.2 i hg
theorem lt_none {p : Nat → Prop} : ∀ i, i < 0 → p i := fun _ h => by omega
theorem lt_next {p : Nat → Prop} {n : Nat} (h : ∀ i, i < n → p i) (hn : p n) : ∀ i, i < n + 1 → p i := fun i hi => by
  by_cases e : i = n
  · subst e; exact hn
  · exact h i (by omega)
theorem yielded_eq {a : Act} {j d : Nat} {b : Bool} (hd : (ops[j]?).bind (·.dst) = some d) (h : a.tmps.getD d undef = .bool b) : yielded ops a.tmps j = some b := by
  unfold yielded
  rw [hd]
  show (match a.tmps[d]? with | some (.bool b) => some b | _ => none) = some b
  rw [Array.getD_eq_getD_getElem?] at h
  cases h1 : a.tmps[d]? with
  | none => rw [h1] at h; simp [undef] at h
  | some v => rw [h1] at h; simp at h; rw [h]
theorem wanted_none {o : Oper} {y : Nat → Option Bool} (h : o.guard = none) : Region.wanted o y = true := by unfold Region.wanted; rw [h]
theorem wanted_some {o : Oper} {a : Act} {j d : Nat} {b : Bool} (h : o.guard = some (j, b)) (hd : (ops[j]?).bind (·.dst) = some d) (hv : a.tmps.getD d undef = .bool b) : Region.wanted o (yielded ops a.tmps) = true := by
  unfold Region.wanted
  rw [h]
  show (yielded ops a.tmps j == some b) = true
  rw [yielded_eq hd hv]
  simp
theorem slot_eq {a : Act} {k : Nat} {v : Value} (h : a.tmps.getD k undef = v) : a.tmps[k]?.getD undef = v := by rw [← h, Array.getD_eq_getD_getElem?]
/-- The frame behind a region that writes the last slots. -/
theorem same_tail {a0 a : Act} {B M : Nat} (hS : Same (fun i => B + i) (M + 1) a0 a) (hsz : a0.tmps.size = B + (M + 1)) {v : Value} (hv : a.tmps.getD (B + M) undef = v) :
    a = ⟨(a0.tmps.toList.take B ++ ((List.range' B M).map (fun k => a.tmps.getD k undef) ++ [v])).toArray, a0.defers⟩ := by
  have h1 := hS.size
  have h2 := hS.defers
  have h3 := hS.out
  obtain ⟨x, d⟩ := a
  simp only at h1 h2 h3 hv ⊢
  subst h2
  congr 1
  apply Array.ext
  · simp; omega
  intro k hk1 hk2
  have hxk : x.getD k undef = x[k] := by simp [Array.getD_eq_getD_getElem?, Array.getElem?_eq_getElem hk1]
  rw [← hxk]
  simp only [List.getElem_toArray]
  by_cases hkB : k < B
  · rw [List.getElem_append_left (by simp; omega), List.getElem_take, h3 k (fun j _ => by show B + j ≠ k; omega)]
    simp [Array.getD_eq_getD_getElem?, Array.getElem?_eq_getElem (show k < a0.tmps.size by omega)]
  · rw [List.getElem_append_right (by simp; omega)]
    by_cases hkM : k < B + M
    · rw [List.getElem_append_left (by simp; omega), List.getElem_map, List.getElem_range']
      congr 1
      simp; omega
    · rw [List.getElem_append_right (by simp; omega)]
      have : k = B + M := by omega
      subst this
      simp [hv]
/-- The law, as a walk uses it: N operations; the goods as a list. -/
theorem wp_region_good {id : Nat} {a0 : Act} {w0 : World} (hm : P.follows .mixedOrders = true) (R : World → World → Prop) (hdr : R w0 w0.drew) (htr : ∀ x y z, R x y → R y z → R x z)
    (G : List (Value → World → Prop)) (dst : Nat → Nat) (N : Nat) (hN : ops.size = N) (hchk : regionChk dst 0 ops.toList = true)
    (hinj : ∀ i j, i < N → j < N → dst i = dst j → i = j) (hlt : ∀ i, i < N → dst i < a0.tmps.size) (hlast : Lasting R G)
    (step : ∀ i, i < N → StepAt P ops Q a0 w0 R (fun i => G.getD i fun _ _ => True) dst N i)
    (fin : ∀ a w, R w0 w → Same dst N a0 a → (∀ i, i < N → (G.getD i fun _ _ => True) (a.tmps.getD (dst i) undef) w) → Q .normal a w) :
    (Code.region id ops true).wp P Q a0 w0 := by
  subst hN
  exact wp_region_each hm R hdr htr _ dst (chk_dst hchk) hinj hlt (chk_after hchk) (fun i v w w' h hR => hlast.get i v w w' h hR)
    (fun i o a w ho hR hS hdep K hK => step i (Array.getElem?_eq_some_iff.1 ho).1 o a w ho hR hS hdep K hK) fin
end
end Go.Proofs.YtfpdikhdfcppeaaDoor
