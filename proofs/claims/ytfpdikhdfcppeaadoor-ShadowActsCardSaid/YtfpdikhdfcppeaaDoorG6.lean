/- The test of the law ShadowActs: all that can be seen of both stores is alike. (Printed by gen_xg5.py.) -/
import Derived.Test.YtfpdikhdfcppeaaDoorG5
import Derived.Test.YtfpdikhdfcppeaaDoorK1
namespace Go.Proofs.YtfpdikhdfcppeaaDoor
open Go.RowKit Go.Proofs

def findRegion (n : Nat) : Code → Option Code
  | .region m o f => if m = n then some (.region m o f) else none
  | .block _ c => findRegion n c
  | .seq a b => match findRegion n a with
    | some c => some c
    | none => findRegion n b
  | .cond _ a b => match findRegion n a with
    | some c => some c
    | none => findRegion n b
  | .loop c => findRegion n c
  | .scope c => findRegion n c
  | _ => none
noncomputable def actsTest : Code := (Tryd.f7.body.bind (findRegion 49)).getD .skip
theorem rd_u64s {w : World} {p N : Nat} {l : List Int} (hb : Blk w p 107 (u64s l)) (hl : l.length = N) (hm : N ≤ 32768) : Rd .u64 w (.slice (some ⟨p, 0, none⟩) N N) p l := by
  subst hl
  refine .inr ⟨0, l.length, rfl, Nat.le_refl _, by unfold maxLen; omega, fun i hi => ?_⟩
  rw [hb.cell, u64s, List.getElem?_map, Nat.zero_add, List.getElem?_eq_getElem hi, getD_lt _ _ hi]
  rfl
/-- What each operation of the test is to leave. -/
def testGood (α ε : Int) (D : Dev) (b d p0 p1 m s a A n : Nat) (M3 : Nat) (V3 : Value) (st0 st1 : ByteArray) (L : List Int) : List (Value → World → Prop) := [fun v _ => v = .int .i64 α, fun v _ => v = .int .i64 α, fun v _ => v = .bool false, fun v _ => v = .bool false, fun v _ => v = .int .i64 ε, fun v _ => v = .int .i64 ε, fun v _ => v = .bool false, fun v _ => v = .bool false, fun v _ => v = .bool false, fun v _ => v = .pointer (some ⟨b, 0, none⟩), fun v _ => v = .int .i64 D.steps, fun v _ => v = .pointer (some ⟨m, 0, none⟩), fun v _ => v = .pointer (some ⟨m, 0, none⟩), fun v _ => v = .pointer (some ⟨m, 0, none⟩), fun v _ => v = .pointer (some ⟨d, 0, none⟩), fun v _ => v = .pointer (some ⟨d, 0, none⟩), fun v _ => v = .pointer (some ⟨d, 7, none⟩), fun v _ => v = .int .i64 D.steps, fun v _ => v = .bool false, fun v _ => v = .bool false, fun v _ => v = .bool false, fun v _ => v = .pointer (some ⟨b, 0, none⟩), fun v w => ∀ w', Keeps [] w w' → (convert 43 9 v).run Tryd.prog w' = .ok (.string st1) w', fun v _ => v = .string st1, fun v _ => v = .pointer (some ⟨m, 0, none⟩), fun v _ => v = .pointer (some ⟨m, 0, none⟩), fun v _ => v = .pointer (some ⟨m, 0, none⟩), fun v _ => v = .pointer (some ⟨d, 0, none⟩), fun v _ => v = .pointer (some ⟨d, 0, none⟩), fun v _ => v = .pointer (some ⟨d, 1, none⟩), fun v _ => v = .slice (some ⟨p1, 0, none⟩) (n * 8) (n * 8), fun v _ => v = .string st1, fun v _ => v = .bool false, fun v _ => v = .bool false, fun v _ => v = .bool false, fun v _ => v = .pointer (some ⟨b, 0, none⟩), fun v w => ∀ w', Keeps [] w w' → (convert 43 9 v).run Tryd.prog w' = .ok (.string st0) w', fun v _ => v = .string st0, fun v _ => v = .pointer (some ⟨m, 0, none⟩), fun v _ => v = .pointer (some ⟨m, 0, none⟩), fun v _ => v = .pointer (some ⟨m, 0, none⟩), fun v _ => v = .pointer (some ⟨d, 0, none⟩), fun v _ => v = .pointer (some ⟨d, 0, none⟩), fun v _ => v = .pointer (some ⟨d, 0, none⟩), fun v _ => v = .slice (some ⟨p0, 0, none⟩) (n * 8) (n * 8), fun v _ => v = .string st0, fun v _ => v = .bool false, fun v _ => v = .bool false, fun v _ => v = .bool false, fun v _ => v = .pointer (some ⟨s, 0, none⟩), fun v _ => v = .pointer (some ⟨a, 0, none⟩), fun v w => ∃ P Q, v = .pointer (some ⟨P, 0, none⟩) ∧ SetAt w P Q n M3, fun v w => ∃ Bu, Rd .i64 w v Bu L, fun v _ => v = .pointer (some ⟨m, 0, none⟩), fun v _ => v = .pointer (some ⟨m, 0, none⟩), fun v _ => v = .pointer (some ⟨m, 1, none⟩), fun v _ => v = .pointer (some ⟨A, 0, none⟩), fun v _ => v = .pointer (some ⟨A, 0, none⟩), fun v _ => v = .pointer (some ⟨A, 5, none⟩), fun v _ => v = V3, fun v _ => v = .bool true, fun v _ => v = .bool false, fun v _ => v = .bool false]
abbrev ActsHeld (W : World) (m d p0 p1 A n : Nat) (D : Dev) (V3 : Value) (w' : World) : Prop := Keeps [] W w' ∧ w'.cell? ⟨m, 0, none⟩ = some (.pointer (some ⟨d, 0, none⟩)) ∧ w'.cell? ⟨m, 1, none⟩ = some (.pointer (some ⟨A, 0, none⟩)) ∧ w'.cell? ⟨d, 7, none⟩ = some (.int .i64 D.steps) ∧ w'.cell? ⟨d, 1, none⟩ = some (.slice (some ⟨p1, 0, none⟩) (n * 8) (n * 8)) ∧ w'.cell? ⟨d, 0, none⟩ = some (.slice (some ⟨p0, 0, none⟩) (n * 8) (n * 8)) ∧ w'.cell? ⟨A, 5, none⟩ = some V3
theorem ActsHeld.next {W w1 w2 : World} {m d p0 p1 A n : Nat} {D : Dev} {V3 : Value} (hk : Keeps [] w1 w2) (h : ActsHeld W m d p0 p1 A n D V3 w1) : ActsHeld W m d p0 p1 A n D V3 w2 :=
  ⟨h.1.trans hk (by simp), hk.cell h.2.1, hk.cell h.2.2.1, hk.cell h.2.2.2.1, hk.cell h.2.2.2.2.1, hk.cell h.2.2.2.2.2.1, hk.cell h.2.2.2.2.2.2⟩

set_option maxRecDepth 1000000 in
set_option maxHeartbeats 8000000 in
theorem acts_test (s b c a m d p0 p1 p2 p3 A n q : Nat) (α ε : Int) (D : Dev) (M : Nat → Nat) (F G : List Nat) (w W : World)
    (HB : Hid (Both w W s b c a m d p0 p1 p2 p3 A n q D M F D M G))
    (c0 c1 c2 c3 c4 c5 c6 c7 c8 c11 c13 c14 c19 c20 c21 c22 c23 c24 c25 c26 c27 c28 c29 c30 c31 c32 c33 c34 c35 c36 c37 c38 c39 c40 c41 c42 c43 c44 c45 c46 c47 c48 c49 c50 c51 c52 c53 c54 c55 c56 c57 c58 c59 c60 c61 c62 c63 c64 c65 c66 c67 c68 c69 c70 c71 c72 c73 c74 c75 c76 c77 c78 c79 c80 c81 c82 c83 c84 c85 c86 c87 c88 c89 c90 c91 c92 c93 c94 c95 c96 c97 c98 c99 c100 c101 c102 c103 c104 c105 c106 c107 c108 c109 c110 c111 c112 c113 c114 c115 c116 c117 c118 c119 c120 c121 c122 c123 c124 c125 c126 c127 c128 c129 c130 c131 c132 c133 c134 c135 c136 c137 c138 c139 c140 c141 c142 c143 c144 c145 c146 c147 c148 c149 c150 c151 c152 c153 c154 c155 c156 c157 c158 c159 c160 c161 c162 c163 c164 c165 c166 c167 c168 c169 c170 c171 c172 c173 c174 c175 c176 c177 c178 c179 c180 c181 c182 c183 c184 c185 c186 c187 c188 c189 c190 c191 c192 c193 c194 c195 c196 c197 c198 c199 c200 c201 c202 c203 c204 c205 c206 c207 c208 c209 c210 c211 c212 c213 c214 c215 c216 c217 c218 c219 c220 c221 c222 c223 c224 c225 c226 c227 c228 c229 c230 c231 c232 c233 c234 c235 c236 c237 c238 c239 c240 c241 c242 c243 c244 c245 c246 c247 c248 c249 c250 c251 c252 c253 c254 c255 c256 c257 c258 c259 c260 c261 c262 c263 c264 c265 c266 c267 c268 c269 c270 c271 c272 c273 c274 : Value) (K : Act → World → Prop) (Q0 : Exit → Act → World → Prop)
    (hK : ∀ wx : World, Both w wx s b c a m d p0 p1 p2 p3 A n q D M F D M G → ∀ v212 v213 v214 v215 v216 v217 v218 v219 v220 v221 v222 v223 v224 v225 v226 v227 v228 v229 v230 v231 v232 v233 v234 v235 v236 v237 v238 v239 v240 v241 v242 v243 v244 v245 v246 v247 v248 v249 v250 v251 v252 v253 v254 v255 v256 v257 v258 v259 v260 v261 v262 v263 v264 v265 v266 v267 v268 v269 v270 v271 v272 v273 : Value, K ⟨#[c0, c1, c2, c3, c4, c5, c6, c7, c8, .pointer (some ⟨s, 0, none⟩), .pointer (some ⟨b, 0, none⟩), c11, .pointer (some ⟨m, 0, none⟩), c13, c14, .int .i64 α, .int .i64 α, .int .i64 ε, .int .i64 ε, c19, c20, c21, c22, c23, c24, c25, c26, c27, c28, c29, c30, c31, c32, c33, c34, c35, c36, c37, c38, c39, c40, c41, c42, c43, c44, c45, c46, c47, c48, c49, c50, c51, c52, c53, c54, c55, c56, c57, c58, c59, c60, c61, c62, c63, c64, c65, c66, c67, c68, c69, c70, c71, c72, c73, c74, c75, c76, c77, c78, c79, c80, c81, c82, c83, c84, c85, c86, c87, c88, c89, c90, c91, c92, c93, c94, c95, c96, c97, c98, c99, c100, c101, c102, c103, c104, c105, c106, c107, c108, c109, c110, c111, c112, c113, c114, c115, c116, c117, c118, c119, c120, c121, c122, c123, c124, c125, c126, c127, c128, c129, c130, c131, c132, c133, c134, c135, c136, c137, c138, c139, c140, c141, c142, c143, c144, c145, c146, c147, c148, c149, c150, c151, c152, c153, c154, c155, c156, c157, c158, c159, c160, c161, c162, c163, c164, c165, c166, c167, c168, c169, c170, c171, c172, c173, c174, c175, c176, c177, c178, c179, c180, c181, c182, c183, c184, c185, c186, c187, c188, c189, c190, c191, c192, c193, c194, c195, c196, c197, c198, c199, c200, c201, c202, c203, c204, c205, c206, c207, c208, c209, c210, c211, v212, v213, v214, v215, v216, v217, v218, v219, v220, v221, v222, v223, v224, v225, v226, v227, v228, v229, v230, v231, v232, v233, v234, v235, v236, v237, v238, v239, v240, v241, v242, v243, v244, v245, v246, v247, v248, v249, v250, v251, v252, v253, v254, v255, v256, v257, v258, v259, v260, v261, v262, v263, v264, v265, v266, v267, v268, v269, v270, v271, v272, v273, .bool false], []⟩ wx) :
    Code.wp Tryd.prog actsTest (Exit.then K Q0) ⟨#[c0, c1, c2, c3, c4, c5, c6, c7, c8, .pointer (some ⟨s, 0, none⟩), .pointer (some ⟨b, 0, none⟩), c11, .pointer (some ⟨m, 0, none⟩), c13, c14, .int .i64 α, .int .i64 α, .int .i64 ε, .int .i64 ε, c19, c20, c21, c22, c23, c24, c25, c26, c27, c28, c29, c30, c31, c32, c33, c34, c35, c36, c37, c38, c39, c40, c41, c42, c43, c44, c45, c46, c47, c48, c49, c50, c51, c52, c53, c54, c55, c56, c57, c58, c59, c60, c61, c62, c63, c64, c65, c66, c67, c68, c69, c70, c71, c72, c73, c74, c75, c76, c77, c78, c79, c80, c81, c82, c83, c84, c85, c86, c87, c88, c89, c90, c91, c92, c93, c94, c95, c96, c97, c98, c99, c100, c101, c102, c103, c104, c105, c106, c107, c108, c109, c110, c111, c112, c113, c114, c115, c116, c117, c118, c119, c120, c121, c122, c123, c124, c125, c126, c127, c128, c129, c130, c131, c132, c133, c134, c135, c136, c137, c138, c139, c140, c141, c142, c143, c144, c145, c146, c147, c148, c149, c150, c151, c152, c153, c154, c155, c156, c157, c158, c159, c160, c161, c162, c163, c164, c165, c166, c167, c168, c169, c170, c171, c172, c173, c174, c175, c176, c177, c178, c179, c180, c181, c182, c183, c184, c185, c186, c187, c188, c189, c190, c191, c192, c193, c194, c195, c196, c197, c198, c199, c200, c201, c202, c203, c204, c205, c206, c207, c208, c209, c210, c211, c212, c213, c214, c215, c216, c217, c218, c219, c220, c221, c222, c223, c224, c225, c226, c227, c228, c229, c230, c231, c232, c233, c234, c235, c236, c237, c238, c239, c240, c241, c242, c243, c244, c245, c246, c247, c248, c249, c250, c251, c252, c253, c254, c255, c256, c257, c258, c259, c260, c261, c262, c263, c264, c265, c266, c267, c268, c269, c270, c271, c272, c273, c274], []⟩ W := by
  obtain ⟨V, GG, hG, ha⟩ := HB.out.rs.alc
  obtain ⟨V3, hV3⟩ : ∃ V3, V 3 = V3 := ⟨_, rfl⟩
  have m0 := HB.out.rs.blk.cell 0
  have m1 := HB.out.rs.blk.cell 1
  have d7 := HB.out.rs.dev.dev.blk.cell 7
  have d1 := HB.out.rs.dev.dev.blk.cell 1
  have d0 := HB.out.rs.dev.dev.blk.cell 0
  have a5 := ha.blk.cell 5
  have hrv := ha.rd 3 (by omega)
  simp at m0 m1 d7 d1 d0 a5
  rw [hV3] at a5 hrv
  have hh : ActsHeld W m d p0 p1 A n D V3 W := ⟨Keeps.refl _ _, m0, m1, d7, d1, d0, a5⟩
  have HSteps : Hid (∀ w', ActsHeld W m d p0 p1 A n D V3 w' → Calls Tryd.prog 42 #[.pointer (some ⟨b, 0, none⟩)] w' fun e w2 => e = .returned (.int .i64 D.steps) ∧ w' = w2) :=
    fun w' h => steps_calls b c D w' ((HB.out.same h.1).sh.dev)
  have HText1 : Hid (∀ w', ActsHeld W m d p0 p1 A n D V3 w' → Calls Tryd.prog 44 #[.slice (some ⟨p1, 0, none⟩) (n * 8) (n * 8)] w' fun e w2 => e = .returned (.string (strOfNums (bytesOf (D.cells.map DCell.stored)))) ∧ Keeps [] w' w2) := fun w' h => by
    have hb := (HB.out.same h.1).rs.dev.dev
    have hl := hb.len
    have hmx := hb.max
    exact rtext_calls _ p1 (D.cells.map DCell.stored) w' (rd_u64s hb.b1 (by simpa using hl) hmx) (fun x hx => by obtain ⟨y, hy, rfl⟩ := List.mem_map.1 hx; exact (HB.out.sh.ok y hy).2.1) (by simp; omega)
  have HText0 : Hid (∀ w', ActsHeld W m d p0 p1 A n D V3 w' → Calls Tryd.prog 44 #[.slice (some ⟨p0, 0, none⟩) (n * 8) (n * 8)] w' fun e w2 => e = .returned (.string (strOfNums (bytesOf (D.cells.map DCell.lasts)))) ∧ Keeps [] w' w2) := fun w' h => by
    have hb := (HB.out.same h.1).rs.dev.dev
    have hl := hb.len
    have hmx := hb.max
    exact rtext_calls _ p0 (D.cells.map DCell.lasts) w' (rd_u64s hb.b0 (by simpa using hl) hmx) (fun x hx => by obtain ⟨y, hy, rfl⟩ := List.mem_map.1 hx; exact (HB.out.sh.ok y hy).1) (by simp; omega)
  have HView : Hid (∀ w', ActsHeld W m d p0 p1 A n D V3 w' → Calls Tryd.prog 43 #[.pointer (some ⟨b, 0, none⟩)] w' fun e w2 => Any fun u => e = .returned u ∧ (∀ w3, Keeps [] w2 w3 → (convert 43 9 u).run Tryd.prog w3 = .ok (.string (strOfNums (bytesOf (D.cells.map DCell.stored)))) w3) ∧ Keeps [] w' w2) := fun w' h => by
    refine (View_calls b c D w' (HB.out.same h.1).sh.dev (fun y hy => (HB.out.sh.ok y hy).2.1)).mono ?_
    rintro e w2 ⟨u, rfl, hO, hK⟩
    obtain ⟨_, Bu, _, hRu⟩ := Rd.of_owns hO
    exact Any.mk u ⟨rfl, fun w3 hk3 => run_str Tryd.underlying43 Tryd.underlying5 Tryd.underlying9 (hRu.keeps hk3 (by simp)), hK⟩
  have HImage : Hid (∀ w', ActsHeld W m d p0 p1 A n D V3 w' → Calls Tryd.prog 29 #[.pointer (some ⟨b, 0, none⟩)] w' fun e w2 => Any fun u => e = .returned u ∧ (∀ w3, Keeps [] w2 w3 → (convert 43 9 u).run Tryd.prog w3 = .ok (.string (strOfNums (bytesOf (D.cells.map DCell.lasts)))) w3) ∧ Keeps [] w' w2) := fun w' h => by
    refine (Image_calls b c D w' (HB.out.same h.1).sh.dev (fun y hy => (HB.out.sh.ok y hy).1)).mono ?_
    rintro e w2 ⟨u, rfl, hO, hK⟩
    obtain ⟨_, Bu, _, hRu⟩ := Rd.of_owns hO
    exact Any.mk u ⟨rfl, fun w3 hk3 => run_str Tryd.underlying43 Tryd.underlying5 Tryd.underlying9 (hRu.keeps hk3 (by simp)), hK⟩
  have HAlloc : Hid (∀ w', ActsHeld W m d p0 p1 A n D V3 w' → Calls Tryd.prog 13 #[.pointer (some ⟨s, 0, none⟩)] w' fun e w2 => e = .returned (.pointer (some ⟨a, 0, none⟩)) ∧ w' = w2) :=
    fun w' h => shAlloc_calls s b c a n q D M F w' (HB.out.same h.1).sh
  have HWorks : Hid (∀ w', ActsHeld W m d p0 p1 A n D V3 w' → Calls Tryd.prog 22 #[.pointer (some ⟨a, 0, none⟩)] w' fun e w2 => Any fun P => Any fun Q => e = .returned (.pointer (some ⟨P, 0, none⟩)) ∧ SetAt w2 P Q n (M 3) ∧ Keeps [] w' w2) := fun w' h => by
    refine (works_calls a n q M F w' (HB.out.same h.1).sh.alc (HB.out.same h.1).sh.tab).mono ?_
    rintro e w2 ⟨P, Q, rfl, hS, hK, _, _⟩
    exact Any.mk P (Any.mk Q ⟨rfl, hS, hK⟩)
  have HList : Hid (∀ P Q w', ActsHeld W m d p0 p1 A n D V3 w' → SetAt w' P Q n (M 3) → Calls Tryd.prog 23 #[.pointer (some ⟨P, 0, none⟩)] w' fun e w2 => Any fun u => Any fun Bu => e = .returned u ∧ Rd .i64 w2 u Bu (ups n (M 3)) ∧ Keeps [] w' w2) := fun P Q w' h hS => by
    refine (list_calls P Q n _ w' hS (HB.out.same h.1).sh.tab).mono ?_
    rintro e w2 ⟨u, rfl, hO, hK⟩
    change w2.ownsRow w'.heap.size 3 1 u (ups n (M 3)).length (i64s (ups n (M 3))) at hO
    obtain ⟨_, Bu, _, hRu⟩ := Rd.of_owns hO
    exact Any.mk u (Any.mk Bu ⟨rfl, hRu, hK⟩)
  have HInts : Hid (∀ u Bu w', ActsHeld W m d p0 p1 A n D V3 w' → Rd .i64 w' u Bu (ups n (M 3)) → Calls Tryd.prog 26 #[u, V3] w' fun e w2 => e = .returned (.bool true) ∧ Keeps [] w' w2) := fun u Bu w' h hR => by
    have := ints_calls u V3 Bu (GG 3) (ups n (M 3)) (ups n (M 3)) w' hR (hrv.keeps h.1 (by simp))
    refine this.mono ?_
    rintro e w2 ⟨rfl, k, rfl⟩
    exact ⟨by simp, (Keeps.refl _ _).drewN k⟩
  generalize strOfNums (bytesOf (D.cells.map DCell.stored)) = st1 at *
  generalize strOfNums (bytesOf (D.cells.map DCell.lasts)) = st0 at *
  generalize ups n (M 3) = L at *
  clear ha hG hV3 hrv hh
  conv => arg 2; whnf
  have hh0' : Hid (ActsHeld W m d p0 p1 A n D V3 W) := ⟨Keeps.refl _ _, m0, m1, d7, d1, d0, a5⟩
  refine wp_region_good (by kernel_rfl) (fun x y => Keeps [] x y) (Keeps.refl _ _).drew (fun _ _ _ h1 h2 => h1.trans h2 (by simp)) (testGood α ε D b d p0 p1 m s a A n (M 3) V3 st0 st1 L) (fun i => 212 + i) 63 rfl (by kernel_rfl) (fun i j _ _ h => by omega) (fun i hi => by simp; omega) ?last ?step ?fin
  case last => exact ⟨fun _ _ _ h _ => h, ⟨fun _ _ _ h _ => h, ⟨fun _ _ _ h _ => h, ⟨fun _ _ _ h _ => h, ⟨fun _ _ _ h _ => h, ⟨fun _ _ _ h _ => h, ⟨fun _ _ _ h _ => h, ⟨fun _ _ _ h _ => h, ⟨fun _ _ _ h _ => h, ⟨fun _ _ _ h _ => h, ⟨fun _ _ _ h _ => h, ⟨fun _ _ _ h _ => h, ⟨fun _ _ _ h _ => h, ⟨fun _ _ _ h _ => h, ⟨fun _ _ _ h _ => h, ⟨fun _ _ _ h _ => h, ⟨fun _ _ _ h _ => h, ⟨fun _ _ _ h _ => h, ⟨fun _ _ _ h _ => h, ⟨fun _ _ _ h _ => h, ⟨fun _ _ _ h _ => h, ⟨fun _ _ _ h _ => h, ⟨fun _ _ _ h k w' k' => h w' (k.trans k' (by simp)), ⟨fun _ _ _ h _ => h, ⟨fun _ _ _ h _ => h, ⟨fun _ _ _ h _ => h, ⟨fun _ _ _ h _ => h, ⟨fun _ _ _ h _ => h, ⟨fun _ _ _ h _ => h, ⟨fun _ _ _ h _ => h, ⟨fun _ _ _ h _ => h, ⟨fun _ _ _ h _ => h, ⟨fun _ _ _ h _ => h, ⟨fun _ _ _ h _ => h, ⟨fun _ _ _ h _ => h, ⟨fun _ _ _ h _ => h, ⟨fun _ _ _ h k w' k' => h w' (k.trans k' (by simp)), ⟨fun _ _ _ h _ => h, ⟨fun _ _ _ h _ => h, ⟨fun _ _ _ h _ => h, ⟨fun _ _ _ h _ => h, ⟨fun _ _ _ h _ => h, ⟨fun _ _ _ h _ => h, ⟨fun _ _ _ h _ => h, ⟨fun _ _ _ h _ => h, ⟨fun _ _ _ h _ => h, ⟨fun _ _ _ h _ => h, ⟨fun _ _ _ h _ => h, ⟨fun _ _ _ h _ => h, ⟨fun _ _ _ h _ => h, ⟨fun _ _ _ h _ => h, ⟨fun _ _ _ ⟨P, Q, h1, h2⟩ k => ⟨P, Q, h1, h2.keeps k (by simp) (by simp)⟩, ⟨fun _ _ _ ⟨Bu, h⟩ k => ⟨Bu, h.keeps k (by simp)⟩, ⟨fun _ _ _ h _ => h, ⟨fun _ _ _ h _ => h, ⟨fun _ _ _ h _ => h, ⟨fun _ _ _ h _ => h, ⟨fun _ _ _ h _ => h, ⟨fun _ _ _ h _ => h, ⟨fun _ _ _ h _ => h, ⟨fun _ _ _ h _ => h, ⟨fun _ _ _ h _ => h, ⟨fun _ _ _ h _ => h, trivial⟩⟩⟩⟩⟩⟩⟩⟩⟩⟩⟩⟩⟩⟩⟩⟩⟩⟩⟩⟩⟩⟩⟩⟩⟩⟩⟩⟩⟩⟩⟩⟩⟩⟩⟩⟩⟩⟩⟩⟩⟩⟩⟩⟩⟩⟩⟩⟩⟩⟩⟩⟩⟩⟩⟩⟩⟩⟩⟩⟩⟩⟩⟩
  case step =>
    refine lt_next (lt_next (lt_next (lt_next (lt_next (lt_next (lt_next (lt_next (lt_next (lt_next (lt_next (lt_next (lt_next (lt_next (lt_next (lt_next (lt_next (lt_next (lt_next (lt_next (lt_next (lt_next (lt_next (lt_next (lt_next (lt_next (lt_next (lt_next (lt_next (lt_next (lt_next (lt_next (lt_next (lt_next (lt_next (lt_next (lt_next (lt_next (lt_next (lt_next (lt_next (lt_next (lt_next (lt_next (lt_next (lt_next (lt_next (lt_next (lt_next (lt_next (lt_next (lt_next (lt_next (lt_next (lt_next (lt_next (lt_next (lt_next (lt_next (lt_next (lt_next (lt_next (lt_next (lt_none) ?s0) ?s1) ?s2) ?s3) ?s4) ?s5) ?s6) ?s7) ?s8) ?s9) ?s10) ?s11) ?s12) ?s13) ?s14) ?s15) ?s16) ?s17) ?s18) ?s19) ?s20) ?s21) ?s22) ?s23) ?s24) ?s25) ?s26) ?s27) ?s28) ?s29) ?s30) ?s31) ?s32) ?s33) ?s34) ?s35) ?s36) ?s37) ?s38) ?s39) ?s40) ?s41) ?s42) ?s43) ?s44) ?s45) ?s46) ?s47) ?s48) ?s49) ?s50) ?s51) ?s52) ?s53) ?s54) ?s55) ?s56) ?s57) ?s58) ?s59) ?s60) ?s61) ?s62
    case s0 =>
      intro o a1 w1 ho hR hS hdep K hK
      simp only [List.getElem?_toArray, List.getElem?_cons_succ, List.getElem?_cons_zero, Option.some.injEq] at ho
      subst ho
      have g15 : a1.tmps[15]?.getD undef = .int .i64 α := slot_eq (hS.out 15 (fun j hj => by show 212 + j ≠ 15; omega))
      rw [if_pos (wanted_none rfl)]
      clear hdep hS
      clear hR
      go_simp
      exact hK _ _ (Keeps.refl _ _) rfl
    case s1 =>
      intro o a1 w1 ho hR hS hdep K hK
      simp only [List.getElem?_toArray, List.getElem?_cons_succ, List.getElem?_cons_zero, Option.some.injEq] at ho
      subst ho
      have g16 : a1.tmps[16]?.getD undef = .int .i64 α := slot_eq (hS.out 16 (fun j hj => by show 212 + j ≠ 16; omega))
      rw [if_pos (wanted_none rfl)]
      clear hdep hS
      clear hR
      go_simp
      exact hK _ _ (Keeps.refl _ _) rfl
    case s2 =>
      intro o a1 w1 ho hR hS hdep K hK
      simp only [List.getElem?_toArray, List.getElem?_cons_succ, List.getElem?_cons_zero, Option.some.injEq] at ho
      subst ho
      have g212 : a1.tmps[212]?.getD undef = .int .i64 α := slot_eq (hdep ⟨0, .data⟩ (by simp) rfl)
      have g213 : a1.tmps[213]?.getD undef = .int .i64 α := slot_eq (hdep ⟨1, .data⟩ (by simp) rfl)
      rw [if_pos (wanted_none rfl)]
      clear hdep hS
      clear hR
      go_simp
      exact hK _ _ (Keeps.refl _ _) rfl
    case s3 =>
      intro o a1 w1 ho hR hS hdep K hK
      simp only [List.getElem?_toArray, List.getElem?_cons_succ, List.getElem?_cons_zero, Option.some.injEq] at ho
      subst ho
      have g214 : a1.tmps[214]?.getD undef = .bool false := slot_eq (hdep ⟨2, .data⟩ (by simp) rfl)
      rw [if_pos (wanted_none rfl)]
      clear hdep hS
      clear hR
      go_simp
      exact hK _ _ (Keeps.refl _ _) rfl
    case s4 =>
      intro o a1 w1 ho hR hS hdep K hK
      simp only [List.getElem?_toArray, List.getElem?_cons_succ, List.getElem?_cons_zero, Option.some.injEq] at ho
      subst ho
      have g18 : a1.tmps[18]?.getD undef = .int .i64 ε := slot_eq (hS.out 18 (fun j hj => by show 212 + j ≠ 18; omega))
      have gg : a1.tmps.getD 215 undef = .bool false := hdep ⟨3, .guard⟩ (by simp) rfl
      rw [if_pos (wanted_some (j := 3) (d := 215) (b := false) rfl rfl gg)]
      clear gg
      clear hdep hS
      clear hR
      go_simp
      exact hK _ _ (Keeps.refl _ _) rfl
    case s5 =>
      intro o a1 w1 ho hR hS hdep K hK
      simp only [List.getElem?_toArray, List.getElem?_cons_succ, List.getElem?_cons_zero, Option.some.injEq] at ho
      subst ho
      have g17 : a1.tmps[17]?.getD undef = .int .i64 ε := slot_eq (hS.out 17 (fun j hj => by show 212 + j ≠ 17; omega))
      have gg : a1.tmps.getD 215 undef = .bool false := hdep ⟨3, .guard⟩ (by simp) rfl
      rw [if_pos (wanted_some (j := 3) (d := 215) (b := false) rfl rfl gg)]
      clear gg
      clear hdep hS
      clear hR
      go_simp
      exact hK _ _ (Keeps.refl _ _) rfl
    case s6 =>
      intro o a1 w1 ho hR hS hdep K hK
      simp only [List.getElem?_toArray, List.getElem?_cons_succ, List.getElem?_cons_zero, Option.some.injEq] at ho
      subst ho
      have g216 : a1.tmps[216]?.getD undef = .int .i64 ε := slot_eq (hdep ⟨4, .data⟩ (by simp) rfl)
      have g217 : a1.tmps[217]?.getD undef = .int .i64 ε := slot_eq (hdep ⟨5, .data⟩ (by simp) rfl)
      have gg : a1.tmps.getD 215 undef = .bool false := hdep ⟨3, .guard⟩ (by simp) rfl
      rw [if_pos (wanted_some (j := 3) (d := 215) (b := false) rfl rfl gg)]
      clear gg
      clear hdep hS
      clear hR
      go_simp
      exact hK _ _ (Keeps.refl _ _) rfl
    case s7 =>
      intro o a1 w1 ho hR hS hdep K hK
      simp only [List.getElem?_toArray, List.getElem?_cons_succ, List.getElem?_cons_zero, Option.some.injEq] at ho
      subst ho
      have g215 : a1.tmps[215]?.getD undef = .bool false := slot_eq (hdep ⟨3, .data⟩ (by simp) rfl)
      have g218 : a1.tmps[218]?.getD undef = .bool false := slot_eq (hdep ⟨6, .data⟩ (by simp) rfl)
      rw [if_pos (wanted_none rfl)]
      clear hdep hS
      clear hR
      go_simp
      exact hK _ _ (Keeps.refl _ _) rfl
    case s8 =>
      intro o a1 w1 ho hR hS hdep K hK
      simp only [List.getElem?_toArray, List.getElem?_cons_succ, List.getElem?_cons_zero, Option.some.injEq] at ho
      subst ho
      have g219 : a1.tmps[219]?.getD undef = .bool false := slot_eq (hdep ⟨7, .data⟩ (by simp) rfl)
      rw [if_pos (wanted_none rfl)]
      clear hdep hS
      clear hR
      go_simp
      exact hK _ _ (Keeps.refl _ _) rfl
    case s9 =>
      intro o a1 w1 ho hR hS hdep K hK
      simp only [List.getElem?_toArray, List.getElem?_cons_succ, List.getElem?_cons_zero, Option.some.injEq] at ho
      subst ho
      have g10 : a1.tmps[10]?.getD undef = .pointer (some ⟨b, 0, none⟩) := slot_eq (hS.out 10 (fun j hj => by show 212 + j ≠ 10; omega))
      have gg : a1.tmps.getD 220 undef = .bool false := hdep ⟨8, .guard⟩ (by simp) rfl
      rw [if_pos (wanted_some (j := 8) (d := 220) (b := false) rfl rfl gg)]
      clear gg
      clear hdep hS
      clear hR
      go_simp
      exact hK _ _ (Keeps.refl _ _) rfl
    case s10 =>
      intro o a1 w1 ho hR hS hdep K hK
      simp only [List.getElem?_toArray, List.getElem?_cons_succ, List.getElem?_cons_zero, Option.some.injEq] at ho
      subst ho
      have g221 : a1.tmps[221]?.getD undef = .pointer (some ⟨b, 0, none⟩) := slot_eq (hdep ⟨9, .data⟩ (by simp) rfl)
      have gg : a1.tmps.getD 220 undef = .bool false := hdep ⟨8, .guard⟩ (by simp) rfl
      rw [if_pos (wanted_some (j := 8) (d := 220) (b := false) rfl rfl gg)]
      clear gg
      clear hdep hS
      have hh : ActsHeld W m d p0 p1 A n D V3 w1 := ActsHeld.next hR hh0'.out
      clear hR
      go_simp
      refine (HSteps.out _ hh).mono ?_
      rintro e w2 ⟨rfl, rfl⟩
      exact hK _ _ (Keeps.refl _ _) rfl
    case s11 =>
      intro o a1 w1 ho hR hS hdep K hK
      simp only [List.getElem?_toArray, List.getElem?_cons_succ, List.getElem?_cons_zero, Option.some.injEq] at ho
      subst ho
      have g12 : a1.tmps[12]?.getD undef = .pointer (some ⟨m, 0, none⟩) := slot_eq (hS.out 12 (fun j hj => by show 212 + j ≠ 12; omega))
      have gg : a1.tmps.getD 220 undef = .bool false := hdep ⟨8, .guard⟩ (by simp) rfl
      rw [if_pos (wanted_some (j := 8) (d := 220) (b := false) rfl rfl gg)]
      clear gg
      clear hdep hS
      clear hR
      go_simp
      exact hK _ _ (Keeps.refl _ _) rfl
    case s12 =>
      intro o a1 w1 ho hR hS hdep K hK
      simp only [List.getElem?_toArray, List.getElem?_cons_succ, List.getElem?_cons_zero, Option.some.injEq] at ho
      subst ho
      have g223 : a1.tmps[223]?.getD undef = .pointer (some ⟨m, 0, none⟩) := slot_eq (hdep ⟨11, .data⟩ (by simp) rfl)
      have gg : a1.tmps.getD 220 undef = .bool false := hdep ⟨8, .guard⟩ (by simp) rfl
      rw [if_pos (wanted_some (j := 8) (d := 220) (b := false) rfl rfl gg)]
      clear gg
      clear hdep hS
      clear hR
      go_simp
      exact hK _ _ (Keeps.refl _ _) rfl
    case s13 =>
      intro o a1 w1 ho hR hS hdep K hK
      simp only [List.getElem?_toArray, List.getElem?_cons_succ, List.getElem?_cons_zero, Option.some.injEq] at ho
      subst ho
      have g224 : a1.tmps[224]?.getD undef = .pointer (some ⟨m, 0, none⟩) := slot_eq (hdep ⟨12, .data⟩ (by simp) rfl)
      have gg : a1.tmps.getD 220 undef = .bool false := hdep ⟨8, .guard⟩ (by simp) rfl
      rw [if_pos (wanted_some (j := 8) (d := 220) (b := false) rfl rfl gg)]
      clear gg
      clear hdep hS
      clear hR
      go_simp
      exact hK _ _ (Keeps.refl _ _) rfl
    case s14 =>
      intro o a1 w1 ho hR hS hdep K hK
      simp only [List.getElem?_toArray, List.getElem?_cons_succ, List.getElem?_cons_zero, Option.some.injEq] at ho
      subst ho
      have g225 : a1.tmps[225]?.getD undef = .pointer (some ⟨m, 0, none⟩) := slot_eq (hdep ⟨13, .data⟩ (by simp) rfl)
      have gg : a1.tmps.getD 220 undef = .bool false := hdep ⟨8, .guard⟩ (by simp) rfl
      rw [if_pos (wanted_some (j := 8) (d := 220) (b := false) rfl rfl gg)]
      clear gg
      clear hdep hS
      have hcl := hR.cell m0
      clear hR
      go_simp
      exact hK _ _ (Keeps.refl _ _) rfl
    case s15 =>
      intro o a1 w1 ho hR hS hdep K hK
      simp only [List.getElem?_toArray, List.getElem?_cons_succ, List.getElem?_cons_zero, Option.some.injEq] at ho
      subst ho
      have g226 : a1.tmps[226]?.getD undef = .pointer (some ⟨d, 0, none⟩) := slot_eq (hdep ⟨14, .data⟩ (by simp) rfl)
      have gg : a1.tmps.getD 220 undef = .bool false := hdep ⟨8, .guard⟩ (by simp) rfl
      rw [if_pos (wanted_some (j := 8) (d := 220) (b := false) rfl rfl gg)]
      clear gg
      clear hdep hS
      clear hR
      go_simp
      exact hK _ _ (Keeps.refl _ _) rfl
    case s16 =>
      intro o a1 w1 ho hR hS hdep K hK
      simp only [List.getElem?_toArray, List.getElem?_cons_succ, List.getElem?_cons_zero, Option.some.injEq] at ho
      subst ho
      have g227 : a1.tmps[227]?.getD undef = .pointer (some ⟨d, 0, none⟩) := slot_eq (hdep ⟨15, .data⟩ (by simp) rfl)
      have gg : a1.tmps.getD 220 undef = .bool false := hdep ⟨8, .guard⟩ (by simp) rfl
      rw [if_pos (wanted_some (j := 8) (d := 220) (b := false) rfl rfl gg)]
      clear gg
      clear hdep hS
      clear hR
      go_simp
      exact hK _ _ (Keeps.refl _ _) rfl
    case s17 =>
      intro o a1 w1 ho hR hS hdep K hK
      simp only [List.getElem?_toArray, List.getElem?_cons_succ, List.getElem?_cons_zero, Option.some.injEq] at ho
      subst ho
      have g228 : a1.tmps[228]?.getD undef = .pointer (some ⟨d, 7, none⟩) := slot_eq (hdep ⟨16, .data⟩ (by simp) rfl)
      have gg : a1.tmps.getD 220 undef = .bool false := hdep ⟨8, .guard⟩ (by simp) rfl
      rw [if_pos (wanted_some (j := 8) (d := 220) (b := false) rfl rfl gg)]
      clear gg
      clear hdep hS
      have hcl := hR.cell d7
      clear hR
      go_simp
      exact hK _ _ (Keeps.refl _ _) rfl
    case s18 =>
      intro o a1 w1 ho hR hS hdep K hK
      simp only [List.getElem?_toArray, List.getElem?_cons_succ, List.getElem?_cons_zero, Option.some.injEq] at ho
      subst ho
      have g222 : a1.tmps[222]?.getD undef = .int .i64 D.steps := slot_eq (hdep ⟨10, .data⟩ (by simp) rfl)
      have g229 : a1.tmps[229]?.getD undef = .int .i64 D.steps := slot_eq (hdep ⟨17, .data⟩ (by simp) rfl)
      have gg : a1.tmps.getD 220 undef = .bool false := hdep ⟨8, .guard⟩ (by simp) rfl
      rw [if_pos (wanted_some (j := 8) (d := 220) (b := false) rfl rfl gg)]
      clear gg
      clear hdep hS
      clear hR
      go_simp
      exact hK _ _ (Keeps.refl _ _) rfl
    case s19 =>
      intro o a1 w1 ho hR hS hdep K hK
      simp only [List.getElem?_toArray, List.getElem?_cons_succ, List.getElem?_cons_zero, Option.some.injEq] at ho
      subst ho
      have g220 : a1.tmps[220]?.getD undef = .bool false := slot_eq (hdep ⟨8, .data⟩ (by simp) rfl)
      have g230 : a1.tmps[230]?.getD undef = .bool false := slot_eq (hdep ⟨18, .data⟩ (by simp) rfl)
      rw [if_pos (wanted_none rfl)]
      clear hdep hS
      clear hR
      go_simp
      exact hK _ _ (Keeps.refl _ _) rfl
    case s20 =>
      intro o a1 w1 ho hR hS hdep K hK
      simp only [List.getElem?_toArray, List.getElem?_cons_succ, List.getElem?_cons_zero, Option.some.injEq] at ho
      subst ho
      have g231 : a1.tmps[231]?.getD undef = .bool false := slot_eq (hdep ⟨19, .data⟩ (by simp) rfl)
      rw [if_pos (wanted_none rfl)]
      clear hdep hS
      clear hR
      go_simp
      exact hK _ _ (Keeps.refl _ _) rfl
    case s21 =>
      intro o a1 w1 ho hR hS hdep K hK
      simp only [List.getElem?_toArray, List.getElem?_cons_succ, List.getElem?_cons_zero, Option.some.injEq] at ho
      subst ho
      have g10 : a1.tmps[10]?.getD undef = .pointer (some ⟨b, 0, none⟩) := slot_eq (hS.out 10 (fun j hj => by show 212 + j ≠ 10; omega))
      have gg : a1.tmps.getD 232 undef = .bool false := hdep ⟨20, .guard⟩ (by simp) rfl
      rw [if_pos (wanted_some (j := 20) (d := 232) (b := false) rfl rfl gg)]
      clear gg
      clear hdep hS
      clear hR
      go_simp
      exact hK _ _ (Keeps.refl _ _) rfl
    case s22 =>
      intro o a1 w1 ho hR hS hdep K hK
      simp only [List.getElem?_toArray, List.getElem?_cons_succ, List.getElem?_cons_zero, Option.some.injEq] at ho
      subst ho
      have g233 : a1.tmps[233]?.getD undef = .pointer (some ⟨b, 0, none⟩) := slot_eq (hdep ⟨21, .data⟩ (by simp) rfl)
      have gg : a1.tmps.getD 232 undef = .bool false := hdep ⟨20, .guard⟩ (by simp) rfl
      rw [if_pos (wanted_some (j := 20) (d := 232) (b := false) rfl rfl gg)]
      clear gg
      clear hdep hS
      have hh : ActsHeld W m d p0 p1 A n D V3 w1 := ActsHeld.next hR hh0'.out
      clear hR
      go_simp
      refine (HView.out _ hh).mono ?_
      rintro e w2 ⟨u, rfl, hcv, hk⟩
      exact hK _ _ hk hcv
    case s23 =>
      intro o a1 w1 ho hR hS hdep K hK
      simp only [List.getElem?_toArray, List.getElem?_cons_succ, List.getElem?_cons_zero, Option.some.injEq] at ho
      subst ho
      have g234 := (show ∀ w', Keeps [] w1 w' → _ from hdep ⟨22, .data⟩ (by simp) rfl) w1 (Keeps.refl _ _)
      simp only [Array.getD_eq_getD_getElem?] at g234
      have gg : a1.tmps.getD 232 undef = .bool false := hdep ⟨20, .guard⟩ (by simp) rfl
      rw [if_pos (wanted_some (j := 20) (d := 232) (b := false) rfl rfl gg)]
      clear gg
      clear hdep hS
      clear hR
      go_simp
      exact hK _ _ (Keeps.refl _ _) rfl
    case s24 =>
      intro o a1 w1 ho hR hS hdep K hK
      simp only [List.getElem?_toArray, List.getElem?_cons_succ, List.getElem?_cons_zero, Option.some.injEq] at ho
      subst ho
      have g12 : a1.tmps[12]?.getD undef = .pointer (some ⟨m, 0, none⟩) := slot_eq (hS.out 12 (fun j hj => by show 212 + j ≠ 12; omega))
      have gg : a1.tmps.getD 232 undef = .bool false := hdep ⟨20, .guard⟩ (by simp) rfl
      rw [if_pos (wanted_some (j := 20) (d := 232) (b := false) rfl rfl gg)]
      clear gg
      clear hdep hS
      clear hR
      go_simp
      exact hK _ _ (Keeps.refl _ _) rfl
    case s25 =>
      intro o a1 w1 ho hR hS hdep K hK
      simp only [List.getElem?_toArray, List.getElem?_cons_succ, List.getElem?_cons_zero, Option.some.injEq] at ho
      subst ho
      have g236 : a1.tmps[236]?.getD undef = .pointer (some ⟨m, 0, none⟩) := slot_eq (hdep ⟨24, .data⟩ (by simp) rfl)
      have gg : a1.tmps.getD 232 undef = .bool false := hdep ⟨20, .guard⟩ (by simp) rfl
      rw [if_pos (wanted_some (j := 20) (d := 232) (b := false) rfl rfl gg)]
      clear gg
      clear hdep hS
      clear hR
      go_simp
      exact hK _ _ (Keeps.refl _ _) rfl
    case s26 =>
      intro o a1 w1 ho hR hS hdep K hK
      simp only [List.getElem?_toArray, List.getElem?_cons_succ, List.getElem?_cons_zero, Option.some.injEq] at ho
      subst ho
      have g237 : a1.tmps[237]?.getD undef = .pointer (some ⟨m, 0, none⟩) := slot_eq (hdep ⟨25, .data⟩ (by simp) rfl)
      have gg : a1.tmps.getD 232 undef = .bool false := hdep ⟨20, .guard⟩ (by simp) rfl
      rw [if_pos (wanted_some (j := 20) (d := 232) (b := false) rfl rfl gg)]
      clear gg
      clear hdep hS
      clear hR
      go_simp
      exact hK _ _ (Keeps.refl _ _) rfl
    case s27 =>
      intro o a1 w1 ho hR hS hdep K hK
      simp only [List.getElem?_toArray, List.getElem?_cons_succ, List.getElem?_cons_zero, Option.some.injEq] at ho
      subst ho
      have g238 : a1.tmps[238]?.getD undef = .pointer (some ⟨m, 0, none⟩) := slot_eq (hdep ⟨26, .data⟩ (by simp) rfl)
      have gg : a1.tmps.getD 232 undef = .bool false := hdep ⟨20, .guard⟩ (by simp) rfl
      rw [if_pos (wanted_some (j := 20) (d := 232) (b := false) rfl rfl gg)]
      clear gg
      clear hdep hS
      have hcl := hR.cell m0
      clear hR
      go_simp
      exact hK _ _ (Keeps.refl _ _) rfl
    case s28 =>
      intro o a1 w1 ho hR hS hdep K hK
      simp only [List.getElem?_toArray, List.getElem?_cons_succ, List.getElem?_cons_zero, Option.some.injEq] at ho
      subst ho
      have g239 : a1.tmps[239]?.getD undef = .pointer (some ⟨d, 0, none⟩) := slot_eq (hdep ⟨27, .data⟩ (by simp) rfl)
      have gg : a1.tmps.getD 232 undef = .bool false := hdep ⟨20, .guard⟩ (by simp) rfl
      rw [if_pos (wanted_some (j := 20) (d := 232) (b := false) rfl rfl gg)]
      clear gg
      clear hdep hS
      clear hR
      go_simp
      exact hK _ _ (Keeps.refl _ _) rfl
    case s29 =>
      intro o a1 w1 ho hR hS hdep K hK
      simp only [List.getElem?_toArray, List.getElem?_cons_succ, List.getElem?_cons_zero, Option.some.injEq] at ho
      subst ho
      have g240 : a1.tmps[240]?.getD undef = .pointer (some ⟨d, 0, none⟩) := slot_eq (hdep ⟨28, .data⟩ (by simp) rfl)
      have gg : a1.tmps.getD 232 undef = .bool false := hdep ⟨20, .guard⟩ (by simp) rfl
      rw [if_pos (wanted_some (j := 20) (d := 232) (b := false) rfl rfl gg)]
      clear gg
      clear hdep hS
      clear hR
      go_simp
      exact hK _ _ (Keeps.refl _ _) rfl
    case s30 =>
      intro o a1 w1 ho hR hS hdep K hK
      simp only [List.getElem?_toArray, List.getElem?_cons_succ, List.getElem?_cons_zero, Option.some.injEq] at ho
      subst ho
      have g241 : a1.tmps[241]?.getD undef = .pointer (some ⟨d, 1, none⟩) := slot_eq (hdep ⟨29, .data⟩ (by simp) rfl)
      have gg : a1.tmps.getD 232 undef = .bool false := hdep ⟨20, .guard⟩ (by simp) rfl
      rw [if_pos (wanted_some (j := 20) (d := 232) (b := false) rfl rfl gg)]
      clear gg
      clear hdep hS
      have hcl := hR.cell d1
      clear hR
      go_simp
      exact hK _ _ (Keeps.refl _ _) rfl
    case s31 =>
      intro o a1 w1 ho hR hS hdep K hK
      simp only [List.getElem?_toArray, List.getElem?_cons_succ, List.getElem?_cons_zero, Option.some.injEq] at ho
      subst ho
      have g242 : a1.tmps[242]?.getD undef = .slice (some ⟨p1, 0, none⟩) (n * 8) (n * 8) := slot_eq (hdep ⟨30, .data⟩ (by simp) rfl)
      have gg : a1.tmps.getD 232 undef = .bool false := hdep ⟨20, .guard⟩ (by simp) rfl
      rw [if_pos (wanted_some (j := 20) (d := 232) (b := false) rfl rfl gg)]
      clear gg
      clear hdep hS
      have hh : ActsHeld W m d p0 p1 A n D V3 w1 := ActsHeld.next hR hh0'.out
      clear hR
      go_simp
      refine (HText1.out _ hh).mono ?_
      rintro e w2 ⟨rfl, hk⟩
      exact hK _ _ hk rfl
    case s32 =>
      intro o a1 w1 ho hR hS hdep K hK
      simp only [List.getElem?_toArray, List.getElem?_cons_succ, List.getElem?_cons_zero, Option.some.injEq] at ho
      subst ho
      have g235 : a1.tmps[235]?.getD undef = .string st1 := slot_eq (hdep ⟨23, .data⟩ (by simp) rfl)
      have g243 : a1.tmps[243]?.getD undef = .string st1 := slot_eq (hdep ⟨31, .data⟩ (by simp) rfl)
      have gg : a1.tmps.getD 232 undef = .bool false := hdep ⟨20, .guard⟩ (by simp) rfl
      rw [if_pos (wanted_some (j := 20) (d := 232) (b := false) rfl rfl gg)]
      clear gg
      clear hdep hS
      clear hR
      go_simp
      exact hK _ _ (Keeps.refl _ _) rfl
    case s33 =>
      intro o a1 w1 ho hR hS hdep K hK
      simp only [List.getElem?_toArray, List.getElem?_cons_succ, List.getElem?_cons_zero, Option.some.injEq] at ho
      subst ho
      have g232 : a1.tmps[232]?.getD undef = .bool false := slot_eq (hdep ⟨20, .data⟩ (by simp) rfl)
      have g244 : a1.tmps[244]?.getD undef = .bool false := slot_eq (hdep ⟨32, .data⟩ (by simp) rfl)
      rw [if_pos (wanted_none rfl)]
      clear hdep hS
      clear hR
      go_simp
      exact hK _ _ (Keeps.refl _ _) rfl
    case s34 =>
      intro o a1 w1 ho hR hS hdep K hK
      simp only [List.getElem?_toArray, List.getElem?_cons_succ, List.getElem?_cons_zero, Option.some.injEq] at ho
      subst ho
      have g245 : a1.tmps[245]?.getD undef = .bool false := slot_eq (hdep ⟨33, .data⟩ (by simp) rfl)
      rw [if_pos (wanted_none rfl)]
      clear hdep hS
      clear hR
      go_simp
      exact hK _ _ (Keeps.refl _ _) rfl
    case s35 =>
      intro o a1 w1 ho hR hS hdep K hK
      simp only [List.getElem?_toArray, List.getElem?_cons_succ, List.getElem?_cons_zero, Option.some.injEq] at ho
      subst ho
      have g10 : a1.tmps[10]?.getD undef = .pointer (some ⟨b, 0, none⟩) := slot_eq (hS.out 10 (fun j hj => by show 212 + j ≠ 10; omega))
      have gg : a1.tmps.getD 246 undef = .bool false := hdep ⟨34, .guard⟩ (by simp) rfl
      rw [if_pos (wanted_some (j := 34) (d := 246) (b := false) rfl rfl gg)]
      clear gg
      clear hdep hS
      clear hR
      go_simp
      exact hK _ _ (Keeps.refl _ _) rfl
    case s36 =>
      intro o a1 w1 ho hR hS hdep K hK
      simp only [List.getElem?_toArray, List.getElem?_cons_succ, List.getElem?_cons_zero, Option.some.injEq] at ho
      subst ho
      have g247 : a1.tmps[247]?.getD undef = .pointer (some ⟨b, 0, none⟩) := slot_eq (hdep ⟨35, .data⟩ (by simp) rfl)
      have gg : a1.tmps.getD 246 undef = .bool false := hdep ⟨34, .guard⟩ (by simp) rfl
      rw [if_pos (wanted_some (j := 34) (d := 246) (b := false) rfl rfl gg)]
      clear gg
      clear hdep hS
      have hh : ActsHeld W m d p0 p1 A n D V3 w1 := ActsHeld.next hR hh0'.out
      clear hR
      go_simp
      refine (HImage.out _ hh).mono ?_
      rintro e w2 ⟨u, rfl, hcv, hk⟩
      exact hK _ _ hk hcv
    case s37 =>
      intro o a1 w1 ho hR hS hdep K hK
      simp only [List.getElem?_toArray, List.getElem?_cons_succ, List.getElem?_cons_zero, Option.some.injEq] at ho
      subst ho
      have g248 := (show ∀ w', Keeps [] w1 w' → _ from hdep ⟨36, .data⟩ (by simp) rfl) w1 (Keeps.refl _ _)
      simp only [Array.getD_eq_getD_getElem?] at g248
      have gg : a1.tmps.getD 246 undef = .bool false := hdep ⟨34, .guard⟩ (by simp) rfl
      rw [if_pos (wanted_some (j := 34) (d := 246) (b := false) rfl rfl gg)]
      clear gg
      clear hdep hS
      clear hR
      go_simp
      exact hK _ _ (Keeps.refl _ _) rfl
    case s38 =>
      intro o a1 w1 ho hR hS hdep K hK
      simp only [List.getElem?_toArray, List.getElem?_cons_succ, List.getElem?_cons_zero, Option.some.injEq] at ho
      subst ho
      have g12 : a1.tmps[12]?.getD undef = .pointer (some ⟨m, 0, none⟩) := slot_eq (hS.out 12 (fun j hj => by show 212 + j ≠ 12; omega))
      have gg : a1.tmps.getD 246 undef = .bool false := hdep ⟨34, .guard⟩ (by simp) rfl
      rw [if_pos (wanted_some (j := 34) (d := 246) (b := false) rfl rfl gg)]
      clear gg
      clear hdep hS
      clear hR
      go_simp
      exact hK _ _ (Keeps.refl _ _) rfl
    case s39 =>
      intro o a1 w1 ho hR hS hdep K hK
      simp only [List.getElem?_toArray, List.getElem?_cons_succ, List.getElem?_cons_zero, Option.some.injEq] at ho
      subst ho
      have g250 : a1.tmps[250]?.getD undef = .pointer (some ⟨m, 0, none⟩) := slot_eq (hdep ⟨38, .data⟩ (by simp) rfl)
      have gg : a1.tmps.getD 246 undef = .bool false := hdep ⟨34, .guard⟩ (by simp) rfl
      rw [if_pos (wanted_some (j := 34) (d := 246) (b := false) rfl rfl gg)]
      clear gg
      clear hdep hS
      clear hR
      go_simp
      exact hK _ _ (Keeps.refl _ _) rfl
    case s40 =>
      intro o a1 w1 ho hR hS hdep K hK
      simp only [List.getElem?_toArray, List.getElem?_cons_succ, List.getElem?_cons_zero, Option.some.injEq] at ho
      subst ho
      have g251 : a1.tmps[251]?.getD undef = .pointer (some ⟨m, 0, none⟩) := slot_eq (hdep ⟨39, .data⟩ (by simp) rfl)
      have gg : a1.tmps.getD 246 undef = .bool false := hdep ⟨34, .guard⟩ (by simp) rfl
      rw [if_pos (wanted_some (j := 34) (d := 246) (b := false) rfl rfl gg)]
      clear gg
      clear hdep hS
      clear hR
      go_simp
      exact hK _ _ (Keeps.refl _ _) rfl
    case s41 =>
      intro o a1 w1 ho hR hS hdep K hK
      simp only [List.getElem?_toArray, List.getElem?_cons_succ, List.getElem?_cons_zero, Option.some.injEq] at ho
      subst ho
      have g252 : a1.tmps[252]?.getD undef = .pointer (some ⟨m, 0, none⟩) := slot_eq (hdep ⟨40, .data⟩ (by simp) rfl)
      have gg : a1.tmps.getD 246 undef = .bool false := hdep ⟨34, .guard⟩ (by simp) rfl
      rw [if_pos (wanted_some (j := 34) (d := 246) (b := false) rfl rfl gg)]
      clear gg
      clear hdep hS
      have hcl := hR.cell m0
      clear hR
      go_simp
      exact hK _ _ (Keeps.refl _ _) rfl
    case s42 =>
      intro o a1 w1 ho hR hS hdep K hK
      simp only [List.getElem?_toArray, List.getElem?_cons_succ, List.getElem?_cons_zero, Option.some.injEq] at ho
      subst ho
      have g253 : a1.tmps[253]?.getD undef = .pointer (some ⟨d, 0, none⟩) := slot_eq (hdep ⟨41, .data⟩ (by simp) rfl)
      have gg : a1.tmps.getD 246 undef = .bool false := hdep ⟨34, .guard⟩ (by simp) rfl
      rw [if_pos (wanted_some (j := 34) (d := 246) (b := false) rfl rfl gg)]
      clear gg
      clear hdep hS
      clear hR
      go_simp
      exact hK _ _ (Keeps.refl _ _) rfl
    case s43 =>
      intro o a1 w1 ho hR hS hdep K hK
      simp only [List.getElem?_toArray, List.getElem?_cons_succ, List.getElem?_cons_zero, Option.some.injEq] at ho
      subst ho
      have g254 : a1.tmps[254]?.getD undef = .pointer (some ⟨d, 0, none⟩) := slot_eq (hdep ⟨42, .data⟩ (by simp) rfl)
      have gg : a1.tmps.getD 246 undef = .bool false := hdep ⟨34, .guard⟩ (by simp) rfl
      rw [if_pos (wanted_some (j := 34) (d := 246) (b := false) rfl rfl gg)]
      clear gg
      clear hdep hS
      clear hR
      go_simp
      exact hK _ _ (Keeps.refl _ _) rfl
    case s44 =>
      intro o a1 w1 ho hR hS hdep K hK
      simp only [List.getElem?_toArray, List.getElem?_cons_succ, List.getElem?_cons_zero, Option.some.injEq] at ho
      subst ho
      have g255 : a1.tmps[255]?.getD undef = .pointer (some ⟨d, 0, none⟩) := slot_eq (hdep ⟨43, .data⟩ (by simp) rfl)
      have gg : a1.tmps.getD 246 undef = .bool false := hdep ⟨34, .guard⟩ (by simp) rfl
      rw [if_pos (wanted_some (j := 34) (d := 246) (b := false) rfl rfl gg)]
      clear gg
      clear hdep hS
      have hcl := hR.cell d0
      clear hR
      go_simp
      exact hK _ _ (Keeps.refl _ _) rfl
    case s45 =>
      intro o a1 w1 ho hR hS hdep K hK
      simp only [List.getElem?_toArray, List.getElem?_cons_succ, List.getElem?_cons_zero, Option.some.injEq] at ho
      subst ho
      have g256 : a1.tmps[256]?.getD undef = .slice (some ⟨p0, 0, none⟩) (n * 8) (n * 8) := slot_eq (hdep ⟨44, .data⟩ (by simp) rfl)
      have gg : a1.tmps.getD 246 undef = .bool false := hdep ⟨34, .guard⟩ (by simp) rfl
      rw [if_pos (wanted_some (j := 34) (d := 246) (b := false) rfl rfl gg)]
      clear gg
      clear hdep hS
      have hh : ActsHeld W m d p0 p1 A n D V3 w1 := ActsHeld.next hR hh0'.out
      clear hR
      go_simp
      refine (HText0.out _ hh).mono ?_
      rintro e w2 ⟨rfl, hk⟩
      exact hK _ _ hk rfl
    case s46 =>
      intro o a1 w1 ho hR hS hdep K hK
      simp only [List.getElem?_toArray, List.getElem?_cons_succ, List.getElem?_cons_zero, Option.some.injEq] at ho
      subst ho
      have g249 : a1.tmps[249]?.getD undef = .string st0 := slot_eq (hdep ⟨37, .data⟩ (by simp) rfl)
      have g257 : a1.tmps[257]?.getD undef = .string st0 := slot_eq (hdep ⟨45, .data⟩ (by simp) rfl)
      have gg : a1.tmps.getD 246 undef = .bool false := hdep ⟨34, .guard⟩ (by simp) rfl
      rw [if_pos (wanted_some (j := 34) (d := 246) (b := false) rfl rfl gg)]
      clear gg
      clear hdep hS
      clear hR
      go_simp
      exact hK _ _ (Keeps.refl _ _) rfl
    case s47 =>
      intro o a1 w1 ho hR hS hdep K hK
      simp only [List.getElem?_toArray, List.getElem?_cons_succ, List.getElem?_cons_zero, Option.some.injEq] at ho
      subst ho
      have g246 : a1.tmps[246]?.getD undef = .bool false := slot_eq (hdep ⟨34, .data⟩ (by simp) rfl)
      have g258 : a1.tmps[258]?.getD undef = .bool false := slot_eq (hdep ⟨46, .data⟩ (by simp) rfl)
      rw [if_pos (wanted_none rfl)]
      clear hdep hS
      clear hR
      go_simp
      exact hK _ _ (Keeps.refl _ _) rfl
    case s48 =>
      intro o a1 w1 ho hR hS hdep K hK
      simp only [List.getElem?_toArray, List.getElem?_cons_succ, List.getElem?_cons_zero, Option.some.injEq] at ho
      subst ho
      have g259 : a1.tmps[259]?.getD undef = .bool false := slot_eq (hdep ⟨47, .data⟩ (by simp) rfl)
      rw [if_pos (wanted_none rfl)]
      clear hdep hS
      clear hR
      go_simp
      exact hK _ _ (Keeps.refl _ _) rfl
    case s49 =>
      intro o a1 w1 ho hR hS hdep K hK
      simp only [List.getElem?_toArray, List.getElem?_cons_succ, List.getElem?_cons_zero, Option.some.injEq] at ho
      subst ho
      have g9 : a1.tmps[9]?.getD undef = .pointer (some ⟨s, 0, none⟩) := slot_eq (hS.out 9 (fun j hj => by show 212 + j ≠ 9; omega))
      have gg : a1.tmps.getD 260 undef = .bool false := hdep ⟨48, .guard⟩ (by simp) rfl
      rw [if_pos (wanted_some (j := 48) (d := 260) (b := false) rfl rfl gg)]
      clear gg
      clear hdep hS
      clear hR
      go_simp
      exact hK _ _ (Keeps.refl _ _) rfl
    case s50 =>
      intro o a1 w1 ho hR hS hdep K hK
      simp only [List.getElem?_toArray, List.getElem?_cons_succ, List.getElem?_cons_zero, Option.some.injEq] at ho
      subst ho
      have g261 : a1.tmps[261]?.getD undef = .pointer (some ⟨s, 0, none⟩) := slot_eq (hdep ⟨49, .data⟩ (by simp) rfl)
      have gg : a1.tmps.getD 260 undef = .bool false := hdep ⟨48, .guard⟩ (by simp) rfl
      rw [if_pos (wanted_some (j := 48) (d := 260) (b := false) rfl rfl gg)]
      clear gg
      clear hdep hS
      have hh : ActsHeld W m d p0 p1 A n D V3 w1 := ActsHeld.next hR hh0'.out
      clear hR
      go_simp
      refine (HAlloc.out _ hh).mono ?_
      rintro e w2 ⟨rfl, rfl⟩
      exact hK _ _ (Keeps.refl _ _) rfl
    case s51 =>
      intro o a1 w1 ho hR hS hdep K hK
      simp only [List.getElem?_toArray, List.getElem?_cons_succ, List.getElem?_cons_zero, Option.some.injEq] at ho
      subst ho
      have g262 : a1.tmps[262]?.getD undef = .pointer (some ⟨a, 0, none⟩) := slot_eq (hdep ⟨50, .data⟩ (by simp) rfl)
      have gg : a1.tmps.getD 260 undef = .bool false := hdep ⟨48, .guard⟩ (by simp) rfl
      rw [if_pos (wanted_some (j := 48) (d := 260) (b := false) rfl rfl gg)]
      clear gg
      clear hdep hS
      have hh : ActsHeld W m d p0 p1 A n D V3 w1 := ActsHeld.next hR hh0'.out
      clear hR
      go_simp
      refine (HWorks.out _ hh).mono ?_
      rintro e w2 ⟨P, Q, rfl, hS2, hk⟩
      exact hK _ _ hk ⟨P, Q, rfl, hS2⟩
    case s52 =>
      intro o a1 w1 ho hR hS hdep K hK
      simp only [List.getElem?_toArray, List.getElem?_cons_succ, List.getElem?_cons_zero, Option.some.injEq] at ho
      subst ho
      obtain ⟨P0, Q0', gs, hset⟩ : ∃ P Q, a1.tmps.getD 263 undef = .pointer (some ⟨P, 0, none⟩) ∧ SetAt w1 P Q n (M 3) := hdep ⟨51, .data⟩ (by simp) rfl
      have g263 := slot_eq gs
      have gg : a1.tmps.getD 260 undef = .bool false := hdep ⟨48, .guard⟩ (by simp) rfl
      rw [if_pos (wanted_some (j := 48) (d := 260) (b := false) rfl rfl gg)]
      clear gg
      clear hdep hS
      have hh : ActsHeld W m d p0 p1 A n D V3 w1 := ActsHeld.next hR hh0'.out
      clear hR
      go_simp
      refine (HList.out _ _ _ hh hset).mono ?_
      rintro e w2 ⟨u, Bu, rfl, hR2, hk⟩
      exact hK _ _ hk ⟨Bu, hR2⟩
    case s53 =>
      intro o a1 w1 ho hR hS hdep K hK
      simp only [List.getElem?_toArray, List.getElem?_cons_succ, List.getElem?_cons_zero, Option.some.injEq] at ho
      subst ho
      have g12 : a1.tmps[12]?.getD undef = .pointer (some ⟨m, 0, none⟩) := slot_eq (hS.out 12 (fun j hj => by show 212 + j ≠ 12; omega))
      have gg : a1.tmps.getD 260 undef = .bool false := hdep ⟨48, .guard⟩ (by simp) rfl
      rw [if_pos (wanted_some (j := 48) (d := 260) (b := false) rfl rfl gg)]
      clear gg
      clear hdep hS
      clear hR
      go_simp
      exact hK _ _ (Keeps.refl _ _) rfl
    case s54 =>
      intro o a1 w1 ho hR hS hdep K hK
      simp only [List.getElem?_toArray, List.getElem?_cons_succ, List.getElem?_cons_zero, Option.some.injEq] at ho
      subst ho
      have g265 : a1.tmps[265]?.getD undef = .pointer (some ⟨m, 0, none⟩) := slot_eq (hdep ⟨53, .data⟩ (by simp) rfl)
      have gg : a1.tmps.getD 260 undef = .bool false := hdep ⟨48, .guard⟩ (by simp) rfl
      rw [if_pos (wanted_some (j := 48) (d := 260) (b := false) rfl rfl gg)]
      clear gg
      clear hdep hS
      clear hR
      go_simp
      exact hK _ _ (Keeps.refl _ _) rfl
    case s55 =>
      intro o a1 w1 ho hR hS hdep K hK
      simp only [List.getElem?_toArray, List.getElem?_cons_succ, List.getElem?_cons_zero, Option.some.injEq] at ho
      subst ho
      have g266 : a1.tmps[266]?.getD undef = .pointer (some ⟨m, 0, none⟩) := slot_eq (hdep ⟨54, .data⟩ (by simp) rfl)
      have gg : a1.tmps.getD 260 undef = .bool false := hdep ⟨48, .guard⟩ (by simp) rfl
      rw [if_pos (wanted_some (j := 48) (d := 260) (b := false) rfl rfl gg)]
      clear gg
      clear hdep hS
      clear hR
      go_simp
      exact hK _ _ (Keeps.refl _ _) rfl
    case s56 =>
      intro o a1 w1 ho hR hS hdep K hK
      simp only [List.getElem?_toArray, List.getElem?_cons_succ, List.getElem?_cons_zero, Option.some.injEq] at ho
      subst ho
      have g267 : a1.tmps[267]?.getD undef = .pointer (some ⟨m, 1, none⟩) := slot_eq (hdep ⟨55, .data⟩ (by simp) rfl)
      have gg : a1.tmps.getD 260 undef = .bool false := hdep ⟨48, .guard⟩ (by simp) rfl
      rw [if_pos (wanted_some (j := 48) (d := 260) (b := false) rfl rfl gg)]
      clear gg
      clear hdep hS
      have hcl := hR.cell m1
      clear hR
      go_simp
      exact hK _ _ (Keeps.refl _ _) rfl
    case s57 =>
      intro o a1 w1 ho hR hS hdep K hK
      simp only [List.getElem?_toArray, List.getElem?_cons_succ, List.getElem?_cons_zero, Option.some.injEq] at ho
      subst ho
      have g268 : a1.tmps[268]?.getD undef = .pointer (some ⟨A, 0, none⟩) := slot_eq (hdep ⟨56, .data⟩ (by simp) rfl)
      have gg : a1.tmps.getD 260 undef = .bool false := hdep ⟨48, .guard⟩ (by simp) rfl
      rw [if_pos (wanted_some (j := 48) (d := 260) (b := false) rfl rfl gg)]
      clear gg
      clear hdep hS
      clear hR
      go_simp
      exact hK _ _ (Keeps.refl _ _) rfl
    case s58 =>
      intro o a1 w1 ho hR hS hdep K hK
      simp only [List.getElem?_toArray, List.getElem?_cons_succ, List.getElem?_cons_zero, Option.some.injEq] at ho
      subst ho
      have g269 : a1.tmps[269]?.getD undef = .pointer (some ⟨A, 0, none⟩) := slot_eq (hdep ⟨57, .data⟩ (by simp) rfl)
      have gg : a1.tmps.getD 260 undef = .bool false := hdep ⟨48, .guard⟩ (by simp) rfl
      rw [if_pos (wanted_some (j := 48) (d := 260) (b := false) rfl rfl gg)]
      clear gg
      clear hdep hS
      clear hR
      go_simp
      exact hK _ _ (Keeps.refl _ _) rfl
    case s59 =>
      intro o a1 w1 ho hR hS hdep K hK
      simp only [List.getElem?_toArray, List.getElem?_cons_succ, List.getElem?_cons_zero, Option.some.injEq] at ho
      subst ho
      have g270 : a1.tmps[270]?.getD undef = .pointer (some ⟨A, 5, none⟩) := slot_eq (hdep ⟨58, .data⟩ (by simp) rfl)
      have gg : a1.tmps.getD 260 undef = .bool false := hdep ⟨48, .guard⟩ (by simp) rfl
      rw [if_pos (wanted_some (j := 48) (d := 260) (b := false) rfl rfl gg)]
      clear gg
      clear hdep hS
      have hcl := hR.cell a5
      clear hR
      go_simp
      exact hK _ _ (Keeps.refl _ _) rfl
    case s60 =>
      intro o a1 w1 ho hR hS hdep K hK
      simp only [List.getElem?_toArray, List.getElem?_cons_succ, List.getElem?_cons_zero, Option.some.injEq] at ho
      subst ho
      obtain ⟨Bu0, hrd⟩ : ∃ Bu, Rd .i64 w1 (a1.tmps.getD 264 undef) Bu L := hdep ⟨52, .data⟩ (by simp) rfl
      rw [Array.getD_eq_getD_getElem?] at hrd
      have g271 : a1.tmps[271]?.getD undef = V3 := slot_eq (hdep ⟨59, .data⟩ (by simp) rfl)
      have gg : a1.tmps.getD 260 undef = .bool false := hdep ⟨48, .guard⟩ (by simp) rfl
      rw [if_pos (wanted_some (j := 48) (d := 260) (b := false) rfl rfl gg)]
      clear gg
      clear hdep hS
      have hh : ActsHeld W m d p0 p1 A n D V3 w1 := ActsHeld.next hR hh0'.out
      clear hR
      go_simp
      refine (HInts.out _ _ _ hh hrd).mono ?_
      rintro e w2 ⟨rfl, hk⟩
      exact hK _ _ hk rfl
    case s61 =>
      intro o a1 w1 ho hR hS hdep K hK
      simp only [List.getElem?_toArray, List.getElem?_cons_succ, List.getElem?_cons_zero, Option.some.injEq] at ho
      subst ho
      have g272 : a1.tmps[272]?.getD undef = .bool true := slot_eq (hdep ⟨60, .data⟩ (by simp) rfl)
      have gg : a1.tmps.getD 260 undef = .bool false := hdep ⟨48, .guard⟩ (by simp) rfl
      rw [if_pos (wanted_some (j := 48) (d := 260) (b := false) rfl rfl gg)]
      clear gg
      clear hdep hS
      clear hR
      go_simp
      exact hK _ _ (Keeps.refl _ _) rfl
    case s62 =>
      intro o a1 w1 ho hR hS hdep K hK
      simp only [List.getElem?_toArray, List.getElem?_cons_succ, List.getElem?_cons_zero, Option.some.injEq] at ho
      subst ho
      have g260 : a1.tmps[260]?.getD undef = .bool false := slot_eq (hdep ⟨48, .data⟩ (by simp) rfl)
      have g273 : a1.tmps[273]?.getD undef = .bool false := slot_eq (hdep ⟨61, .data⟩ (by simp) rfl)
      rw [if_pos (wanted_none rfl)]
      clear hdep hS
      clear hR
      go_simp
      exact hK _ _ (Keeps.refl _ _) rfl
  case fin =>
    intro a1 w1 hR hS hG
    have h274 : a1.tmps.getD 274 undef = .bool false := hG 62 (by omega)
    have e := same_tail (M := 62) hS rfl h274
    rw [e]
    exact hK _ (HB.out.same hR) _ _ _ _ _ _ _ _ _ _ _ _ _ _ _ _ _ _ _ _ _ _ _ _ _ _ _ _ _ _ _ _ _ _ _ _ _ _ _ _ _ _ _ _ _ _ _ _ _ _ _ _ _ _ _ _ _ _ _ _ _ _
end Go.Proofs.YtfpdikhdfcppeaaDoor
