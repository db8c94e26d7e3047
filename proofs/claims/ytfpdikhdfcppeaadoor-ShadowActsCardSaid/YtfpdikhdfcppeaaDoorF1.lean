/- The reference's octets: of a number, and back. -/
import Derived.Test.YtfpdikhdfcppeaaDoorM4
import Derived.Test.YtfpdikhdfcppeaaDoorD4
namespace Go.Proofs.YtfpdikhdfcppeaaDoor
open Go.RowKit Go.Proofs

theorem strOf_append (xs ys : List Int) : strOfNums xs ++ strOfNums ys = strOfNums (xs ++ ys) := by
  apply ByteArray.ext
  simp [strOfNums, ByteArray.data_append]

theorem leBytes_get (x : Int) (n i : Nat) (h : i < n) : (leBytes x n)[i]? = some (x / 256 ^ i % 256) := by
  induction n generalizing x i with
  | zero => omega
  | succ n ih =>
    cases i with
    | zero => simp [leBytes]
    | succ i =>
      simp only [leBytes, List.getElem?_cons_succ]
      rw [ih (x / 256) i (by omega), Int.pow_succ, Int.mul_comm, ← Int.ediv_ediv_of_nonneg (by omega)]

set_option maxHeartbeats 1000000 in
theorem octet_calls (v : Int) (i : Nat) (hv : 0 ≤ v) (hv2 : v < 18446744073709551616) (hi : i ≤ 8) (w : World) :
    Calls Tryd.prog 90 #[.int .u64 v, .int .i64 i] w fun e w' => e = .returned (.int .u8 (v / 256 ^ i % 256)) ∧ w = w' := by
  go_enter Tryd.func90, Tryd.ntmps90
  go_wp2
  go_loop [0, 5] (fun t u => ∃ k : Nat, k ≤ i ∧ t = .int .u64 (v / 256 ^ k) ∧ u = .int .i64 k) (fun _ u => i - (intOf u).toNat)
  case atStart => exact ⟨0, by omega, by simp, rfl⟩
  case round =>
    obtain ⟨k, hk, rfl, rfl⟩ := hrel
    have h0 : 0 ≤ v / 256 ^ k := Int.ediv_nonneg hv (Int.le_of_lt (Int.pow_pos (by omega)))
    have h1 : v / 256 ^ k ≤ v := Int.ediv_le_self _ hv
    have h2 : (v / 256 ^ k).tdiv 256 = v / 256 ^ (k + 1) := by
      rw [Int.tdiv_eq_ediv_of_nonneg h0, Int.pow_succ, Int.ediv_ediv_of_nonneg (Int.le_of_lt (Int.pow_pos (by omega)))]
    have h3 : IntKind.u64.wrap (v / 256 ^ (k + 1)) = v / 256 ^ (k + 1) := by
      have a : 0 ≤ v / 256 ^ (k + 1) := Int.ediv_nonneg hv (Int.le_of_lt (Int.pow_pos (by omega)))
      have b : v / 256 ^ (k + 1) ≤ v := Int.ediv_le_self _ hv
      exact IntWalk.u64_in _ ⟨by omega, by omega⟩
    by_cases hlt : k < i
    · go_wp2
      refine ⟨⟨k + 1, by omega, by first | rfl | rw [h2, h3], by go_num⟩, ?_⟩
      simp [intOf]; omega
    · obtain rfl : k = i := by omega
      go_wp2
      go_ret
      exact ⟨rfl, rfl⟩

theorem leBytes_take (x : Int) (n k : Nat) (h : k ≤ n) : (leBytes x n).take k = leBytes x k := by
  induction n generalizing x k with
  | zero => obtain rfl : k = 0 := by omega
            rfl
  | succ n ih =>
    cases k with
    | zero => rfl
    | succ k => simp only [leBytes, List.take_succ_cons]; rw [ih (x / 256) k (by omega)]
set_option maxHeartbeats 2000000 in
theorem rlay_calls (v : Int) (n : Nat) (hv : 0 ≤ v) (hv2 : v < 18446744073709551616) (hn : n ≤ 8) (w : World) :
    Calls Tryd.prog 71 #[.int .u64 v, .int .i64 n] w fun e w' => e = .returned (.string (strOfNums (leBytes v n))) ∧ Keeps [] w w' := by
  go_enter Tryd.func71, Tryd.ntmps71
  go_wp2
  go_loopw [5, 6] (fun t u wr => ∃ k : Nat, k ≤ n ∧ t = .string (strOfNums (leBytes v k)) ∧ u = .int .i64 k ∧ Keeps [] w wr) (fun _ u _ => n - (intOf u).toNat)
  case atStart => exact ⟨0, by omega, rfl, rfl, Keeps.refl _ _⟩
  case round =>
    obtain ⟨k, hk, rfl, rfl, hK⟩ := hrel
    have HK := Lib.hid hK
    clear hK
    by_cases hlt : k < n
    · have hcv := run_str (P := Tryd.prog) (w := wr.alloc (.cells #[.int .u8 (v / 256 ^ k % 256)] 5)) Tryd.underlying43 Tryd.underlying5 Tryd.underlying9 (v := .slice (some ⟨wr.heap.size, 0, none⟩) 1 1) (B := wr.heap.size) (bs := [v / 256 ^ k % 256])
        (.inr ⟨0, 1, rfl, by simp, by unfold maxLen; omega, fun i hi => by
          obtain rfl : i = 0 := by simpa using hi
          rw [World.cell?_alloc_new]; rfl⟩)
      have hadd : ∀ W : World, (Op.stringOp .add (strOfNums (leBytes v k)) (strOfNums [v / 256 ^ k % 256])).run Tryd.prog W = .ok (.string (strOfNums (leBytes v (k + 1)))) W := fun W => by
        rw [run_string_add _ _ _ (by rw [strOfNums_size, leBytes_length]; omega) (by rw [strOfNums_size]; simp), strOf_append, leBytes_snoc]
      go_wp2_with fail
      refine (octet_calls v k hv hv2 (by omega) wr).mono ?_
      rintro e w1 ⟨rfl, rfl⟩
      go_wp2
      refine ⟨⟨k + 1, by omega, rfl, by go_num, HK.out.alloc _⟩, ?_⟩
      simp [intOf]; omega
    · obtain rfl : k = n := by omega
      go_wp2
      go_ret
      exact ⟨rfl, HK.out⟩
theorem str_get (bs : List Int) (hu : U8 bs) (i : Nat) (hi : i < bs.length) (h : i < (strOfNums bs).size) : (((strOfNums bs)[i]'h).toNat : Int) = bs[i] := by
  have hx := hu _ (List.getElem_mem hi)
  have : (strOfNums bs)[i]'h = UInt8.ofNat (bs[i]).toNat := by
    show (strOfNums bs).data[i]'_ = _
    simp [strOfNums]
  rw [this]
  simp
  omega
set_option maxHeartbeats 2000000 in
theorem rnumber_calls (bs : List Int) (hl : bs.length = 8) (hu : U8 bs) (w : World) :
    Calls Tryd.prog 88 #[.string (strOfNums bs)] w fun e w' => e = .returned (.int .u64 (leWord bs)) ∧ w = w' := by
  have hsz : ((strOfNums bs).size : Int) = 8 := by rw [strOfNums_size, hl]; rfl
  go_enter Tryd.func88, Tryd.ntmps88
  go_wp2
  go_loop [3, 4] (fun t u => ∃ k : Nat, k ≤ 8 ∧ t = .int .u64 (leWord (bs.drop (8 - k))) ∧ u = .int .i64 (7 - k)) (fun _ u => (intOf u + 1).toNat)
  case atStart => exact ⟨0, by omega, by simp [← hl, leWord], by simp⟩
  case round =>
    obtain ⟨k, hk, rfl, rfl⟩ := hrel
    by_cases hlt : k < 8
    · have hlt2 : 7 - k < bs.length := by omega
      have hget := str_get bs hu (7 - k) hlt2 (by rw [strOfNums_size]; exact hlt2)
      have hdrop : bs.drop (8 - (k + 1)) = bs[7 - k] :: bs.drop (8 - k) := by
        rw [show 8 - (k + 1) = 7 - k by omega, List.drop_eq_getElem_cons hlt2, show 7 - k + 1 = 8 - k by omega]
      have hb := leWord_bound (bs.drop (8 - k)) (fun x hx => hu x (List.mem_of_mem_drop hx))
      have hb2 := leWord_bound (bs.drop (8 - (k + 1))) (fun x hx => hu x (List.mem_of_mem_drop hx))
      have hx := hu _ (List.getElem_mem hlt2)
      have e1 : leWord (bs.drop (8 - (k + 1))) = bs[7 - k] + 256 * leWord (bs.drop (8 - k)) := by rw [hdrop]; rfl
      have p8 : (256 : Int) ^ (bs.drop (8 - (k + 1))).length ≤ 18446744073709551616 := by
        rw [List.length_drop, hl, show 8 - (8 - (k + 1)) = k + 1 by omega]
        have : k + 1 ≤ 8 := by omega
        have hc : k + 1 = 1 ∨ k + 1 = 2 ∨ k + 1 = 3 ∨ k + 1 = 4 ∨ k + 1 = 5 ∨ k + 1 = 6 ∨ k + 1 = 7 ∨ k + 1 = 8 := by omega
        rcases hc with e | e | e | e | e | e | e | e <;> rw [e] <;> decide
      go_wp2
      refine ⟨⟨k + 1, by omega, ?_, by push_cast; congr 1; omega⟩, ?_⟩
      · rw [e1]; congr 1; omega
      · simp [intOf]; omega
    · obtain rfl : k = 8 := by omega
      go_wp2
      go_ret
      exact ⟨by simp, rfl⟩
end Go.Proofs.YtfpdikhdfcppeaaDoor
