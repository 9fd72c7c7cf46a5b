/- WHAT THE DOCUMENT's FUNCTIONS ON OCTETS COMPUTE (cordwoodref01, cordwoodref02). -/
import Derived.Test.YtcnedmkfcbcjkaaSp1
set_option linter.unusedVariables false
set_option linter.unusedSimpArgs false
namespace Go.Proofs.Ytcnedmkfcbcjkaa.Ra
open Go Go.RowKit Go.Proofs.Ytcnedmkfcbcjkaa.Pl
set_option linter.unusedSimpArgs false
set_option linter.unusedVariables false
theorem byte_nat (n : Nat) : D.int .u8 (IntKind.u8.wrap (n : Int)) = yD (byte n) := by
  rw [byte_D]
  congr 1
  exact UInt8.toNat_inj.1 (by rw [byte_toNat, byte_toNat]; omega)
theorem S_ref01_Size (n : Int) : F_ref01_Size [iD n] = some (iD (vsize n)) := by
  rw [F_ref01_Size_eq]
  unfold vsize
  by_cases h1 : n < 0
  · simp [h1]
  by_cases h2 : n > 1073741823
  · simp [h1, h2]
  by_cases h3 : n < 64
  · simp [h1, h2, h3, show n ≤ 63 by omega]
  by_cases h4 : n < 16384
  · simp [h1, h2, h3, h4, show ¬ n ≤ 63 by omega, show n ≤ 16383 by omega]
  · simp [h1, h2, h3, h4, show ¬ n ≤ 63 by omega, show ¬ n ≤ 16383 by omega]
theorem S_ref01_Put {b : Bytes} {n : Nat} (hb : b.length ≤ 1099511627776) (hn : n ≤ 1073741823) : F_ref01_Put [ysD b, iD n] = some ((b ++ vput n).map yD) := by
  rw [F_ref01_Put_eq]
  simp only [all1_y, S_ref01_Size, Option.bind_some, Option.bind_none, Option.map_some, Option.map_none, cond_true, cond_false, binD_eql, binD_neq, binD_lss, binD_leq, binD_gtr, binD_geq, binD_add, binD_sub, binD_mul, asBool_bool, asInt_int, notD_bool, ext_0, ext_1, ext_2, loadRo_one, ofN_eq, elems_sl, Bool.and_true, Bool.true_and, List.nil_append, Nat.zero_add, Nat.mul_one, List.length_map, show decide (b.length ≤ 140737488355328) = true by simp; omega]
  have d1 : (n : Int).tdiv 256 = ((n / 256 : Nat) : Int) := rfl
  have d2 : (n : Int).tdiv 65536 = ((n / 65536 : Nat) : Int) := rfl
  have d3 : (n : Int).tdiv 16777216 = ((n / 16777216 : Nat) : Int) := rfl
  have m1 : (n : Int).tmod 256 = ((n % 256 : Nat) : Int) := rfl
  have w1 : IntKind.i64.wrap ((n / 256 : Nat) : Int) = ((n / 256 : Nat) : Int) := wrap64_id (by omega) (by omega)
  have w2 : IntKind.i64.wrap ((n / 65536 : Nat) : Int) = ((n / 65536 : Nat) : Int) := wrap64_id (by omega) (by omega)
  have w3 : IntKind.i64.wrap ((n / 16777216 : Nat) : Int) = ((n / 16777216 : Nat) : Int) := wrap64_id (by omega) (by omega)
  have v1 : IntKind.i64.wrap (64 + ((n / 256 : Nat) : Int)) = ((64 + n / 256 : Nat) : Int) := by rw [wrap64_id (by omega) (by omega)]; omega
  have v3 : IntKind.i64.wrap (128 + ((n / 16777216 : Nat) : Int)) = ((128 + n / 16777216 : Nat) : Int) := by rw [wrap64_id (by omega) (by omega)]; omega
  have q2 : ((n / 65536 : Nat) : Int).tmod 256 = ((n / 65536 % 256 : Nat) : Int) := rfl
  have q1 : ((n / 256 : Nat) : Int).tmod 256 = ((n / 256 % 256 : Nat) : Int) := rfl
  have bb : ∀ m : Nat, byte (m % 256) = byte m := fun m => UInt8.toNat_inj.1 (by rw [byte_toNat, byte_toNat]; omega)
  rw [d1, d2, d3, w1, w2, w3, v1, v3, q2, q1, m1]
  simp only [byte_nat, bb]
  unfold vsize vput
  rw [if_neg (show ¬ n > 1073741823 by omega), if_neg (show ¬ ((n : Int) < 0 ∨ (n : Int) > 1073741823) by omega)]
  by_cases h1 : n < 64
  · simp [h1, show (n : Int) < 64 by omega, D.cells, show b.length ≤ 140737488355327 by omega]
  · rw [if_neg (show ¬ (n : Int) < 64 by omega), if_neg h1]
    by_cases h2 : n < 16384
    · simp [h2, show (n : Int) < 16384 by omega, D.cells, show b.length ≤ 140737488355326 by omega, show b.length ≤ 140737488355324 by omega]
    · simp [h2, show ¬ (n : Int) < 16384 by omega, D.cells, show b.length ≤ 140737488355326 by omega, show b.length ≤ 140737488355324 by omega]
theorem num_append (n : Nat) (l : Bytes) (x : UInt8) : num n (l ++ [x]) = num n l * 256 + x.toNat := by simp [num]
theorem num_lt (l : Bytes) : ∀ (n : Nat), num n l < (n + 1) * 256 ^ l.length := by
  induction l with
  | nil => intro n; simp [num]
  | cons x l ih =>
    intro n
    have h1 := ih (n * 256 + x.toNat)
    have hx : x.toNat < 256 := x.toNat_lt
    have h2 : (n * 256 + x.toNat + 1) * 256 ^ l.length ≤ (n + 1) * 256 * 256 ^ l.length := Nat.mul_le_mul_right _ (by omega)
    have h3 : (n + 1) * 256 ^ (x :: l).length = (n + 1) * 256 * 256 ^ l.length := by rw [List.length_cons, Nat.pow_succ, Nat.mul_assoc, Nat.mul_comm (256 ^ l.length)]
    have h4 : num n (x :: l) = num (n * 256 + x.toNat) l := rfl
    omega
theorem num_lt4 {l : Bytes} (h : l.length ≤ 4) : num 0 l < 4294967296 := by
  have h1 := num_lt l 0
  have h2 : 256 ^ l.length ≤ 256 ^ 4 := Nat.pow_le_pow_right (by omega) h
  simp only [Nat.zero_add, Nat.one_mul] at h1
  omega
abbrev getD3 (x : Nat × Bytes × Int) : D := .tup [iD x.1, ysD x.2.1, iD x.2.2]
def getNum (c : Nat) (b : Bytes) : Nat × Bytes × Int := if b.length < c then (0, [], 1) else (num 0 (b.take c), b.drop c, 0)
theorem conv_y (x : UInt8) : convD (.int .i64) (yD x) = some (iD x.toNat) := by
  have hx : x.toNat < 256 := x.toNat_lt
  simp only [convD]
  rw [wrap64_id (by omega) (by omega)]
theorem S_ref02_count {c : Nat} (h1 : 1 ≤ c) (h4 : c ≤ 4) : F_ref02_count [iD c] = some (iD c) := by
  rw [F_ref02_count_eq]
  rw [if_neg (show ¬ (c : Int) < 1 by omega), if_neg (by omega)]
theorem S_ref02_GetNum {b : Bytes} {c : Nat} (h1 : 1 ≤ c) (h4 : c ≤ 4) (hb : b.length ≤ 9223372036854775807) : F_ref02_GetNum [ysD b, iD c] = some (getD3 (getNum c b)) := by
  rw [F_ref02_GetNum_eq]
  simp only [S_ref02_count h1 h4, Option.bind_some, Option.bind_none, Option.map_some, Option.map_none, cond_true, cond_false, binD_eql, binD_neq, binD_lss, binD_leq, binD_gtr, binD_geq, binD_add, binD_sub, binD_mul, asBool_bool, asInt_int, notD_bool, ext_0, ext_1, ext_2, loadRo_one, ofN_eq, elems_sl, Bool.and_true, Bool.true_and, List.length_map]
  unfold getNum
  by_cases h : b.length < c
  · rw [if_pos h, show decide ((b.length : Int) < (c : Int)) = true by simp [h]]
    rfl
  · rw [if_neg h, show decide ((b.length : Int) < (c : Int)) = false by simp; omega]
    simp only [cond_false]
    have := upTo (G := fun v m => G_ref02_GetNum_0 (b.map yD) (iD c) (iD m) v) (n := c) (fun k g => g (num 0 (b.take k) : Nat) = some (getD3 (num 0 (b.take c), b.drop c, 0))) ?_ (fun k hk ih => ?_) 0 (by omega)
    · exact this
    · simp only
      rw [G_ref02_GetNum_0_eq]
      simp only [Option.bind_some, Option.bind_none, Option.map_some, Option.map_none, cond_true, cond_false, binD_eql, binD_neq, binD_lss, binD_leq, binD_gtr, binD_geq, binD_add, binD_sub, binD_mul, asBool_bool, asInt_int, notD_bool, ext_0, ext_1, ext_2, loadRo_one, ofN_eq, elems_sl, Bool.and_true, Bool.true_and, end_len, List.length_map, cut_y (show c ≤ b.length by omega) (Nat.le_refl _)]
      simp
    · simp only at ih ⊢
      have hk' : k < b.length := by omega
      have hlt := num_lt4 (l := b.take k) (by simp; omega)
      have hlt' := num_lt4 (l := b.take (k + 1)) (by simp; omega)
      rw [List.take_succ_eq_append_getElem hk', num_append] at ih hlt'
      rw [G_ref02_GetNum_0_eq, elemPtr_y hk']
      simp only [Option.bind_some, Option.bind_none, Option.map_some, Option.map_none, cond_true, cond_false, binD_eql, binD_neq, binD_lss, binD_leq, binD_gtr, binD_geq, binD_add, binD_sub, binD_mul, asBool_bool, asInt_int, notD_bool, ext_0, ext_1, ext_2, loadRo_one, ofN_eq, elems_sl, Bool.and_true, Bool.true_and, in_len hk, wrap_next hk (show c ≤ 9223372036854775807 by omega), conv_y]
      rw [wrap64_id (z := ((num 0 (b.take k) : Nat) : Int) * 256) (by omega) (by omega), wrap64_id (by omega) (by omega)]
      exact ih
theorem vget_D {b : Bytes} (hb : b.length ≤ 9223372036854775807) : F_ref01_Get [ysD b] = some (getD3 (vget b)) := by
  rw [F_ref01_Get_eq]
  cases b with
  | nil => rfl
  | cons x r =>
    have hx : x.toNat < 256 := x.toNat_lt
    have e0 : (ofN ((x :: r).map yD).length == 0) = false := by simp [ofN]; omega
    have m64 : (x.toNat : Int).tmod 64 = ((x.toNat % 64 : Nat) : Int) := rfl
    rw [e0, elemPtr_y0]
    simp only [Option.bind_some, Option.bind_none, Option.map_some, Option.map_none, cond_true, cond_false, binD_eql, binD_neq, binD_lss, binD_leq, binD_gtr, binD_geq, binD_add, binD_sub, binD_mul, asBool_bool, asInt_int, notD_bool, ext_0, ext_1, ext_2, loadRo_one, ofN_eq, elems_sl, Bool.and_true, Bool.true_and, conv_y, binD_rem _ _ _ (show (64 : Int) ≠ 0 by decide), m64, List.length_map]
    have fin : ∀ (c : Nat), 1 ≤ c → c ≤ 4 → c ≤ (x :: r).length → G_ref01_Get_0 ((x :: r).map yD) c (iD ((x.toNat % 64 : Nat) : Int)) 1 =
        some (getD3 (if vsize (num (x.toNat % 64) (r.take (c - 1))) = c then (num (x.toNat % 64) (r.take (c - 1)), r.drop (c - 1), 0) else (0, [], 2))) := by
      intro c h1 h4 hc
      have := upTo (G := fun v m => G_ref01_Get_0 ((x :: r).map yD) c (iD m) v) (n := c) (fun k g => 1 ≤ k → g (num (x.toNat % 64) (r.take (k - 1)) : Nat) =
        some (getD3 (if vsize (num (x.toNat % 64) (r.take (c - 1))) = c then (num (x.toNat % 64) (r.take (c - 1)), r.drop (c - 1), 0) else (0, [], 2)))) ?_ (fun k hk ih h1k => ?_) 1 h1 (Nat.le_refl _)
      · exact this
      · intro _
        simp only
        rw [G_ref01_Get_0_eq]
        simp only [Option.bind_some, Option.bind_none, Option.map_some, Option.map_none, cond_true, cond_false, binD_eql, binD_neq, binD_lss, binD_leq, binD_gtr, binD_geq, binD_add, binD_sub, binD_mul, asBool_bool, asInt_int, notD_bool, ext_0, ext_1, ext_2, loadRo_one, ofN_eq, elems_sl, Bool.and_true, Bool.true_and, end_len, List.length_map, S_ref01_Size]
        by_cases hv : vsize (num (x.toNat % 64) (r.take (c - 1))) = (c : Int)
        · rw [if_pos hv, show decide (vsize (num (x.toNat % 64) (r.take (c - 1))) ≠ (c : Int)) = false by simp [hv]]
          simp only [cond_false, cut_y hc (Nat.le_refl _), List.take_length, Option.bind_some]
          obtain ⟨c', rfl⟩ : ∃ c', c = c' + 1 := ⟨c - 1, by omega⟩
          rfl
        · rw [if_neg hv, show decide (vsize (num (x.toNat % 64) (r.take (c - 1))) ≠ (c : Int)) = true by simp [hv]]
          rfl
      · simp only at ih ⊢
        have hk' : k < (x :: r).length := by omega
        obtain ⟨k', rfl⟩ : ∃ k', k = k' + 1 := ⟨k - 1, by omega⟩
        have hk2 : k' < r.length := by simpa using hk'
        have hlt := num_lt (r.take k') (x.toNat % 64)
        have hp : 256 ^ (r.take k').length ≤ 256 ^ 4 := Nat.pow_le_pow_right (by omega) (by simp; omega)
        have hlt2 : num (x.toNat % 64) (r.take k') < 64 * 4294967296 := Nat.lt_of_lt_of_le hlt (Nat.mul_le_mul (by omega) (by omega))
        have hy : (r[k']).toNat < 256 := (r[k']).toNat_lt
        have ih := ih (by omega)
        simp only [Nat.add_sub_cancel] at ih ⊢
        rw [List.take_succ_eq_append_getElem hk2, num_append] at ih
        rw [G_ref01_Get_0_eq, elemPtr_y hk']
        simp only [Option.bind_some, Option.bind_none, Option.map_some, Option.map_none, cond_true, cond_false, binD_eql, binD_neq, binD_lss, binD_leq, binD_gtr, binD_geq, binD_add, binD_sub, binD_mul, asBool_bool, asInt_int, notD_bool, ext_0, ext_1, ext_2, loadRo_one, ofN_eq, elems_sl, Bool.and_true, Bool.true_and, in_len hk, wrap_next hk (show c ≤ 9223372036854775807 by omega), conv_y, List.getElem_cons_succ]
        rw [wrap64_id (z := ((num (x.toNat % 64) (r.take k') : Nat) : Int) * 256) (by omega) (by omega), wrap64_id (by omega) (by omega)]
        exact ih
    unfold vget width
    by_cases c1 : x.toNat < 64
    · rw [show decide ((x.toNat : Int) < 64) = true by simp; omega]
      simp only [c1, cond_true, if_true]
      rw [show decide ((((x :: r).length : Nat) : Int) < 1) = false by simp; omega, if_neg (by simp), if_neg (by simp)]
      exact fin 1 (by omega) (by omega) (by simp)
    · rw [show decide ((x.toNat : Int) < 64) = false by simp; omega]
      simp only [c1, cond_false, if_false]
      by_cases c2 : x.toNat < 128
      · rw [show decide ((x.toNat : Int) < 128) = true by simp; omega]
        simp only [c2, cond_true, if_true]
        rw [if_neg (by simp)]
        by_cases hl : (x :: r).length < 2
        · rw [if_pos hl, show decide ((((x :: r).length : Nat) : Int) < 2) = true by simp at hl ⊢; omega]
          rfl
        · rw [if_neg hl, show decide ((((x :: r).length : Nat) : Int) < 2) = false by simp at hl ⊢; omega]
          exact fin 2 (by omega) (by omega) (by omega)
      · rw [show decide ((x.toNat : Int) < 128) = false by simp; omega]
        simp only [c2, cond_false, if_false]
        by_cases c3 : x.toNat < 192
        · rw [show decide ((x.toNat : Int) ≥ 192) = false by simp; omega]
          simp only [c3, cond_false, if_true]
          rw [if_neg (by simp)]
          by_cases hl : (x :: r).length < 4
          · rw [if_pos hl, show decide ((((x :: r).length : Nat) : Int) < 4) = true by simp at hl ⊢; omega]
            rfl
          · rw [if_neg hl, show decide ((((x :: r).length : Nat) : Int) < 4) = false by simp at hl ⊢; omega]
            exact fin 4 (by omega) (by omega) (by omega)
        · rw [show decide ((x.toNat : Int) ≥ 192) = true by simp; omega]
          simp [c3]
abbrev bytesD3 (x : Bytes × Bytes × Int) : D := .tup [ysD x.1, ysD x.2.1, iD x.2.2]
abbrev numsD3 (x : List Int × Bytes × Int) : D := .tup [isD x.1, ysD x.2.1, iD x.2.2]
theorem vget_len {b : Bytes} : (vget b).2.1.length ≤ b.length := by
  cases b with
  | nil => simp [vget]
  | cons x r =>
    simp only [vget]
    repeat' split
    all_goals simp
    omega
theorem S_ref02_GetBytes {b : Bytes} (hb : b.length ≤ 9223372036854775807) : F_ref02_GetBytes [ysD b] = some (bytesD3 (getBytes b)) := by
  rw [F_ref02_GetBytes_eq, vget_D hb]
  simp only [Option.bind_some, Option.bind_none, Option.map_some, Option.map_none, cond_true, cond_false, binD_eql, binD_neq, binD_lss, binD_leq, binD_gtr, binD_geq, binD_add, binD_sub, binD_mul, asBool_bool, asInt_int, notD_bool, ext_0, ext_1, ext_2, loadRo_one, ofN_eq, elems_sl, Bool.and_true, Bool.true_and]
  unfold getBytes
  by_cases h1 : (vget b).2.2 = 0
  · rw [if_neg (by simpa using h1), show decide ((vget b).2.2 ≠ 0) = false by simp [h1]]
    simp only [cond_false]
    by_cases h2 : (vget b).1 > 1048576
    · rw [if_pos h2, show decide (((vget b).1 : Int) > 1048576) = true by simp; omega]
      rfl
    · rw [if_neg h2, show decide (((vget b).1 : Int) > 1048576) = false by simp; omega]
      simp only [cond_false, List.length_map]
      by_cases h3 : (vget b).1 > (vget b).2.1.length
      · rw [if_pos h3, show decide (((vget b).2.1.length : Int) < ((vget b).1 : Int)) = true by simp; omega]
        rfl
      · rw [if_neg h3, show decide (((vget b).2.1.length : Int) < ((vget b).1 : Int)) = false by simp; omega]
        have c0 := cut_y (l := (vget b).2.1) (lo := 0) (hi := (vget b).1) (by omega) (by omega)
        have c1 := cut_y (l := (vget b).2.1) (lo := (vget b).1) (hi := (vget b).2.1.length) (by omega) (by omega)
        simp only [cond_false, c1, show (0 : Int) = ((0 : Nat) : Int) from rfl, c0, Option.bind_some]
        simp
  · rw [if_pos h1, show decide ((vget b).2.2 ≠ 0) = true by simp [h1]]
    rfl
end Go.Proofs.Ytcnedmkfcbcjkaa.Ra
