/- WHAT THE PROGRAM's WRITERS OF OCTETS COMPUTE (varint, wire). -/
import Derived.Test.YtcnedmkfcbcjkaaSp4
import Derived.Test.YtcnedmkfcbcjkaaRge
set_option linter.unusedVariables false
set_option linter.unusedSimpArgs false
namespace Go.Proofs.Ytcnedmkfcbcjkaa.Ra
open Go Go.RowKit Go.Proofs.Ytcnedmkfcbcjkaa.Pl
set_option linter.unusedSimpArgs false
set_option linter.unusedVariables false
theorem bytes_one (l : Bytes) : (l.map yD).all D.one = true := by simp [List.all_eq_true, D.one]
theorem S_clone_byte {b : Bytes} (hb : b.length ≤ 4194304) : F_slices_Clone_byte [ysD b] = some (b.map yD) := by
  simp only [F_slices_Clone_byte, F_clone, bytes_one, List.length_map, decide_eq_true hb, Bool.and_self, cond_true]
theorem S_clone_int {l : List Int} (hb : l.length ≤ 4194304) : F_slices_Clone_int [isD l] = some (l.map iD) := by
  simp only [F_slices_Clone_int, F_clone, ints_one, List.length_map, decide_eq_true hb, Bool.and_self, cond_true]
theorem wrap_add (c m : Nat) : D.int .u8 (IntKind.u8.wrap ((c : Int) + IntKind.u8.wrap (m : Int))) = yD (byte (c + m)) := by
  rw [byte_D]
  congr 1
  have h1 := wrap8 (m : Int)
  rw [h1]
  have : (((c : Int) + (m : Int) % 256) % 256).toNat = (c + m) % 256 := by omega
  rw [this]
  exact UInt8.toNat_inj.1 (by rw [byte_toNat, byte_toNat]; omega)
theorem fdiv24 (n : Nat) : (n : Int).fdiv (2 ^ min (Int.toNat 24) IntKind.i64.bits) = ((n / 16777216 : Nat) : Int) := by
  rw [show (2 : Int) ^ min (Int.toNat 24) IntKind.i64.bits = 16777216 by decide, Int.fdiv_eq_ediv_of_nonneg _ (by decide)]; omega
theorem fdiv16 (n : Nat) : (n : Int).fdiv (2 ^ min (Int.toNat 16) IntKind.i64.bits) = ((n / 65536 : Nat) : Int) := by
  rw [show (2 : Int) ^ min (Int.toNat 16) IntKind.i64.bits = 65536 by decide, Int.fdiv_eq_ediv_of_nonneg _ (by decide)]; omega
theorem fdiv8 (n : Nat) : (n : Int).fdiv (2 ^ min (Int.toNat 8) IntKind.i64.bits) = ((n / 256 : Nat) : Int) := by
  rw [show (2 : Int) ^ min (Int.toNat 8) IntKind.i64.bits = 256 by decide, Int.fdiv_eq_ediv_of_nonneg _ (by decide)]; omega
set_option maxRecDepth 100000 in
theorem S_varint_Put {b : Bytes} {n : Nat} (hb : b.length ≤ 4194304) (hn : n ≤ 1073741823) : F_varint_Put [ysD b, iD n] = some ((b ++ vput n).map yD) := by
  rw [F_varint_Put_eq]
  simp only [S_clone_byte hb, S_varint_Size, Option.bind_some]
  rw [fdiv24, fdiv16, fdiv8]
  have a128 := wrap_add 128 (n / 16777216)
  have a64 := wrap_add 64 (n / 256)
  have a0 := wrap_add 0 (n / 256)
  simp only [show ((128 : Nat) : Int) = 128 from rfl, show ((64 : Nat) : Int) = 64 from rfl, show ((0 : Nat) : Int) = 0 from rfl, Nat.zero_add] at a128 a64 a0
  rw [a128, a64, a0]
  simp only [byte_nat]
  unfold vsize vput
  rw [if_neg (show ¬ n > 1073741823 by omega), if_neg (show ¬ ((n : Int) < 0 ∨ (n : Int) > 1073741823) by omega)]
  by_cases h1 : n < 64
  · simp [h1, show (n : Int) < 64 by omega, D.cells, show b.length ≤ 140737488355327 by omega, binD_eql, asBool_bool]
  · rw [if_neg (show ¬ (n : Int) < 64 by omega), if_neg h1]
    by_cases h2 : n < 16384
    · simp [h2, show (n : Int) < 16384 by omega, D.cells, binD_eql, asBool_bool, show b.length ≤ 140737488355327 by omega, show b.length ≤ 140737488355326 by omega]
    · simp [h2, show ¬ (n : Int) < 16384 by omega, D.cells, binD_eql, asBool_bool, show b.length ≤ 140737488355326 by omega, show b.length ≤ 140737488355325 by omega, show b.length ≤ 140737488355324 by omega]
theorem binD_shr_i (a : Int) {s : Nat} (h : s ≤ 63) : binD .shr (iD a) (iD (s : Int)) = some (iD (a / 2 ^ s)) := by
  simp only [binD, isShift, cond_true, shifted]
  rw [if_neg (by omega), show min (Int.toNat (s : Int)) IntKind.i64.bits = s by simp [IntKind.bits]; omega, Int.fdiv_eq_ediv_of_nonneg _ (by exact Int.le_of_lt (Int.pow_pos (by decide)))]
theorem S_wire_PutNum_step {n : Int} {i : Nat} (hi : i < 4) {v : Bytes} (hv : v.length ≤ 1099511627776) :
    G_wire_PutNum_0 n 4 (i : Int) (v.map yD) = G_wire_PutNum_0 n 4 ((i + 1 : Nat) : Int) ((v ++ [byteI (n / 2 ^ (8 * (3 - i)))]).map yD) := by
  rw [G_wire_PutNum_0_eq]
  have w1 : IntKind.i64.wrap (8 * IntKind.i64.wrap (IntKind.i64.wrap (4 - 1) - (i : Int))) = ((8 * (3 - i) : Nat) : Int) := by
    rw [show IntKind.i64.wrap (4 - 1) = 3 by decide, wrap64_id (z := 3 - (i : Int)) (by omega) (by omega), wrap64_id (by omega) (by omega)]; omega
  have w2 : IntKind.i64.wrap ((i : Int) + 1) = ((i + 1 : Nat) : Int) := by rw [wrap64_id (by omega) (by omega)]; rfl
  simp only [Option.bind_some, Option.bind_none, Option.map_some, Option.map_none, cond_true, cond_false, binD_eql, binD_neq, binD_lss, binD_leq, binD_gtr, binD_geq, binD_add, binD_sub, binD_mul, asBool_bool, asInt_int, notD_bool, ext_0, ext_1, ext_2, loadRo_one, ofN_eq, elems_sl, Bool.and_true, Bool.true_and, show decide ((i : Int) < 4) = true by simp; omega, w1, w2, binD_shr_i n (show 8 * (3 - i) ≤ 63 by omega), conv_u8, all1_yD, List.length_map]
  rw [show decide ((v.length + [yD (byteI (n / 2 ^ (8 * (3 - i))))].length) * 1 ≤ 140737488355328) = true by simp; omega]
  simp
theorem S_wire_PutNum_end {n : Int} {v : List D} : G_wire_PutNum_0 n 4 4 v = some v := by
  rw [G_wire_PutNum_0_eq]; rfl
theorem S_wire_PutNum {b : Bytes} {n : Int} (hb : b.length ≤ 4194304) : F_wire_PutNum [ysD b, iD n, iD 4] = some ((b ++ be4 n).map yD) := by
  rw [F_wire_PutNum_eq]
  simp only [S_clone_byte hb, Option.bind_some, Option.bind_none, Option.map_some, Option.map_none, cond_true, cond_false, binD_eql, binD_neq, binD_lss, binD_leq, binD_gtr, binD_geq, binD_add, binD_sub, binD_mul, asBool_bool, asInt_int, notD_bool, ext_0, ext_1, ext_2, loadRo_one, ofN_eq, elems_sl, Bool.and_true, Bool.true_and]
  rw [show (if 1 < if 4 < (4 : Int) then (4 : Int) else 4 then if 4 < (4 : Int) then (4 : Int) else 4 else 1) = 4 by decide]
  rw [show (0 : Int) = ((0 : Nat) : Int) from rfl, S_wire_PutNum_step (i := 0) (by omega) (by omega)]
  rw [S_wire_PutNum_step (i := 1) (by omega) (by simp; omega), S_wire_PutNum_step (i := 2) (by omega) (by simp; omega), S_wire_PutNum_step (i := 3) (by omega) (by simp; omega)]
  rw [show ((3 + 1 : Nat) : Int) = 4 from rfl, S_wire_PutNum_end, be4_eq]
  simp
theorem S_wire_PutBytes {b v : Bytes} (hb : b.length ≤ 4194304) (hv : v.length ≤ 1073741824) : F_wire_PutBytes [ysD b, ysD v] = some ((b ++ putBytes v).map yD) := by
  rw [F_wire_PutBytes_eq]
  unfold putBytes
  simp only [all1_y, S_clone_byte hb, Option.bind_some, Option.bind_none, Option.map_some, Option.map_none, cond_true, cond_false, binD_eql, binD_neq, binD_lss, binD_leq, binD_gtr, binD_geq, binD_add, binD_sub, binD_mul, asBool_bool, asInt_int, notD_bool, ext_0, ext_1, ext_2, loadRo_one, ofN_eq, elems_sl, Bool.and_true, Bool.true_and, List.length_map]
  by_cases h : v.length > 1048576
  · rw [if_pos h, show decide ((v.length : Int) > 1048576) = true by simp; omega]
    simp
  · rw [if_neg h, show decide ((v.length : Int) > 1048576) = false by simp; omega]
    have hl : (vput v.length).length ≤ 4 := by rw [vput_len (by omega)]; repeat' split
                                               all_goals omega
    simp only [cond_false, S_varint_Put hb (show v.length ≤ 1073741823 by omega), Option.bind_some, List.length_map, List.length_append,
      show decide ((b.length + (vput v.length).length + v.length) * 1 ≤ 140737488355328) = true by simp; omega, cond_true]
    simp
theorem S_wire_PutNums {b : Bytes} {l : List Int} (hb : b.length ≤ 4194304) (hl : l.length ≤ 1000) : F_wire_PutNums [ysD b, isD l] = some ((b ++ putNums l).map yD) := by
  rw [F_wire_PutNums_eq]
  have := upTo (G := fun v xs => G_wire_PutNums_0 (b.map yD) (l.map iD) (l.length : Int) v xs) (n := l.length) (fun k g => g (((l.take k).flatMap be4).map yD) = some ((b ++ putNums l).map yD)) ?_ (fun k hk ih => ?_) 0 (by omega)
  · simpa using this
  · simp only
    rw [G_wire_PutNums_0_eq]
    have hf := flat_len l
    simp only [Option.bind_some, Option.bind_none, Option.map_some, Option.map_none, cond_true, cond_false, binD_eql, binD_neq, binD_lss, binD_leq, binD_gtr, binD_geq, binD_add, binD_sub, binD_mul, asBool_bool, asInt_int, notD_bool, ext_0, ext_1, ext_2, loadRo_one, ofN_eq, elems_sl, Bool.and_true, Bool.true_and, List.take_length, show decide ((l.length : Int) < (l.length : Int)) = false by simp, S_wire_PutBytes hb (show (l.flatMap be4).length ≤ 1073741824 by omega)]
    rfl
  · simp only at ih ⊢
    have hf := flat_len (l.take k)
    rw [List.take_succ_eq_append_getElem hk, List.flatMap_append] at ih
    rw [G_wire_PutNums_0_eq, elemPtr_i hk]
    simp only [Option.bind_some, Option.bind_none, Option.map_some, Option.map_none, cond_true, cond_false, binD_eql, binD_neq, binD_lss, binD_leq, binD_gtr, binD_geq, binD_add, binD_sub, binD_mul, asBool_bool, asInt_int, notD_bool, ext_0, ext_1, ext_2, loadRo_one, ofN_eq, elems_sl, Bool.and_true, Bool.true_and, show decide ((k : Int) < (l.length : Int)) = true by simp; omega, wrap_next hk (show l.length ≤ 9223372036854775807 by omega), S_wire_PutNum (b := (l.take k).flatMap be4) (n := l[k]) (by rw [hf, List.length_take]; omega)]
    simpa using ih
end Go.Proofs.Ytcnedmkfcbcjkaa.Ra
