/- WHAT THE DOCUMENT's FUNCTIONS ON INNER NODES COMPUTE; the program's own on octets and lists. -/
import Derived.Test.YtcnedmkfcbcjkaaSp3
set_option linter.unusedVariables false
set_option linter.unusedSimpArgs false
namespace Go.Proofs.Ytcnedmkfcbcjkaa.Ra
open Go Go.RowKit Go.Proofs.Ytcnedmkfcbcjkaa.Pl
set_option linter.unusedSimpArgs false
set_option linter.unusedVariables false
theorem getBytes_len {b : Bytes} : (getBytes b).1.length ≤ 1048576 ∧ (getBytes b).2.1.length ≤ b.length ∧ (getBytes b).1.length ≤ b.length := by
  have := vget_len (b := b)
  unfold getBytes
  repeat' split
  all_goals simp
  omega
theorem getNums_len {b : Bytes} : (getNums b).1.length ≤ 262144 ∧ (getNums b).2.1.length ≤ b.length := by
  have h := getBytes_len (b := b)
  have hc : ∀ (v : Bytes), (chunks v).length ≤ v.length / 4 := by
    have : ∀ (n : Nat) (v : Bytes), v.length ≤ n → (chunks v).length ≤ v.length / 4 := by
      intro n
      induction n with
      | zero => intro v hv; match v, hv with | [], _ => simp [chunks]
      | succ n ih =>
        intro v hv
        match v, hv with
        | w :: x :: y :: z :: t, hv =>
          have := ih t (by simp at hv; omega)
          simp only [chunks, List.length_cons]
          omega
        | [], _ => simp [chunks]
        | [_], _ => simp [chunks]
        | [_, _], _ => simp [chunks]
        | [_, _, _], _ => simp [chunks]
    exact fun v => this v.length v (Nat.le_refl _)
  have := hc (getBytes b).1
  unfold getNums
  repeat' split
  all_goals simp
  omega
abbrev innerD3 (x : Inner × Bytes × Int) : D := .tup [innerD x.1, ysD x.2.1, iD x.2.2]
theorem S_ref08_Get {b : Bytes} (hb : b.length ≤ 1099511627776) : F_ref08_Get [ysD b] = some (innerD3 (Inner.get b)) := by
  rw [F_ref08_Get_eq, S_ref02_GetBytes (by omega)]
  have l1 := getBytes_len (b := b)
  have l2 := getBytes_len (b := (getBytes b).2.1)
  have l3 := getNums_len (b := (getBytes (getBytes b).2.1).2.1)
  simp only [Option.bind_some, Option.bind_none, Option.map_some, Option.map_none, cond_true, cond_false, binD_eql, binD_neq, binD_lss, binD_leq, binD_gtr, binD_geq, binD_add, binD_sub, binD_mul, asBool_bool, asInt_int, notD_bool, ext_0, ext_1, ext_2, loadRo_one, ofN_eq, elems_sl, Bool.and_true, Bool.true_and, S_ref02_GetBytes (b := (getBytes b).2.1) (by omega), S_ref02_GetNums (b := (getBytes (getBytes b).2.1).2.1) (by omega)]
  unfold Inner.get
  by_cases h1 : (getBytes b).2.2 = 0
  · rw [if_neg (by simpa using h1), show decide ((getBytes b).2.2 ≠ 0) = false by simp [h1]]
    simp only [cond_false]
    by_cases h2 : (getBytes (getBytes b).2.1).2.2 = 0
    · rw [if_neg (by simpa using h2), show decide ((getBytes (getBytes b).2.1).2.2 ≠ 0) = false by simp [h2]]
      simp only [cond_false]
      by_cases h3 : (getNums (getBytes (getBytes b).2.1).2.1).2.2 = 0
      · rw [if_neg (by simpa using h3), show decide ((getNums (getBytes (getBytes b).2.1).2.1).2.2 ≠ 0) = false by simp [h3]]
        have hc := S_ref08_Check (n := ⟨(getBytes b).1, (getBytes (getBytes b).2.1).1, (getNums (getBytes (getBytes b).2.1).2.1).1⟩) (show (getNums (getBytes (getBytes b).2.1).2.1).1.length ≤ 9223372036854775807 by omega)
        simp only [innerD, innerC] at hc
        simp only [cond_false, hc, Option.bind_some, binD_neq, asBool_bool]
        by_cases h4 : Inner.check ⟨(getBytes b).1, (getBytes (getBytes b).2.1).1, (getNums (getBytes (getBytes b).2.1).2.1).1⟩ = 0
        · rw [if_neg (by simpa using h4), show decide (Inner.check ⟨(getBytes b).1, (getBytes (getBytes b).2.1).1, (getNums (getBytes (getBytes b).2.1).2.1).1⟩ ≠ 0) = false by simp [h4]]
          simp [explicit]
        · rw [if_pos h4, show decide (Inner.check ⟨(getBytes b).1, (getBytes (getBytes b).2.1).1, (getNums (getBytes (getBytes b).2.1).2.1).1⟩ ≠ 0) = true by simp [h4]]
          simp [inner0]
      · rw [if_pos h3, show decide ((getNums (getBytes (getBytes b).2.1).2.1).2.2 ≠ 0) = true by simp [h3]]
        rfl
    · rw [if_pos h2, show decide ((getBytes (getBytes b).2.1).2.2 ≠ 0) = true by simp [h2]]
      rfl
  · rw [if_pos h1, show decide ((getBytes b).2.2 ≠ 0) = true by simp [h1]]
    rfl
theorem S_ref08_Put {b : Bytes} {n : Inner} (hb : b.length ≤ 1048576) (hu : n.un.length ≤ 9223372036854775807) : F_ref08_Put [ysD b, innerD n] = some (ysD (b ++ n.put)) := by
  rw [F_ref08_Put_eq]
  simp only [all1_y, Option.bind_some, Option.bind_none, Option.map_some, Option.map_none, cond_true, cond_false, binD_eql, binD_neq, binD_lss, binD_leq, binD_gtr, binD_geq, binD_add, binD_sub, binD_mul, asBool_bool, asInt_int, notD_bool, ext_0, ext_1, ext_2, loadRo_one, ofN_eq, elems_sl, Bool.and_true, Bool.true_and, S_ref08_Check hu, List.length_map, Nat.zero_add, List.nil_append, show decide (b.length * 1 ≤ 140737488355328) = true by simp; omega]
  unfold Inner.put
  by_cases h : n.check = 0
  · obtain ⟨h1, h2, h3, h4, h5, h6⟩ := Inner.ok h
    have p1 := putBytes_len (v := n.enc)
    have p2 := putBytes_len (v := n.hash)
    rw [if_pos h, show decide (n.check ≠ 0) = false by simp [h]]
    simp only [cond_false, S_ref02_PutBytes (b := b) (v := n.enc) (by omega) (by omega), Option.bind_some,
      S_ref02_PutBytes (b := b ++ putBytes n.enc) (v := n.hash) (by simp; omega) (by omega), S_ref02_PutNums (b := b ++ putBytes n.enc ++ putBytes n.hash) (l := n.un) (by simp; omega) (by omega)]
    simp
  · rw [if_neg h, show decide (n.check ≠ 0) = true by simp [h]]
    simp
/-! ### The program's own. -/
theorem S_varint_Size (n : Int) : F_varint_Size [iD n] = some (iD (vsize n)) := by
  rw [F_varint_Size_eq]
  unfold vsize
  by_cases h1 : n < 0
  · simp [h1]
  by_cases h2 : n > 1073741823
  · simp [h1, h2]
  by_cases h3 : n < 64
  · simp [h1, h2, h3]
  by_cases h4 : n < 16384
  · simp [h1, h2, h3, h4]
  · simp [h1, h2, h3, h4]
theorem or_bytes {m x : Nat} (hm : m < 36028797018963968) (hx : x < 256) : binD .or (iD ((m * 256 : Nat) : Int)) (iD (x : Int)) = some (iD ((m * 256 + x : Nat) : Int)) := by
  have h : (BitVec.ofInt 64 ((m * 256 : Nat) : Int) ||| BitVec.ofInt 64 (x : Int)).toNat = m * 256 + x := by
    rw [BitVec.toNat_or, BitVec.toNat_ofInt, BitVec.toNat_ofInt]
    have e1 : (((m * 256 : Nat) : Int) % ((2 ^ 64 : Nat) : Int)).toNat = m * 256 := by omega
    have e2 : ((x : Int) % ((2 ^ 64 : Nat) : Int)).toNat = x := by omega
    rw [e1, e2]
    have := Nat.shiftLeft_add_eq_or_of_lt (b := x) (i := 8) hx m
    rw [Nat.shiftLeft_eq, show 2 ^ 8 = 256 from rfl] at this
    exact this.symm
  simp only [binD, isShift, cond_false, if_pos, arith]
  rw [show IntKind.i64.bits = 64 from rfl, h, wrap64_id (by omega) (by omega)]
theorem shl_8 {m : Nat} (hm : m < 36028797018963968) : binD .shl (iD (m : Int)) (.int .u64 8) = some (iD ((m * 256 : Nat) : Int)) := by
  simp only [binD, isShift, cond_true, shifted]
  rw [if_neg (by omega), show (2 : Int) ^ min (Int.toNat 8) IntKind.i64.bits = 256 by decide, wrap64_id (by omega) (by omega)]
  rfl
theorem S_wire_count {c : Nat} (h1 : 1 ≤ c) (h4 : c ≤ 4) : F_wire_count [iD c] = some (iD c) := by
  rw [F_wire_count_eq]
  rw [if_neg (show ¬ 4 < (c : Int) by omega)]
  by_cases h : 1 < (c : Int)
  · rw [if_pos h]
  · rw [if_neg h]
    have : c = 1 := by omega
    subst this
    rfl
theorem S_wire_GetNum {b : Bytes} {c : Nat} (h1 : 1 ≤ c) (h4 : c ≤ 4) (hb : b.length ≤ 9223372036854775807) : F_wire_GetNum [ysD b, iD c] = some (getD3 (getNum c b)) := by
  rw [F_wire_GetNum_eq]
  simp only [S_wire_count h1 h4, Option.bind_some, Option.bind_none, Option.map_some, Option.map_none, cond_true, cond_false, binD_eql, binD_neq, binD_lss, binD_leq, binD_gtr, binD_geq, binD_add, binD_sub, binD_mul, asBool_bool, asInt_int, notD_bool, ext_0, ext_1, ext_2, loadRo_one, ofN_eq, elems_sl, Bool.and_true, Bool.true_and, List.length_map]
  unfold getNum
  by_cases h : b.length < c
  · rw [if_pos h, show decide ((b.length : Int) < (c : Int)) = true by simp [h]]
    rfl
  · rw [if_neg h, show decide ((b.length : Int) < (c : Int)) = false by simp; omega]
    simp only [cond_false]
    have := upTo (G := fun v m => G_wire_GetNum_0 (b.map yD) (iD c) (iD m) v) (n := c) (fun k g => g (num 0 (b.take k) : Nat) = some (getD3 (num 0 (b.take c), b.drop c, 0))) ?_ (fun k hk ih => ?_) 0 (by omega)
    · exact this
    · simp only
      rw [G_wire_GetNum_0_eq]
      simp only [Option.bind_some, Option.bind_none, Option.map_some, Option.map_none, cond_true, cond_false, binD_eql, binD_neq, binD_lss, binD_leq, binD_gtr, binD_geq, binD_add, binD_sub, binD_mul, asBool_bool, asInt_int, notD_bool, ext_0, ext_1, ext_2, loadRo_one, ofN_eq, elems_sl, Bool.and_true, Bool.true_and, end_len, List.length_map, cut_y (show c ≤ b.length by omega) (Nat.le_refl _)]
      simp
    · simp only at ih ⊢
      have hk' : k < b.length := by omega
      have hlt := num_lt4 (l := b.take k) (by simp; omega)
      have hx : (b[k]).toNat < 256 := (b[k]).toNat_lt
      rw [List.take_succ_eq_append_getElem hk', num_append] at ih
      rw [G_wire_GetNum_0_eq, elemPtr_y hk']
      simp only [Option.bind_some, Option.bind_none, Option.map_some, Option.map_none, cond_true, cond_false, binD_eql, binD_neq, binD_lss, binD_leq, binD_gtr, binD_geq, binD_add, binD_sub, binD_mul, asBool_bool, asInt_int, notD_bool, ext_0, ext_1, ext_2, loadRo_one, ofN_eq, elems_sl, Bool.and_true, Bool.true_and, in_len hk, wrap_next hk (show c ≤ 9223372036854775807 by omega), conv_y, shl_8 (show num 0 (b.take k) < 36028797018963968 by omega), or_bytes (show num 0 (b.take k) < 36028797018963968 by omega) hx]
      exact ih
theorem S_varint_Get {b : Bytes} (hb : b.length ≤ 9223372036854775807) : F_varint_Get [ysD b] = some (getD3 (vget b)) := by
  rw [F_varint_Get_eq]
  cases b with
  | nil => rfl
  | cons x r =>
    have hx : x.toNat < 256 := x.toNat_lt
    have e0 : (ofN ((x :: r).map yD).length == 0) = false := by simp [ofN]; omega
    have d64 : (x.toNat : Int).tdiv 64 = ((x.toNat / 64 : Nat) : Int) := rfl
    have m64 : (x.toNat : Int).tmod 64 = ((x.toNat % 64 : Nat) : Int) := rfl
    have w8 : IntKind.u8.wrap ((x.toNat / 64 : Nat) : Int) = ((x.toNat / 64 : Nat) : Int) := by rw [wrap8]; omega
    have harr : D.arrAt false 1 4 (D.agg [D.int IntKind.i64 1, D.int IntKind.i64 2, D.int IntKind.i64 4, D.int IntKind.i64 0]) ((x.toNat / 64 : Nat) : Int) = some (iD (width x : Nat)) := by
      have h4 : x.toNat / 64 = 0 ∨ x.toNat / 64 = 1 ∨ x.toNat / 64 = 2 ∨ x.toNat / 64 = 3 := by omega
      unfold width
      rcases h4 with h | h | h | h
      · rw [h, if_pos (by omega)]; rfl
      · rw [h, if_neg (by omega), if_pos (by omega)]; rfl
      · rw [h, if_neg (by omega), if_neg (by omega), if_pos (by omega)]; rfl
      · rw [h, if_neg (by omega), if_neg (by omega), if_neg (by omega)]; rfl
    have w64 : IntKind.i64.wrap ((x.toNat % 64 : Nat) : Int) = ((x.toNat % 64 : Nat) : Int) := wrap64_id (by omega) (by omega)
    rw [e0, elemPtr_y0]
    simp only [Option.bind_some, Option.bind_none, Option.map_some, Option.map_none, cond_true, cond_false, binD_eql, binD_neq, binD_lss, binD_leq, binD_gtr, binD_geq, binD_add, binD_sub, binD_mul, asBool_bool, asInt_int, notD_bool, ext_0, ext_1, ext_2, loadRo_one, ofN_eq, elems_sl, Bool.and_true, Bool.true_and, binD_quo _ _ _ (show (64 : Int) ≠ 0 by decide), binD_rem _ _ _ (show (64 : Int) ≠ 0 by decide), d64, m64, w8, harr, List.length_map, convD, w64]
    have hw4 : width x ≤ 4 := by unfold width; repeat' split
                                 all_goals omega
    simp only [vget]
    by_cases c0 : width x = 0
    · rw [if_pos c0, c0]
      rfl
    · rw [if_neg c0, show decide (((width x : Nat) : Int) = 0) = false by simp; omega]
      simp only [cond_false]
      by_cases hl : (x :: r).length < width x
      · rw [if_pos hl, show decide ((((x :: r).length : Nat) : Int) < ((width x : Nat) : Int)) = true by simp at hl ⊢; omega]
        rfl
      · rw [if_neg hl, show decide ((((x :: r).length : Nat) : Int) < ((width x : Nat) : Int)) = false by simp at hl ⊢; omega]
        obtain ⟨c, hc⟩ : ∃ c, width x = c + 1 := ⟨width x - 1, by omega⟩
        rw [hc] at hl hw4 c0 ⊢
        have hlr : c ≤ r.length := by simp at hl; omega
        have hcut := cut_y (l := x :: r) (lo := 1) (hi := c + 1) (by omega) (by omega)
        simp only [cond_false, show (1 : Int) = ((1 : Nat) : Int) from rfl, hcut, Option.bind_some, elems_sl, Option.map_some, List.length_map, Nat.add_sub_cancel]
        have htk : ((x :: r).take (c + 1)).drop 1 = r.take c := by simp
        rw [htk]
        have hlen : (r.take c).length = c := by simp; omega
        have := upTo (G := fun v m => G_varint_Get_1 ((x :: r).map yD) (iD ((c + 1 : Nat) : Int)) (iD m) (ysD (r.take c)) (ofN (r.take c).length) v) (n := c) (fun k g => g (num (x.toNat % 64) (r.take k) : Nat) =
          some (getD3 (if vsize (num (x.toNat % 64) (r.take c)) = ((c + 1 : Nat) : Int) then (num (x.toNat % 64) (r.take c), r.drop c, 0) else (0, [], 2)))) ?_ (fun k hk ih => ?_) 0 (by omega)
        · exact this
        · simp only
          rw [G_varint_Get_1_eq]
          simp only [Option.bind_some, Option.bind_none, Option.map_some, Option.map_none, cond_true, cond_false, binD_eql, binD_neq, binD_lss, binD_leq, binD_gtr, binD_geq, binD_add, binD_sub, binD_mul, asBool_bool, asInt_int, notD_bool, ext_0, ext_1, ext_2, loadRo_one, ofN_eq, elems_sl, Bool.and_true, Bool.true_and, hlen, end_len, List.length_map, S_varint_Size]
          by_cases hv : vsize (num (x.toNat % 64) (r.take c)) = ((c + 1 : Nat) : Int)
          · rw [if_pos hv, show decide (vsize (num (x.toNat % 64) (r.take c)) ≠ ((c + 1 : Nat) : Int)) = false by simp [hv]]
            have hcut := cut_y (l := x :: r) (lo := c + 1) (hi := (x :: r).length) (by simp at hl ⊢; omega) (by omega)
            simp only [cond_false, hcut, List.take_length, Option.bind_some, List.drop_succ_cons]
          · rw [if_neg hv, show decide (vsize (num (x.toNat % 64) (r.take c)) ≠ ((c + 1 : Nat) : Int)) = true from decide_eq_true hv]
            rfl
        · simp only at ih ⊢
          have hk2 : k < r.length := by omega
          have hk3 : k < (r.take c).length := by omega
          have hlt := num_lt (r.take k) (x.toNat % 64)
          have hp : 256 ^ (r.take k).length ≤ 256 ^ 4 := Nat.pow_le_pow_right (by omega) (by simp; omega)
          have hlt2 : num (x.toNat % 64) (r.take k) < 64 * 4294967296 := Nat.lt_of_lt_of_le hlt (Nat.mul_le_mul (by omega) (by omega))
          have hy : (r[k]).toNat < 256 := (r[k]).toNat_lt
          have hgk : (r.take c)[k] = r[k] := by simp
          have e64 : IntKind.i64.wrap ((r[k].toNat : Nat) : Int) = ((r[k].toNat : Nat) : Int) := wrap64_id (by omega) (by omega)
          rw [List.take_succ_eq_append_getElem hk2, num_append] at ih
          rw [G_varint_Get_1_eq, elemPtr_y hk3]
          simp only [Option.bind_some, Option.bind_none, Option.map_some, Option.map_none, cond_true, cond_false, binD_eql, binD_neq, binD_lss, binD_leq, binD_gtr, binD_geq, binD_add, binD_sub, binD_mul, asBool_bool, asInt_int, notD_bool, ext_0, ext_1, ext_2, loadRo_one, ofN_eq, elems_sl, Bool.and_true, Bool.true_and, hlen, in_len hk, wrap_next hk (show c ≤ 9223372036854775807 by omega), convD, hgk, e64, shl_8 (show num (x.toNat % 64) (r.take k) < 36028797018963968 by omega), or_bytes (show num (x.toNat % 64) (r.take k) < 36028797018963968 by omega) hy]
          rw [hlen] at ih
          exact ih
theorem S_wire_GetBytes {b : Bytes} (hb : b.length ≤ 9223372036854775807) : F_wire_GetBytes [ysD b] = some (bytesD3 (getBytes b)) := by
  rw [F_wire_GetBytes_eq, S_varint_Get hb]
  simp only [Option.bind_some, Option.bind_none, Option.map_some, Option.map_none, cond_true, cond_false, binD_eql, binD_neq, binD_lss, binD_leq, binD_gtr, binD_geq, binD_add, binD_sub, binD_mul, asBool_bool, asInt_int, notD_bool, ext_0, ext_1, ext_2, loadRo_one, ofN_eq, elems_sl, Bool.and_true, Bool.true_and]
  unfold getBytes
  by_cases h1 : (vget b).2.2 = 0
  · rw [if_neg (by simpa using h1), show decide ((vget b).2.2 ≠ 0) = false by simp [h1]]
    simp only [cond_false]
    by_cases h2 : (vget b).1 > 1048576
    · rw [if_pos h2, show decide (((vget b).1 : Int) > 1048576) = true by simp; omega]
      rfl
    · rw [if_neg h2, show decide (((vget b).1 : Int) > 1048576) = false by simp; omega]
      simp only [cond_false, List.length_map]
      by_cases h3 : (vget b).1 > (vget b).2.1.length
      · rw [if_pos h3, show decide (((vget b).1 : Int) > ((vget b).2.1.length : Int)) = true by simp; omega]
        rfl
      · rw [if_neg h3, show decide (((vget b).1 : Int) > ((vget b).2.1.length : Int)) = false by simp; omega]
        have c0 := cut_y (l := (vget b).2.1) (lo := 0) (hi := (vget b).1) (by omega) (by omega)
        have c1 := cut_y (l := (vget b).2.1) (lo := (vget b).1) (hi := (vget b).2.1.length) (by omega) (by omega)
        simp only [cond_false, c1, show (0 : Int) = ((0 : Nat) : Int) from rfl, c0, Option.bind_some, show decide (((vget b).1 : Int) ≤ ((vget b).1 : Int)) = true by simp, show decide (((vget b).1 : Int) ≤ ((vget b).2.1.length : Int)) = true by simp; omega, Bool.and_self, cond_true]
        simp
  · rw [if_pos h1, show decide ((vget b).2.2 ≠ 0) = true by simp [h1]]
    rfl
theorem S_slices_Equal_int {a b : List Int} (hl : a.length ≤ 9223372036854775807) : F_slices_Equal_int [isD a, isD b] = some (.bool (decide (a = b))) := by
  rw [F_slices_Equal_int_eq]
  by_cases h : a.length = b.length
  · have e : (ofN (a.map iD).length != ofN (b.map iD).length) = false := by simp [h]
    rw [e]
    simp only [cond_false]
    have := upTo (G := G_slices_Equal_int_0 (a.map iD) (b.map iD) (ofN (a.map iD).length)) (n := a.length) (fun k r => r = some (.bool (decide (a.drop k = b.drop k)))) ?_ (fun k hk ih => ?_) 0 (by omega)
    · simpa using this
    · rw [G_slices_Equal_int_0_eq]
      simp [h]
    · have hk' : k < b.length := by omega
      rw [G_slices_Equal_int_0_eq, elemPtr_i hk, elemPtr_i hk']
      simp only [Option.bind_some, Option.bind_none, Option.map_some, Option.map_none, cond_true, cond_false, binD_eql, binD_neq, binD_lss, binD_leq, binD_gtr, binD_geq, binD_add, binD_sub, binD_mul, asBool_bool, asInt_int, notD_bool, ext_0, ext_1, ext_2, loadRo_one, ofN_eq, elems_sl, Bool.and_true, Bool.true_and, in_map hk, wrap_next hk hl]
      simp only [ofN_eq] at ih
      rw [ih, List.drop_eq_getElem_cons hk, List.drop_eq_getElem_cons hk']
      simp only [List.cons.injEq]
      by_cases e : a[k] = b[k]
      · simp [e]
      · simp [e]
  · have e : (ofN (a.map iD).length != ofN (b.map iD).length) = true := by
      simp only [bne_iff_ne, ne_eq, List.length_map, ofN_eq]
      omega
    rw [e]
    have : ¬ a = b := fun e => h (by rw [e])
    simp [this]
theorem S_bytes_Equal (a b : Bytes) : F_bytes_Equal [ysD a, ysD b] = some (.bool (decide (a = b))) := by
  rw [F_bytes_Equal_eq]
  simp only [convD_text, binD_str_eql, Option.bind_some, Option.bind_none, Option.map_some, Option.map_none, cond_true, cond_false, binD_eql, binD_neq, binD_lss, binD_leq, binD_gtr, binD_geq, binD_add, binD_sub, binD_mul, asBool_bool, asInt_int, notD_bool, ext_0, ext_1, ext_2, loadRo_one, ofN_eq, elems_sl, Bool.and_true, Bool.true_and, tupOf_one]
theorem S_slices_Index_int {l : List Int} {i : Int} (hl : l.length ≤ 9223372036854775807) : ∃ z : Int, F_slices_Index_int [isD l, iD i] = some (iD z) ∧ (decide (z ≥ 0) = l.contains i) := by
  rw [F_slices_Index_int_eq]
  have := upTo (G := G_slices_Index_int_0 (l.map iD) i (ofN (l.map iD).length)) (n := l.length) (fun k r => ∃ z : Int, r = some (iD z) ∧ (decide (z ≥ 0) = (l.drop k).contains i)) ?_ (fun k hk ih => ?_) 0 (by omega)
  · simpa using this
  · rw [G_slices_Index_int_0_eq]
    exact ⟨-1, by simp, by simp⟩
  · rw [G_slices_Index_int_0_eq, elemPtr_i hk]
    simp only [Option.bind_some, Option.bind_none, Option.map_some, Option.map_none, cond_true, cond_false, binD_eql, binD_neq, binD_lss, binD_leq, binD_gtr, binD_geq, binD_add, binD_sub, binD_mul, asBool_bool, asInt_int, notD_bool, ext_0, ext_1, ext_2, loadRo_one, ofN_eq, elems_sl, Bool.and_true, Bool.true_and, in_map hk, wrap_next hk hl]
    rw [List.drop_eq_getElem_cons hk, List.contains_cons]
    by_cases h : i = l[k]
    · refine ⟨(k : Int), by simp [h], ?_⟩
      simp [h]
    · obtain ⟨z, h1, h2⟩ := ih
      simp only [ofN_eq] at h1
      refine ⟨z, ?_, ?_⟩
      · simp only [h, decide_false, cond_false, List.length_map] at h1 ⊢
        exact h1
      rw [h2, show (i == l[k]) = false by simpa using h]
      rfl
theorem S_slices_Contains_int {l : List Int} {i : Int} (hl : l.length ≤ 9223372036854775807) : F_slices_Contains_int [isD l, iD i] = some (.bool (l.contains i)) := by
  rw [F_slices_Contains_int_eq]
  obtain ⟨z, h1, h2⟩ := S_slices_Index_int (i := i) hl
  rw [h1]
  simp only [Option.bind_some, Option.bind_none, Option.map_some, Option.map_none, cond_true, cond_false, binD_eql, binD_neq, binD_lss, binD_leq, binD_gtr, binD_geq, binD_add, binD_sub, binD_mul, asBool_bool, asInt_int, notD_bool, ext_0, ext_1, ext_2, loadRo_one, ofN_eq, elems_sl, Bool.and_true, Bool.true_and, tupOf_one, h2]
end Go.Proofs.Ytcnedmkfcbcjkaa.Ra
