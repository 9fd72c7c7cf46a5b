/- WHAT THE DOCUMENT's FUNCTIONS ON OCTETS AND NODES COMPUTE, MORE (cordwoodref02, cordwoodref08). -/
import Derived.Test.YtcnedmkfcbcjkaaSp2
set_option linter.unusedVariables false
set_option linter.unusedSimpArgs false
namespace Go.Proofs.Ytcnedmkfcbcjkaa.Ra
open Go Go.RowKit Go.Proofs.Ytcnedmkfcbcjkaa.Pl
set_option linter.unusedSimpArgs false
set_option linter.unusedVariables false
theorem ofCells_one (x : D) : D.ofCells false 1 (List.drop 0 [x]) = some x := rfl
theorem S_ref08_Join {l : List Int} {i : Int} (hl : l.length ≤ 1000) : F_ref08_Join [isD l, iD i] = some (isD (join l i)) := by
  rw [F_ref08_Join_eq]
  simp only [all1_i, all1_iD, Option.bind_some, Option.bind_none, Option.map_some, Option.map_none, cond_true, cond_false, binD_eql, binD_neq, binD_lss, binD_leq, binD_gtr, binD_geq, binD_add, binD_sub, binD_mul, asBool_bool, asInt_int, notD_bool, ext_0, ext_1, ext_2, loadRo_one, ofN_eq, elems_sl, Bool.and_true, Bool.true_and, List.nil_append, Nat.zero_add, List.length_map, show decide (l.length * 8 ≤ 140737488355328) = true by simp; omega, show decide ((l.length + [iD i].length) * 8 ≤ 140737488355328) = true by simp; omega]
  have hall : (l.map iD) ++ [iD i] = (l ++ [i]).map iD := by simp
  rw [hall]
  obtain ⟨all, hA⟩ : ∃ all, all = l ++ [i] := ⟨_, rfl⟩
  have hal : all.length ≤ 1001 := by rw [hA]; simp; omega
  rw [← hA]
  have inner : ∀ (out : List Int), out.length ≤ 1001 → ∀ k, k ≤ all.length → ∀ (m : Int) (b wr : Bool), ∃ wr', G_ref08_Join_2 (iD m) b (k : Int) (all.map iD) wr (out.map iD) =
      match least out (all.drop k) (bif b then some m else none) with
      | none => some (isD out)
      | some z => G_ref08_Join_0 (all.map iD) wr' ((out ++ [z]).map iD) := by
    intro out ho
    refine upTo (G := fun v => fun (m : Int) (b wr : Bool) => G_ref08_Join_2 (iD m) b v (all.map iD) wr (out.map iD)) (n := all.length)
      (fun k g => ∀ (m : Int) (b wr : Bool), ∃ wr', g m b wr = match least out (all.drop k) (bif b then some m else none) with
        | none => some (isD out)
        | some z => G_ref08_Join_0 (all.map iD) wr' ((out ++ [z]).map iD)) ?_ (fun k hk ih m b wr => ?_)
    · intro m b wr
      refine ⟨wr, ?_⟩
      simp only
      rw [G_ref08_Join_2_eq]
      simp only [Option.bind_some, Option.bind_none, Option.map_some, Option.map_none, cond_true, cond_false, binD_eql, binD_neq, binD_lss, binD_leq, binD_gtr, binD_geq, binD_add, binD_sub, binD_mul, asBool_bool, asInt_int, notD_bool, ext_0, ext_1, ext_2, loadRo_one, ofN_eq, elems_sl, Bool.and_true, Bool.true_and, end_map, end_len, List.drop_length, all1_iD, List.length_map, show decide ((out.length + [iD m].length) * 8 ≤ 140737488355328) = true by simp; omega]
      cases b with
      | false => rfl
      | true => simp [least]
    · simp only at ih ⊢
      have hget : (all.map iD)[(k : Int).toNat]? = some (iD all[k]) := by simp [hk]
      have hpos : decide ((0 : Int) ≤ (k : Int)) = true := by simp
      have hcells : (iD all[k]).cells = [iD all[k]] := rfl
      rw [G_ref08_Join_2_eq]
      simp only [Option.bind_some, Option.bind_none, Option.map_some, Option.map_none, cond_true, cond_false, binD_eql, binD_neq, binD_lss, binD_leq, binD_gtr, binD_geq, binD_add, binD_sub, binD_mul, asBool_bool, asInt_int, notD_bool, ext_0, ext_1, ext_2, loadRo_one, ofN_eq, elems_sl, Bool.and_true, Bool.true_and, in_map hk, hpos, hget, hcells, ofCells_one, S_ref08_Has (show out.length ≤ 9223372036854775807 by omega), wrap_next hk (show all.length ≤ 9223372036854775807 by omega)]
      rw [List.drop_eq_getElem_cons hk]
      have hle : ∀ acc, least out (all[k] :: all.drop (k + 1)) acc = least out (all.drop (k + 1)) (least1 out acc all[k]) := fun _ => rfl
      rw [hle]
      cases hc : out.contains all[k] with
      | true =>
        have hmem : all[k] ∈ out := by simpa using hc
        obtain ⟨wr', h⟩ := ih m b false
        refine ⟨wr', ?_⟩
        simp only [Bool.not_true, cond_false, h]
        unfold least1
        rw [if_pos hmem]
      | false =>
        have hmem : all[k] ∉ out := by simpa using hc
        cases b with
        | false =>
          obtain ⟨wr', h⟩ := ih all[k] true false
          refine ⟨wr', ?_⟩
          simp only [Bool.not_false, cond_true, cond_false, h]
          unfold least1
          rw [if_neg hmem]
        | true =>
          by_cases hlt : all[k] < m
          · obtain ⟨wr', h⟩ := ih all[k] true false
            refine ⟨wr', ?_⟩
            simp only [Bool.not_false, Bool.not_true, cond_true, cond_false, h, hlt, decide_true]
            unfold least1
            rw [if_neg hmem]
            simp only [if_pos hlt]
          · obtain ⟨wr', h⟩ := ih m true false
            refine ⟨wr', ?_⟩
            simp only [Bool.not_false, Bool.not_true, cond_true, cond_false, h, hlt, decide_false]
            unfold least1
            rw [if_neg hmem]
            simp only [if_neg hlt]
  have outer : ∀ (d : Nat) (out : List Int) (wr : Bool), all.length - out.length = d → Grown all out → G_ref08_Join_0 (all.map iD) wr (out.map iD) = some (isD (thin all)) := by
    intro d
    induction d with
    | zero =>
      intro out wr hd hg
      rw [G_ref08_Join_0_eq]
      simp only [Option.bind_some, Option.bind_none, Option.map_some, Option.map_none, cond_true, cond_false, binD_eql, binD_neq, binD_lss, binD_leq, binD_gtr, binD_geq, binD_add, binD_sub, binD_mul, asBool_bool, asInt_int, notD_bool, ext_0, ext_1, ext_2, loadRo_one, ofN_eq, elems_sl, Bool.and_true, Bool.true_and, List.length_map, show decide ((out.length : Int) < (all.length : Int)) = false by simp; omega]
      rw [← hg.full (by omega)]
    | succ d ih =>
      intro out wr hd hg
      rw [G_ref08_Join_0_eq]
      simp only [Option.bind_some, Option.bind_none, Option.map_some, Option.map_none, cond_true, cond_false, binD_eql, binD_neq, binD_lss, binD_leq, binD_gtr, binD_geq, binD_add, binD_sub, binD_mul, asBool_bool, asInt_int, notD_bool, ext_0, ext_1, ext_2, loadRo_one, ofN_eq, elems_sl, Bool.and_true, Bool.true_and, List.length_map, show decide ((out.length : Int) < (all.length : Int)) = true by simp; omega]
      obtain ⟨wr', h⟩ := inner out (by omega) 0 (by omega) 0 false wr
      simp only [List.drop_zero, cond_false] at h
      refine Eq.trans h ?_
      cases hm : least out all none with
      | none => simp only; rw [hg.done (least_none hm)]
      | some z => exact ih (out ++ [z]) wr' (by simp; omega) (hg.step hm)
  have := outer all.length [] true (by simp) (Grown.start all)
  rw [hA] at this ⊢
  exact this

/-! ### Numbers as octets. -/
def byteI (n : Int) : UInt8 := byte (n % 256).toNat
theorem binD_shr (a : Int) {s : Nat} (h : s ≤ 63) : binD .shr (iD a) (.int .u64 (s : Int)) = some (iD (a / 2 ^ s)) := by
  simp only [binD, isShift, cond_true, shifted]
  rw [if_neg (by omega), show min (Int.toNat (s : Int)) IntKind.i64.bits = s by simp [IntKind.bits]; omega, Int.fdiv_eq_ediv_of_nonneg _ (by exact Int.le_of_lt (Int.pow_pos (by decide)))]
theorem and_255 (a : Int) : binD .and (iD a) (iD 255) = some (iD (a % 256)) := by
  have h : (BitVec.ofInt 64 a &&& BitVec.ofInt 64 255).toNat = (a % 256).toNat := by
    rw [BitVec.toNat_and, BitVec.toNat_ofInt, BitVec.toNat_ofInt]
    have e : ((255 : Int) % ((2 ^ 64 : Nat) : Int)).toNat = 2 ^ 8 - 1 := by decide
    rw [e, Nat.and_two_pow_sub_one_eq_mod]
    omega
  simp only [binD, isShift, cond_false, if_pos, arith]
  rw [show IntKind.i64.bits = 64 from rfl, h]
  have h1 := Int.emod_nonneg a (show (256 : Int) ≠ 0 by decide)
  have h2 := Int.emod_lt_of_pos a (show (0 : Int) < 256 by decide)
  rw [wrap64_id (by omega) (by omega)]
  congr 2
  omega
theorem conv_u8 (a : Int) : convD (.int .u8) (iD a) = some (yD (byteI a)) := by
  simp only [convD]
  rw [byte_D]
  rfl
theorem byteI_mod (a : Int) : byteI (a % 256) = byteI a := by
  unfold byteI
  rw [Int.emod_emod_of_dvd a (by decide)]
theorem S_ref02_PutNum_step {n : Int} {i : Nat} (hi : i ≤ 3) {v : Bytes} (hv : v.length ≤ 1099511627776) :
    G_ref02_PutNum_0 n (iD i) (v.map yD) = G_ref02_PutNum_0 n (iD ((i : Int) - 1)) ((v ++ [byteI (n / 2 ^ (8 * i))]).map yD) := by
  rw [G_ref02_PutNum_0_eq]
  have w1 : IntKind.i64.wrap (8 * (i : Int)) = ((8 * i : Nat) : Int) := by rw [wrap64_id (by omega) (by omega)]; omega
  have w2 : IntKind.u64.wrap ((8 * i : Nat) : Int) = ((8 * i : Nat) : Int) := by rw [wrapu64]; omega
  simp only [Option.bind_some, Option.bind_none, Option.map_some, Option.map_none, cond_true, cond_false, binD_eql, binD_neq, binD_lss, binD_leq, binD_gtr, binD_geq, binD_add, binD_sub, binD_mul, asBool_bool, asInt_int, notD_bool, ext_0, ext_1, ext_2, loadRo_one, ofN_eq, elems_sl, Bool.and_true, Bool.true_and, show decide ((i : Int) ≥ 0) = true by simp, w1, convD, w2, binD_shr n (show 8 * i ≤ 63 by omega), and_255, all1_yD, List.length_map]
  have hb : D.int .u8 (IntKind.u8.wrap (n / 2 ^ (8 * i) % 256)) = yD (byteI (n / 2 ^ (8 * i))) := by
    rw [byte_D, show byte (n / 2 ^ (8 * i) % 256 % 256).toNat = byteI (n / 2 ^ (8 * i) % 256) from rfl, byteI_mod]
  rw [hb, show decide ((v.length + [yD (byteI (n / 2 ^ (8 * i)))].length) * 1 ≤ 140737488355328) = true by simp; omega, wrap64_id (z := (i : Int) - 1) (by omega) (by omega)]
  simp [D.cells]
theorem S_ref02_PutNum_end {n : Int} {v : List D} : G_ref02_PutNum_0 n (iD (-1)) v = some v := by
  rw [G_ref02_PutNum_0_eq]
  simp [binD_geq, asBool_bool]
theorem count_1 : F_ref02_count [iD 1] = some (iD 1) := S_ref02_count (c := 1) (by omega) (by omega)
theorem count_4 : F_ref02_count [iD 4] = some (iD 4) := S_ref02_count (c := 4) (by omega) (by omega)
theorem S_ref02_PutNum1 {b : Bytes} {n : Int} (hb : b.length ≤ 1099511627775) : F_ref02_PutNum [ysD b, iD n, iD 1] = some ((b ++ [byteI n]).map yD) := by
  rw [F_ref02_PutNum_eq]
  simp only [all1_y, Option.bind_some, Option.bind_none, Option.map_some, Option.map_none, cond_true, cond_false, binD_eql, binD_neq, binD_lss, binD_leq, binD_gtr, binD_geq, binD_add, binD_sub, binD_mul, asBool_bool, asInt_int, notD_bool, ext_0, ext_1, ext_2, loadRo_one, ofN_eq, elems_sl, Bool.and_true, Bool.true_and, count_1, List.length_map, Nat.zero_add, List.nil_append, show decide (b.length * 1 ≤ 140737488355328) = true by simp; omega]
  rw [show IntKind.i64.wrap (1 - 1) = ((0 : Nat) : Int) by decide, S_ref02_PutNum_step (i := 0) (by omega) (by omega)]
  rw [show ((0 : Nat) : Int) - 1 = -1 by decide, S_ref02_PutNum_end]
  simp
theorem be4_eq (n : Int) : be4 n = [byteI (n / 2 ^ (8 * 3)), byteI (n / 2 ^ (8 * 2)), byteI (n / 2 ^ (8 * 1)), byteI (n / 2 ^ (8 * 0))] := by
  have e3 : (2 : Int) ^ (8 * 3) = 16777216 := by decide
  have e2 : (2 : Int) ^ (8 * 2) = 65536 := by decide
  have e1 : (2 : Int) ^ (8 * 1) = 256 := by decide
  have e0 : (2 : Int) ^ (8 * 0) = 1 := by decide
  rw [e3, e2, e1, e0, Int.ediv_one]
  rfl
theorem S_ref02_PutNum4 {b : Bytes} {n : Int} (hb : b.length ≤ 1099511627000) : F_ref02_PutNum [ysD b, iD n, iD 4] = some ((b ++ be4 n).map yD) := by
  rw [F_ref02_PutNum_eq]
  simp only [all1_y, Option.bind_some, Option.bind_none, Option.map_some, Option.map_none, cond_true, cond_false, binD_eql, binD_neq, binD_lss, binD_leq, binD_gtr, binD_geq, binD_add, binD_sub, binD_mul, asBool_bool, asInt_int, notD_bool, ext_0, ext_1, ext_2, loadRo_one, ofN_eq, elems_sl, Bool.and_true, Bool.true_and, count_4, List.length_map, Nat.zero_add, List.nil_append, show decide (b.length * 1 ≤ 140737488355328) = true by simp; omega]
  rw [show IntKind.i64.wrap (4 - 1) = ((3 : Nat) : Int) by decide, S_ref02_PutNum_step (i := 3) (by omega) (by omega)]
  rw [show ((3 : Nat) : Int) - 1 = ((2 : Nat) : Int) by decide, S_ref02_PutNum_step (i := 2) (by omega) (by simp; omega)]
  rw [show ((2 : Nat) : Int) - 1 = ((1 : Nat) : Int) by decide, S_ref02_PutNum_step (i := 1) (by omega) (by simp; omega)]
  rw [show ((1 : Nat) : Int) - 1 = ((0 : Nat) : Int) by decide, S_ref02_PutNum_step (i := 0) (by omega) (by simp; omega)]
  rw [show ((0 : Nat) : Int) - 1 = -1 by decide, S_ref02_PutNum_end, be4_eq]
  simp
theorem S_ref02_PutBytes {b v : Bytes} (hb : b.length ≤ 1073741824) (hv : v.length ≤ 1073741824) : F_ref02_PutBytes [ysD b, ysD v] = some ((b ++ putBytes v).map yD) := by
  rw [F_ref02_PutBytes_eq]
  unfold putBytes
  simp only [all1_y, Option.bind_some, Option.bind_none, Option.map_some, Option.map_none, cond_true, cond_false, binD_eql, binD_neq, binD_lss, binD_leq, binD_gtr, binD_geq, binD_add, binD_sub, binD_mul, asBool_bool, asInt_int, notD_bool, ext_0, ext_1, ext_2, loadRo_one, ofN_eq, elems_sl, Bool.and_true, Bool.true_and, List.length_map, Nat.zero_add, List.nil_append, show decide (b.length * 1 ≤ 140737488355328) = true by simp; omega]
  by_cases h : v.length > 1048576
  · rw [if_pos h, show decide ((v.length : Int) > 1048576) = true by simp; omega]
    simp
  · rw [if_neg h, show decide ((v.length : Int) > 1048576) = false by simp; omega]
    have hl : (vput v.length).length ≤ 4 := by rw [vput_len (by omega)]; repeat' split
                                               all_goals omega
    simp only [cond_false, S_ref01_Put (show b.length ≤ 1099511627776 by omega) (show v.length ≤ 1073741823 by omega), Option.bind_some, List.length_map, List.length_append,
      show decide ((b.length + (vput v.length).length + v.length) * 1 ≤ 140737488355328) = true by simp; omega, cond_true]
    simp
theorem putBytes_len {v : Bytes} : (putBytes v).length ≤ v.length + 4 := by
  unfold putBytes
  split
  · simp
  · have hl : (vput v.length).length ≤ 4 := by rw [vput_len (by omega)]; repeat' split
                                               all_goals omega
    simp
    omega
theorem S_ref02_PutNums {b : Bytes} {l : List Int} (hb : b.length ≤ 1073741824) (hl : l.length ≤ 1000) : F_ref02_PutNums [ysD b, isD l] = some ((b ++ putNums l).map yD) := by
  rw [F_ref02_PutNums_eq]
  have := upTo (G := fun v xs => G_ref02_PutNums_0 (b.map yD) (l.map iD) v xs) (n := l.length) (fun k g => g (((l.take k).flatMap be4).map yD) = some ((b ++ putNums l).map yD)) ?_ (fun k hk ih => ?_) 0 (by omega)
  · simpa using this
  · simp only
    rw [G_ref02_PutNums_0_eq]
    have hf := flat_len l
    simp only [Option.bind_some, Option.bind_none, Option.map_some, Option.map_none, cond_true, cond_false, binD_eql, binD_neq, binD_lss, binD_leq, binD_gtr, binD_geq, binD_add, binD_sub, binD_mul, asBool_bool, asInt_int, notD_bool, ext_0, ext_1, ext_2, loadRo_one, ofN_eq, elems_sl, Bool.and_true, Bool.true_and, end_map, List.take_length, S_ref02_PutBytes hb (show (l.flatMap be4).length ≤ 1073741824 by omega)]
    rfl
  · simp only at ih ⊢
    have hf := flat_len (l.take k)
    rw [List.take_succ_eq_append_getElem hk, List.flatMap_append] at ih
    rw [G_ref02_PutNums_0_eq, elemPtr_i hk]
    simp only [Option.bind_some, Option.bind_none, Option.map_some, Option.map_none, cond_true, cond_false, binD_eql, binD_neq, binD_lss, binD_leq, binD_gtr, binD_geq, binD_add, binD_sub, binD_mul, asBool_bool, asInt_int, notD_bool, ext_0, ext_1, ext_2, loadRo_one, ofN_eq, elems_sl, Bool.and_true, Bool.true_and, in_map hk, wrap_next hk (show l.length ≤ 9223372036854775807 by omega), S_ref02_PutNum4 (b := (l.take k).flatMap be4) (n := l[k]) (by rw [hf, List.length_take]; omega)]
    simpa using ih
theorem S_ref02_GetNums {b : Bytes} (hb : b.length ≤ 1099511627776) : F_ref02_GetNums [ysD b] = some (numsD3 (getNums b)) := by
  rw [F_ref02_GetNums_eq, S_ref02_GetBytes (by omega)]
  simp only [Option.bind_some, Option.bind_none, Option.map_some, Option.map_none, cond_true, cond_false, binD_eql, binD_neq, binD_lss, binD_leq, binD_gtr, binD_geq, binD_add, binD_sub, binD_mul, asBool_bool, asInt_int, notD_bool, ext_0, ext_1, ext_2, loadRo_one, ofN_eq, elems_sl, Bool.and_true, Bool.true_and]
  have hlen : (getBytes b).1.length ≤ 1048576 := by
    unfold getBytes
    repeat' split
    all_goals simp
    omega
  unfold getNums
  by_cases h1 : (getBytes b).2.2 = 0
  · rw [if_neg (by simpa using h1), show decide ((getBytes b).2.2 ≠ 0) = false by simp [h1]]
    simp only [cond_false, List.length_map]
    have ht : ((getBytes b).1.length : Int).tmod 4 = (((getBytes b).1.length % 4 : Nat) : Int) := rfl
    rw [ht]
    by_cases h2 : (getBytes b).1.length % 4 = 0
    · rw [if_neg (by simpa using h2), show ((((getBytes b).1.length % 4 : Nat) : Int) != 0) = false by rw [h2]; rfl]
      simp only [cond_false]
      obtain ⟨v, hv⟩ : ∃ v, v = (getBytes b).1 := ⟨_, rfl⟩
      rw [← hv] at h2 hlen ⊢
      have key : ∀ (n : Nat) (v : Bytes) (out : List Int), v.length = 4 * n → out.length + n ≤ 1048576 → G_ref02_GetNums_0 (ysD v) (ysD (getBytes b).2.1) (out.map iD) = some (numsD3 (out ++ chunks v, (getBytes b).2.1, 0)) := by
        intro n
        induction n with
        | zero =>
          intro v out hv ho
          have : v = [] := List.eq_nil_of_length_eq_zero (by omega)
          subst this
          rw [G_ref02_GetNums_0_eq]
          simp [elems_sl, chunks]
        | succ n ih =>
          intro v out hv ho
          match v, hv with
          | w :: x :: y :: z :: t, hv =>
            rw [G_ref02_GetNums_0_eq]
            have hp : decide (((w :: x :: y :: z :: t).length : Int) > 0) = true := by simp; omega
            have hg : F_ref02_GetNum [ysD (w :: x :: y :: z :: t), iD 4] = some (getD3 (num 0 [w, x, y, z], t, 0)) := by
              rw [show iD 4 = iD ((4 : Nat) : Int) from rfl, S_ref02_GetNum (by omega) (by omega) (by omega)]
              unfold getNum
              rw [if_neg (by simp)]
              rfl
            simp only [Option.bind_some, Option.bind_none, Option.map_some, Option.map_none, cond_true, cond_false, binD_eql, binD_neq, binD_lss, binD_leq, binD_gtr, binD_geq, binD_add, binD_sub, binD_mul, asBool_bool, asInt_int, notD_bool, ext_0, ext_1, ext_2, loadRo_one, ofN_eq, elems_sl, Bool.and_true, Bool.true_and, hp, hg, all1_iD, beq_self_eq_true, List.length_map, show decide ((out.length + [iD ((num 0 [w, x, y, z] : Nat) : Int)].length) * 8 ≤ 140737488355328) = true by simp; omega]
            have := ih t (out ++ [((num 0 [w, x, y, z] : Nat) : Int)]) (by simp at hv; omega) (by simp; omega)
            rw [List.map_append] at this
            refine Eq.trans this ?_
            simp [chunks]
          | [], hv => simp at hv
          | [_], hv => simp at hv; omega
          | [_, _], hv => simp at hv; omega
          | [_, _, _], hv => simp at hv; omega
      have := key (v.length / 4) v [] (by omega) (by simp; omega)
      simpa using this
    · rw [if_pos (by simpa using h2), show ((((getBytes b).1.length % 4 : Nat) : Int) != 0) = true by simp; omega]
      rfl
  · rw [if_pos h1, show decide ((getBytes b).2.2 ≠ 0) = true by simp [h1]]
    rfl
end Go.Proofs.Ytcnedmkfcbcjkaa.Ra
