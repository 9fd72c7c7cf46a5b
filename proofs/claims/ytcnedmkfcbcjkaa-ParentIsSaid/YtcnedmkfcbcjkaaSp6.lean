/- WHAT THE PROGRAM's PACKAGE parent COMPUTES. -/
import Derived.Test.YtcnedmkfcbcjkaaSp5
set_option linter.unusedVariables false
set_option linter.unusedSimpArgs false
namespace Go.Proofs.Ytcnedmkfcbcjkaa.Ra
open Go Go.RowKit Go.Proofs.Ytcnedmkfcbcjkaa.Pl
set_option linter.unusedSimpArgs false
set_option linter.unusedVariables false
theorem S_Chunk {v : Bytes} (h : v.length ≤ 4194304) (h4 : v.length % 4 = 0) : F_slices_Chunk_byte_1 [.ro [ysD v], .ro [.int .i64 4]] = some (four (v.map yD)) := by
  simp only [F_slices_Chunk_byte_1, bytes_one, Bool.true_and, List.length_map, h4]
  rw [decide_eq_true h]
  rfl
set_option maxRecDepth 100000 in
theorem getNums_fine (x0 x1 x2 : List D) (h : F_wire_GetBytes [D.sl x0] = some (D.tup [D.sl x1, D.sl x2, D.int IntKind.i64 0])) : F_wire_GetNums [D.sl x0] =
    bif (ofN x1.length).tmod 4 != 0 then some (D.tup [D.sl [], D.sl [], D.int IntKind.i64 2])
    else (F_slices_Chunk_byte_1 [D.ro [D.sl x1], D.ro [D.int IntKind.i64 4]]).bind fun items0 => G_wire_GetNums_r1 items0 x0 x1 x2 (ofN x1.length) ((ofN x1.length).tmod 4) [] :=
  (F_wire_GetNums_fine x0 x1 x2 h).trans (by kernel_rfl)
set_option maxRecDepth 100000 in
theorem getNums_wrong (x0 : List D) (e : Int) (he : e ≠ 0) (h : F_wire_GetBytes [D.sl x0] = some (D.tup [D.sl [], D.sl [], D.int IntKind.i64 e])) : F_wire_GetNums [D.sl x0] = some (D.tup [D.sl [], D.sl [], D.int IntKind.i64 e]) := by
  rw [F_wire_GetNums_eq, h, Option.bind_some]
  have hb : (e != 0) = true := by simpa using he
  show (bif (e != 0) then some (D.tup [D.sl [], D.sl [], D.int IntKind.i64 e]) else _) = _
  rw [hb, cond_true]
set_option maxRecDepth 100000 in
theorem S_wire_GetNums {b : Bytes} (hb : b.length ≤ 1099511627776) : F_wire_GetNums [ysD b] = some (numsD3 (getNums b)) := by
  have hlen := (getBytes_len (b := b)).1
  unfold getNums
  by_cases h1 : (getBytes b).2.2 = 0
  · rw [if_neg (by simpa using h1)]
    have hg : F_wire_GetBytes [ysD b] = some (D.tup [ysD (getBytes b).1, ysD (getBytes b).2.1, D.int .i64 0]) := by rw [S_wire_GetBytes (by omega), ← h1]
    rw [getNums_fine _ _ _ hg]
    have ht : (ofN ((getBytes b).1.map yD).length).tmod 4 = (((getBytes b).1.length % 4 : Nat) : Int) := by rw [List.length_map]; rfl
    rw [ht]
    by_cases h2 : (getBytes b).1.length % 4 = 0
    · rw [if_neg (by simpa using h2), show ((((getBytes b).1.length % 4 : Nat) : Int) != 0) = false by rw [h2]; rfl]
      rw [cond_false, S_Chunk (by omega) h2, Option.bind_some]
      obtain ⟨v, hv⟩ : ∃ v, v = (getBytes b).1 := ⟨_, rfl⟩
      rw [← hv] at h2 hlen ⊢
      have key : ∀ (n : Nat) (v : Bytes) (out : List Int) (x0 x1 : List D) (a c : Int), v.length = 4 * n → out.length + n ≤ 1048576 → G_wire_GetNums_r1 (four (v.map yD)) x0 x1 ((getBytes b).2.1.map yD) a c (out.map iD) = some (numsD3 (out ++ chunks v, (getBytes b).2.1, 0)) := by
        intro n
        induction n with
        | zero =>
          intro v out x0 x1 a c hv ho
          have : v = [] := List.eq_nil_of_length_eq_zero (by omega)
          subst this
          rw [List.map_nil, four, G_wire_GetNums_r1_nil]
          simp [chunks]
          intros; contradiction
        | succ n ih =>
          intro v out x0 x1 a c hv ho
          match v, hv with
          | w :: x :: y :: z :: t, hv =>
            have hg : F_wire_GetNum [ysD [w, x, y, z], iD 4] = some (getD3 (num 0 [w, x, y, z], [], 0)) := by
              rw [show iD 4 = iD ((4 : Nat) : Int) from rfl, S_wire_GetNum (by omega) (by omega) (by simp)]
              unfold getNum
              rw [if_neg (by simp)]
              rfl
            simp only [List.map_cons, four]
            rw [G_wire_GetNums_r1_cons]
            have hg' : F_wire_GetNum [D.sl [yD w, yD x, yD y, yD z], iD 4] = some (getD3 (num 0 [w, x, y, z], [], 0)) := hg
            simp only [hg', Option.bind_some, Option.bind_none, Option.map_some, Option.map_none, cond_true, cond_false, binD_eql, binD_neq, binD_lss, binD_leq, binD_gtr, binD_geq, binD_add, binD_sub, binD_mul, asBool_bool, asInt_int, notD_bool, ext_0, ext_1, ext_2, loadRo_one, ofN_eq, elems_sl, Bool.and_true, Bool.true_and, all1_iD, beq_self_eq_true, List.length_map, show decide ((out.length + [iD ((num 0 [w, x, y, z] : Nat) : Int)].length) * 8 ≤ 140737488355328) = true by simp; omega]
            have := ih t (out ++ [((num 0 [w, x, y, z] : Nat) : Int)]) x0 x1 a c (by simp at hv; omega) (by simp; omega)
            rw [List.map_append] at this
            refine Eq.trans this ?_
            simp [chunks]
          | [], hv => simp at hv
          | [_], hv => simp at hv; omega
          | [_, _], hv => simp at hv; omega
          | [_, _, _], hv => simp at hv; omega
      have := key (v.length / 4) v [] (b.map yD) (v.map yD) (ofN (v.map yD).length) (((v.length % 4 : Nat) : Int)) (by omega) (by simp; omega)
      simpa using this
    · rw [if_pos (by simpa using h2), show ((((getBytes b).1.length % 4 : Nat) : Int) != 0) = true by simp; omega]
      rfl
  · rw [if_pos h1]
    refine getNums_wrong _ _ h1 ?_
    rw [S_wire_GetBytes (by omega), getBytes_err h1]
    rfl
theorem S_outside (i : Int) : F_parent_Check_1 [iD i] = some (.bool (decide (i < 0 ∨ i > 63))) := by
  rw [F_parent_Check_1_eq]
  by_cases h : i < 0
  · simp [h]
  · simp [h]
theorem S_IndexFunc {l : List Int} (hl : l.length ≤ 9223372036854775807) : ∃ z : Int, F_slices_IndexFunc_int [isD l, .clo 57 []] = some (iD z) ∧ (decide (z ≥ 0) = l.any fun i => decide (i < 0 ∨ i > 63)) := by
  rw [F_slices_IndexFunc_int_eq]
  have := upTo (G := G_slices_IndexFunc_int_0 (l.map iD) (ofN (l.map iD).length)) (n := l.length) (fun k r => ∃ z : Int, r = some (iD z) ∧ (decide (z ≥ 0) = (l.drop k).any fun i => decide (i < 0 ∨ i > 63))) ?_ (fun k hk ih => ?_) 0 (by omega)
  · simpa using this
  · rw [G_slices_IndexFunc_int_0_eq]
    exact ⟨-1, by simp, by simp⟩
  · rw [G_slices_IndexFunc_int_0_eq, elemPtr_i hk]
    simp only [Option.bind_some, Option.bind_none, Option.map_some, Option.map_none, cond_true, cond_false, binD_eql, binD_neq, binD_lss, binD_leq, binD_gtr, binD_geq, binD_add, binD_sub, binD_mul, asBool_bool, asInt_int, notD_bool, ext_0, ext_1, ext_2, loadRo_one, ofN_eq, elems_sl, Bool.and_true, Bool.true_and, in_map hk, wrap_next hk hl, S_outside]
    rw [List.drop_eq_getElem_cons hk, List.any_cons]
    by_cases h : l[k] < 0 ∨ l[k] > 63
    · refine ⟨(k : Int), by simp [h], ?_⟩
      simp [h]
    · obtain ⟨z, h1, h2⟩ := ih
      simp only [ofN_eq] at h1
      refine ⟨z, ?_, ?_⟩
      · simp only [h, decide_false, cond_false, List.length_map] at h1 ⊢
        exact h1
      rw [h2, show decide (l[k] < 0 ∨ l[k] > 63) = false by simpa using h]
      rfl
theorem S_ContainsFunc {l : List Int} (hl : l.length ≤ 9223372036854775807) : F_slices_ContainsFunc_int [isD l, .clo 57 []] = some (.bool (l.any fun i => decide (i < 0 ∨ i > 63))) := by
  rw [F_slices_ContainsFunc_int_eq]
  obtain ⟨z, h1, h2⟩ := S_IndexFunc hl
  rw [h1]
  simp only [Option.bind_some, Option.bind_none, Option.map_some, Option.map_none, cond_true, cond_false, binD_eql, binD_neq, binD_lss, binD_leq, binD_gtr, binD_geq, binD_add, binD_sub, binD_mul, asBool_bool, asInt_int, notD_bool, ext_0, ext_1, ext_2, loadRo_one, ofN_eq, elems_sl, Bool.and_true, Bool.true_and, tupOf_one, h2]
theorem S_thin {l : List Int} (hl : l.length ≤ 4194304) : F_parent_thin_int [isD l] = some ((thin l).map iD) := by
  simp only [F_parent_thin_int, ints?_map, Option.bind_some, decide_eq_true hl, cond_true]
theorem S_parent_Join {l : List Int} {i : Int} (hl : l.length ≤ 1000) : F_parent_Join [isD l, iD i] = some ((join l i).map iD) := by
  rw [F_parent_Join_eq]
  simp only [S_clone_int (show l.length ≤ 4194304 by omega), Option.bind_some, Option.bind_none, Option.map_some, Option.map_none, cond_true, cond_false, binD_eql, binD_neq, binD_lss, binD_leq, binD_gtr, binD_geq, binD_add, binD_sub, binD_mul, asBool_bool, asInt_int, notD_bool, ext_0, ext_1, ext_2, loadRo_one, ofN_eq, elems_sl, Bool.and_true, Bool.true_and, all1_iD, List.length_map, show decide ((l.length + [iD i].length) * 8 ≤ 140737488355328) = true by simp; omega]
  rw [show l.map iD ++ [iD i] = (l ++ [i]).map iD by simp, S_thin (by simp; omega)]
  rfl
theorem S_parent_Cut {l i : List Int} (hl : l.length ≤ 1000) (hi : i.length ≤ 1000) : F_parent_Cut [isD l, isD i] = some ((cut l i).map iD) := by
  simp only [F_parent_Cut, ints?_map, Option.bind_some, show decide (l.length ≤ 4194304) = true by simp; omega, show decide (i.length ≤ 4194304) = true by simp; omega, Bool.and_self, cond_true]
theorem S_parent_Check {n : Inner} (hu : n.un.length ≤ 4194304) : F_parent_Check [innerD n] = some (iD n.check) := by
  show F_parent_Check [D.agg [ysD n.enc, ysD n.hash, isD n.un]] = _
  rw [F_parent_Check_eq]
  simp only [S_ContainsFunc (show n.un.length ≤ 9223372036854775807 by omega), S_thin hu, S_slices_Equal_int (a := thin n.un) (b := n.un) (by
    unfold thin
    have h1 := Lib.compact_length_le (n.un.mergeSort fun x y => decide (x ≤ y))
    rw [compact_eq, List.length_mergeSort] at h1
    omega), Option.bind_some, Option.bind_none, Option.map_some, Option.map_none, cond_true, cond_false, binD_eql, binD_neq, binD_lss, binD_leq, binD_gtr, binD_geq, binD_add, binD_sub, binD_mul, asBool_bool, asInt_int, notD_bool, ext_0, ext_1, ext_2, loadRo_one, ofN_eq, elems_sl, Bool.and_true, Bool.true_and, List.length_map]
  unfold Inner.check
  by_cases h1 : n.enc = []
  · rw [if_pos h1]; simp [h1]
  · rw [if_neg h1]
    have hp : 0 < n.enc.length := List.length_pos_iff.2 h1
    have e0 : ((n.enc.length : Int) == 0) = false := by simpa using h1
    rw [e0, cond_false]
    by_cases h2 : n.enc.length > 200 ∨ n.hash.length > 200 ∨ n.un.length > 64
    · rw [if_pos h2]
      by_cases a : n.enc.length > 200
      · simp [show (n.enc.length : Int) > 200 by omega]
      · by_cases c : n.hash.length > 200
        · simp [show (n.hash.length : Int) > 200 by omega]
        · simp [show (n.un.length : Int) > 64 by omega]
    · rw [if_neg h2]
      rw [show decide ((n.enc.length : Int) > 200) = false by simp; omega, show decide ((n.hash.length : Int) > 200) = false by simp; omega, show decide ((n.un.length : Int) > 64) = false by simp; omega]
      simp only [cond_false]
      by_cases h3 : ∃ i ∈ n.un, i < 0 ∨ i > 63
      · rw [if_pos h3, show (n.un.any fun i => decide (i < 0 ∨ i > 63)) = true by simpa using h3]
        rfl
      · rw [if_neg h3, show (n.un.any fun i => decide (i < 0 ∨ i > 63)) = false by
          rw [Bool.eq_false_iff]; intro hh; exact h3 (by simpa using hh)]
        by_cases h4 : Rises n.un
        · rw [if_pos h4]; simp [thin_eq.2 h4]
        · have hne : thin n.un ≠ n.un := fun e => h4 (thin_eq.1 e)
          rw [if_neg h4]; simp [hne]
theorem S_parent_Put {b : Bytes} {n : Inner} (hb : b.length ≤ 1048576) (hu : n.un.length ≤ 4194304) : F_parent_Put [ysD b, innerD n] = some (ysD (b ++ n.put)) := by
  show F_parent_Put [ysD b, D.agg [ysD n.enc, ysD n.hash, isD n.un]] = _
  rw [F_parent_Put_eq]
  have hc := S_parent_Check hu
  simp only [innerD, innerC] at hc
  simp only [Option.bind_some, Option.bind_none, Option.map_some, Option.map_none, cond_true, cond_false, binD_eql, binD_neq, binD_lss, binD_leq, binD_gtr, binD_geq, binD_add, binD_sub, binD_mul, asBool_bool, asInt_int, notD_bool, ext_0, ext_1, ext_2, loadRo_one, ofN_eq, elems_sl, Bool.and_true, Bool.true_and, hc, S_clone_byte (show b.length ≤ 4194304 by omega)]
  unfold Inner.put
  by_cases h : n.check = 0
  · obtain ⟨h1, h2, h3, h4, h5, h6⟩ := Inner.ok h
    have p1 := putBytes_len (v := n.enc)
    have p2 := putBytes_len (v := n.hash)
    rw [if_pos h, show decide (n.check ≠ 0) = false by simp [h]]
    simp only [cond_false, S_wire_PutBytes (b := b) (v := n.enc) (by omega) (by omega), Option.bind_some,
      S_wire_PutBytes (b := b ++ putBytes n.enc) (v := n.hash) (by simp; omega) (by omega), S_wire_PutNums (b := b ++ putBytes n.enc ++ putBytes n.hash) (l := n.un) (by simp; omega) (by omega)]
    simp
  · rw [if_neg h, show decide (n.check ≠ 0) = true by simp [h]]
    simp
theorem S_parent_Get {b : Bytes} (hb : b.length ≤ 1099511627776) : F_parent_Get [ysD b] = some (innerD3 (Inner.get b)) := by
  rw [F_parent_Get_eq, S_wire_GetBytes (by omega)]
  have l1 := getBytes_len (b := b)
  have l2 := getBytes_len (b := (getBytes b).2.1)
  have l3 := getNums_len (b := (getBytes (getBytes b).2.1).2.1)
  simp only [Option.bind_some, Option.bind_none, Option.map_some, Option.map_none, cond_true, cond_false, binD_eql, binD_neq, binD_lss, binD_leq, binD_gtr, binD_geq, binD_add, binD_sub, binD_mul, asBool_bool, asInt_int, notD_bool, ext_0, ext_1, ext_2, loadRo_one, ofN_eq, elems_sl, Bool.and_true, Bool.true_and, S_wire_GetBytes (b := (getBytes b).2.1) (by omega), S_wire_GetNums (b := (getBytes (getBytes b).2.1).2.1) (by omega)]
  unfold Inner.get
  by_cases h1 : (getBytes b).2.2 = 0
  · rw [if_neg (by simpa using h1), show decide ((getBytes b).2.2 ≠ 0) = false by simp [h1]]
    simp only [cond_false]
    by_cases h2 : (getBytes (getBytes b).2.1).2.2 = 0
    · rw [if_neg (by simpa using h2), show decide ((getBytes (getBytes b).2.1).2.2 ≠ 0) = false by simp [h2]]
      simp only [cond_false]
      by_cases h3 : (getNums (getBytes (getBytes b).2.1).2.1).2.2 = 0
      · rw [if_neg (by simpa using h3), show decide ((getNums (getBytes (getBytes b).2.1).2.1).2.2 ≠ 0) = false by simp [h3]]
        have hc := S_parent_Check (n := ⟨(getBytes b).1, (getBytes (getBytes b).2.1).1, (getNums (getBytes (getBytes b).2.1).2.1).1⟩) (show (getNums (getBytes (getBytes b).2.1).2.1).1.length ≤ 4194304 by omega)
        simp only [innerD, innerC] at hc
        simp only [cond_false, hc, Option.bind_some, binD_neq, asBool_bool]
        by_cases h4 : Inner.check ⟨(getBytes b).1, (getBytes (getBytes b).2.1).1, (getNums (getBytes (getBytes b).2.1).2.1).1⟩ = 0
        · rw [if_neg (by simpa using h4), show decide (Inner.check ⟨(getBytes b).1, (getBytes (getBytes b).2.1).1, (getNums (getBytes (getBytes b).2.1).2.1).1⟩ ≠ 0) = false by simp [h4]]
          simp [explicit]
        · rw [if_pos h4, show decide (Inner.check ⟨(getBytes b).1, (getBytes (getBytes b).2.1).1, (getNums (getBytes (getBytes b).2.1).2.1).1⟩ ≠ 0) = true by simp [h4]]
          simp [inner0]
      · rw [if_pos h3, show decide ((getNums (getBytes (getBytes b).2.1).2.1).2.2 ≠ 0) = true by simp [h3]]
        rfl
    · rw [if_pos h2, show decide ((getBytes (getBytes b).2.1).2.2 ≠ 0) = true by simp [h2]]
      rfl
  · rw [if_pos h1, show decide ((getBytes b).2.2 ≠ 0) = true by simp [h1]]
    rfl
theorem S_parent_Same {a b : Inner} (hl : a.un.length ≤ 9223372036854775807) : F_parent_Same [innerD a, innerD b] = some (.bool (decide (a = b))) := by
  show F_parent_Same [D.agg [ysD a.enc, ysD a.hash, isD a.un], D.agg [ysD b.enc, ysD b.hash, isD b.un]] = _
  rw [F_parent_Same_eq]
  simp only [S_bytes_Equal, S_slices_Equal_int hl, Option.bind_some, Option.bind_none, Option.map_some, Option.map_none, cond_true, cond_false, binD_eql, binD_neq, binD_lss, binD_leq, binD_gtr, binD_geq, binD_add, binD_sub, binD_mul, asBool_bool, asInt_int, notD_bool, ext_0, ext_1, ext_2, loadRo_one, ofN_eq, elems_sl, Bool.and_true, Bool.true_and, tupOf_one]
  obtain ⟨a1, a2, a3⟩ := a
  obtain ⟨b1, b2, b3⟩ := b
  by_cases h1 : a1 = b1
  · by_cases h2 : a2 = b2
    · simp [h1, h2]
    · simp [h1, h2]
  · simp [h1]
end Go.Proofs.Ytcnedmkfcbcjkaa.Ra
