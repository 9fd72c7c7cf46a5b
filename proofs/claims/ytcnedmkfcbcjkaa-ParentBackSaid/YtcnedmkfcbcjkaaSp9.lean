/- WHAT THE LAWS ParentOnly AND ParentBack ANSWER. -/
import Derived.Test.YtcnedmkfcbcjkaaSp7
import Derived.Test.YtcnedmkfcbcjkaaRgf
set_option linter.unusedVariables false
set_option linter.unusedSimpArgs false
namespace Go.Proofs.Ytcnedmkfcbcjkaa.Ra
open Go Go.RowKit Go.Proofs.Ytcnedmkfcbcjkaa.Pl
theorem binD_str_add {a b : Bytes} (h : a.length + b.length ≤ 9223372036854775807) : binD .add (.str a) (.str b) = some (.str (a ++ b)) := by simp [binD, h]
theorem aggN_inner (n : Inner) : D.aggN (innerD n) 3 = some (innerC n) := rfl
theorem agg3 (n : Inner) : D.agg [(innerC n).getD 0 D.any, (innerC n).getD 1 D.any, (innerC n).getD 2 D.any] = innerD n := rfl
theorem L_ParentOnly (b : Bytes) (hb : b.length ≤ 9223372036854775807) : F_law08_ParentOnly [ysD b] = some (.bool true) := by
  rw [F_law08_ParentOnly_eq]
  simp only [S_law08_awake, Option.bind_some, Option.bind_none, Option.map_some, Option.map_none, cond_true, cond_false, binD_eql, binD_neq, binD_lss, binD_leq, binD_gtr, binD_geq, binD_add, binD_sub, binD_mul, asBool_bool, asInt_int, notD_bool, ext_0, ext_1, ext_2, loadRo_one, ofN_eq, elems_sl, Bool.and_true, Bool.true_and, List.length_map, tupOf_one]
  by_cases h1 : b.length > 1000
  · rw [show decide ((b.length : Int) > 1000) = true by simp; omega]; rfl
  rw [show decide ((b.length : Int) > 1000) = false by simp; omega, S_parent_Get (by omega)]
  rcases hg : Inner.get b with ⟨n, r, e⟩
  simp only [Option.bind_some, Option.bind_none, Option.map_some, Option.map_none, cond_true, cond_false, binD_eql, binD_neq, binD_lss, binD_leq, binD_gtr, binD_geq, binD_add, binD_sub, binD_mul, asBool_bool, asInt_int, notD_bool, ext_0, ext_1, ext_2, loadRo_one, ofN_eq, elems_sl, Bool.and_true, Bool.true_and, aggN_inner, agg3]
  rw [show decide (0 + (explicit 3 (innerC n)).length ≤ [V.own 1256, V.own 1257, V.own 1258].length) = true from rfl, cond_true]
  by_cases he : e = 0
  · subst he
    obtain ⟨hc, hp⟩ := Inner.get_only hg
    obtain ⟨_, _, _, hu, _⟩ := Inner.ok hc
    have hpl : n.put.length + r.length ≤ 9223372036854775807 := by rw [← List.length_append, hp]; exact hb
    rw [show decide ((0 : Int) ≠ 0) = false by simp, cond_false]
    simp only [S_parent_Check (n := n) (by omega), hc, Option.bind_some, Option.bind_none, Option.map_some, Option.map_none, cond_true, cond_false, binD_eql, binD_neq, binD_lss, binD_leq, binD_gtr, binD_geq, binD_add, binD_sub, binD_mul, asBool_bool, asInt_int, notD_bool, ext_0, ext_1, ext_2, loadRo_one, ofN_eq, elems_sl, Bool.and_true, Bool.true_and, decide_true, show F_parent_Put [.sl [], innerD n] = some (ysD ([] ++ n.put)) from S_parent_Put (b := []) (n := n) (by simp) (by omega), convD_text, List.nil_append, binD_str_add hpl, binD_str_eql, hp, tupOf_one]
  · rw [show decide (e ≠ 0) = true by simp [he], cond_true]
    have := Inner.get_err (b := b) (by rw [hg]; exact he)
    rw [hg] at this
    simp only [Prod.mk.injEq, and_true] at this
    obtain ⟨rfl, rfl⟩ := this
    simp only [show F_parent_Same [innerD inner0, .agg [.sl [], .sl [], .sl []]] = some (.bool true) from (S_parent_Same (a := inner0) (b := inner0) (by simp [inner0])).trans (by simp), Option.bind_some, Option.bind_none, Option.map_some, Option.map_none, cond_true, cond_false, binD_eql, binD_neq, binD_lss, binD_leq, binD_gtr, binD_geq, binD_add, binD_sub, binD_mul, asBool_bool, asInt_int, notD_bool, ext_0, ext_1, ext_2, loadRo_one, ofN_eq, elems_sl, Bool.and_true, Bool.true_and, List.map_nil, List.length_nil]
    rfl
theorem few_sum {a b c : Nat} (h1 : a ≤ 140737488355328) (h2 : b ≤ 140737488355328) (h3 : c ≤ 140737488355328) : IntKind.i64.wrap (IntKind.i64.wrap ((a : Int) + (b : Int)) + (c : Int)) = ((a + b + c : Nat) : Int) := by
  rw [wrap64_id (z := (a : Int) + b) (by omega) (by omega), wrap64_id (by omega) (by omega)]
  rfl
theorem L_ParentBack (n : Inner) (t : Bytes) (c : Int) (h1 : n.enc.length ≤ 140737488355328) (h2 : n.hash.length ≤ 140737488355328) (h3 : n.un.length ≤ 140737488355328) (ht : t.length ≤ 9223372036854775807) : F_law08_ParentBack [innerD n, ysD t, iD c] = some (.bool true) := by
  show F_law08_ParentBack [D.agg [ysD n.enc, ysD n.hash, isD n.un], ysD t, iD c] = _
  rw [F_law08_ParentBack_eq]
  simp only [S_law08_awake, Option.bind_some, Option.bind_none, Option.map_some, Option.map_none, cond_true, cond_false, binD_eql, binD_neq, binD_lss, binD_leq, binD_gtr, binD_geq, binD_add, binD_sub, binD_mul, asBool_bool, asInt_int, notD_bool, ext_0, ext_1, ext_2, loadRo_one, ofN_eq, elems_sl, Bool.and_true, Bool.true_and, List.length_map, tupOf_one, few_sum h1 h2 h3]
  by_cases hf : n.enc.length + n.hash.length + n.un.length ≤ 600
  · rw [show decide (((n.enc.length + n.hash.length + n.un.length : Nat) : Int) ≤ 600) = true by simp; omega]
    by_cases ht1 : t.length > 1000
    · rw [show decide ((t.length : Int) > 1000) = true by simp; omega]; rfl
    rw [show decide ((t.length : Int) > 1000) = false by simp; omega]
    have hput : F_parent_Put [.sl [], .agg [ysD n.enc, ysD n.hash, isD n.un]] = some (ysD n.put) := (S_parent_Put (b := []) (n := n) (by simp) (by omega)).trans (by simp)
    have hchk : F_parent_Check [.agg [ysD n.enc, ysD n.hash, isD n.un]] = some (iD n.check) := S_parent_Check (n := n) (by omega)
    simp only [Bool.not_true, cond_false, hput, hchk, Option.bind_some, Option.bind_none, Option.map_some, Option.map_none, cond_true, cond_false, binD_eql, binD_neq, binD_lss, binD_leq, binD_gtr, binD_geq, binD_add, binD_sub, binD_mul, asBool_bool, asInt_int, notD_bool, ext_0, ext_1, ext_2, loadRo_one, ofN_eq, elems_sl, Bool.and_true, Bool.true_and, List.length_map]
    by_cases hc : n.check = 0
    · obtain ⟨g1, g2, g3, g4, g5, g6⟩ := Inner.ok hc
      have hpos := Inner.put_pos hc
      have hlen : n.put.length ≤ 1000 := by
        unfold Inner.put
        rw [if_pos hc]
        have p1 := putBytes_len (v := n.enc)
        have p2 := putBytes_len (v := n.hash)
        have p3 : (putNums n.un).length ≤ 4 * n.un.length + 4 := by
          unfold putNums
          have := putBytes_len (v := n.un.flatMap be4)
          rw [flat_len] at this
          exact this
        simp
        omega
      rw [show decide (n.check ≠ 0) = false by simp [hc], cond_false, show ((n.put.length : Int) == 0) = false from beq_eq_false_iff_ne.2 (by omega), cond_false]
      have hget : F_parent_Get [.sl ([] ++ n.put.map yD ++ t.map yD)] = some (innerD3 (n, t, 0)) := by
        rw [List.nil_append, ← List.map_append]
        refine (S_parent_Get (b := n.put ++ t) (by simp; omega)).trans ?_
        rw [Inner.get_put hc]
      rw [List.nil_append] at hget
      have hm : ∃ m : Nat, m < 65536 ∧ IntKind.i64.wrap (ofN (BitVec.ofInt IntKind.i64.bits c &&& BitVec.ofInt IntKind.i64.bits 65535).toNat) = (m : Int) := by
        have h : (BitVec.ofInt 64 c &&& BitVec.ofInt 64 65535).toNat < 65536 := by
          rw [BitVec.toNat_and, show (BitVec.ofInt 64 65535).toNat = 2 ^ 16 - 1 by decide, Nat.and_two_pow_sub_one_eq_mod]
          omega
        exact ⟨_, h, wrap64_id (by rw [ofN_eq]; omega) (by rw [ofN_eq]; exact Int.lt_of_lt_of_le (Int.ofNat_lt.2 h) (by decide))⟩
      obtain ⟨m, hm1, hm2⟩ := hm
      have hcut : D.cut 1 0 ((m % n.put.length : Nat) : Int) (ysD n.put) = some (ysD (n.put.take (m % n.put.length))) := by
        have := cut_map yD (n := 1) (fun _ => rfl) (l := n.put) (lo := 0) (hi := m % n.put.length) (Nat.zero_le _) (Nat.le_of_lt (Nat.mod_lt _ hpos))
        exact this
      have hlt : m % n.put.length < n.put.length := Nat.mod_lt _ hpos
      have hshort : (Inner.get (n.put.take (m % n.put.length))).2.2 = 1 := Inner.get_short hc (List.take_prefix _ _) (by rw [List.length_take]; omega)
      rcases hg2 : Inner.get (n.put.take (m % n.put.length)) with ⟨n2, r2, e2⟩
      rw [hg2] at hshort
      have hget2 : F_parent_Get [ysD (n.put.take (m % n.put.length))] = some (innerD3 (n2, r2, e2)) := by
        rw [S_parent_Get (by rw [List.length_take]; omega), hg2]
      have hrem : binD .rem (iD (m : Int)) (iD (n.put.length : Int)) = some (iD ((m % n.put.length : Nat) : Int)) := by
        rw [binD_rem _ _ _ (by omega)]
        rfl
      simp only [all1_y, List.nil_append, Option.bind_some, Option.bind_none, Option.map_some, Option.map_none, cond_true, cond_false, binD_eql, binD_neq, binD_lss, binD_leq, binD_gtr, binD_geq, binD_add, binD_sub, binD_mul, asBool_bool, asInt_int, notD_bool, ext_0, ext_1, ext_2, loadRo_one, ofN_eq, elems_sl, Bool.and_true, Bool.true_and, List.length_map, hget, aggN_inner, agg3, hm2, hrem, hcut, hget2, show decide ((0 + n.put.length) * 1 ≤ 140737488355328) = true by simp; omega, show decide ((n.put.length + t.length) * 1 ≤ 140737488355328) = true by simp; omega]
      have hsame : F_ref08_Same [innerD n, .agg [ysD n.enc, ysD n.hash, isD n.un]] = some (.bool true) := (S_ref08_Same (a := n) (b := n) (by omega)).trans (by simp)
      rw [show decide (0 + (explicit 3 (innerC n)).length ≤ [V.own 1640, V.own 1641, V.own 1642].length) = true from rfl, show decide (0 + (explicit 3 (innerC n2)).length ≤ [V.own 1832, V.own 1833, V.own 1834].length) = true from rfl, hsame]
      simp only [Option.bind_some, Option.bind_none, Option.map_some, Option.map_none, cond_true, cond_false, binD_eql, binD_neq, binD_lss, binD_leq, binD_gtr, binD_geq, binD_add, binD_sub, binD_mul, asBool_bool, asInt_int, notD_bool, ext_0, ext_1, ext_2, loadRo_one, ofN_eq, elems_sl, Bool.and_true, Bool.true_and, convD_text, binD_str_eql, decide_true]
      simp at hshort
      simp [hshort]
    · rw [show decide (n.check ≠ 0) = true by simp [hc], cond_true]
      have : n.put = [] := by unfold Inner.put; rw [if_neg hc]
      rw [this]
      rfl
  · rw [show decide (((n.enc.length + n.hash.length + n.un.length : Nat) : Int) ≤ 600) = false by simp; omega]
    rfl
end Go.Proofs.Ytcnedmkfcbcjkaa.Ra
