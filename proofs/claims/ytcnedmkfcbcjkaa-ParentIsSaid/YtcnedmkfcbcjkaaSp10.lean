/- WHAT THE LAW ParentIs ANSWERS. -/
import Derived.Test.YtcnedmkfcbcjkaaSp9
import Derived.Test.YtcnedmkfcbcjkaaRgg
set_option linter.unusedVariables false
set_option linter.unusedSimpArgs false
namespace Go.Proofs.Ytcnedmkfcbcjkaa.Ra
open Go Go.RowKit Go.Proofs.Ytcnedmkfcbcjkaa.Pl
theorem boolD_eql (a b : Bool) : boolD .eql (.bool a) (.bool b) = some (.bool (a == b)) := by cases a <;> cases b <;> rfl
theorem L_ParentIs (n m : Inner) (b : Bytes) (i : Int) (h1 : n.enc.length ≤ 140737488355328) (h2 : n.hash.length ≤ 140737488355328) (h3 : n.un.length ≤ 140737488355328)
    (g1 : m.enc.length ≤ 140737488355328) (g2 : m.hash.length ≤ 140737488355328) (g3 : m.un.length ≤ 140737488355328) (hb : b.length ≤ 9223372036854775807) : F_law08_ParentIs [innerD n, innerD m, ysD b, iD i] = some (.bool true) := by
  show F_law08_ParentIs [D.agg [ysD n.enc, ysD n.hash, isD n.un], D.agg [ysD m.enc, ysD m.hash, isD m.un], ysD b, iD i] = _
  rw [F_law08_ParentIs_eq]
  simp only [S_law08_awake, Option.bind_some, Option.bind_none, Option.map_some, Option.map_none, cond_true, cond_false, binD_eql, binD_neq, binD_lss, binD_leq, binD_gtr, binD_geq, binD_add, binD_sub, binD_mul, asBool_bool, asInt_int, notD_bool, ext_0, ext_1, ext_2, loadRo_one, ofN_eq, elems_sl, Bool.and_true, Bool.true_and, List.length_map, tupOf_one, few_sum h1 h2 h3, few_sum g1 g2 g3]
  by_cases hf : n.enc.length + n.hash.length + n.un.length ≤ 600
  · rw [show decide (((n.enc.length + n.hash.length + n.un.length : Nat) : Int) ≤ 600) = true by simp; omega]
    by_cases hf2 : m.enc.length + m.hash.length + m.un.length ≤ 600
    · rw [show decide (((m.enc.length + m.hash.length + m.un.length : Nat) : Int) ≤ 600) = true by simp; omega]
      by_cases hb1 : b.length > 1000
      · rw [show decide ((b.length : Int) > 1000) = true by simp; omega]; rfl
      rw [show decide ((b.length : Int) > 1000) = false by simp; omega]
      rw [S_parent_Get (by omega), S_ref08_Get (by omega)]
      rcases hg : Inner.get b with ⟨x, r, e⟩
      have hx : x.un.length ≤ 4194304 := by
        have l3 := getNums_len (b := (getBytes (getBytes b).2.1).2.1)
        have : x.un.length ≤ 262144 := by
          unfold Inner.get at hg
          repeat' split at hg
          all_goals (cases hg; first | (simp [inner0]; done) | exact l3.1)
        omega
      simp only [Option.bind_some, Option.bind_none, Option.map_some, Option.map_none, cond_true, cond_false, binD_eql, binD_neq, binD_lss, binD_leq, binD_gtr, binD_geq, binD_add, binD_sub, binD_mul, asBool_bool, asInt_int, notD_bool, ext_0, ext_1, ext_2, loadRo_one, ofN_eq, elems_sl, Bool.and_true, Bool.true_and, Bool.not_true, aggN_inner, agg3]
      rw [show decide (0 + (explicit 3 (innerC x)).length ≤ [V.own 1640, V.own 1641, V.own 1642].length) = true from rfl, show decide (0 + (explicit 3 (innerC x)).length ≤ [V.own 1832, V.own 1833, V.own 1834].length) = true from rfl]
      have q1 : F_ref08_Same [innerD x, innerD x] = some (.bool true) := (S_ref08_Same (a := x) (b := x) (by omega)).trans (by simp)
      have q2 : F_parent_Check [.agg [ysD n.enc, ysD n.hash, isD n.un]] = some (iD n.check) := S_parent_Check (n := n) (by omega)
      have q3 : F_ref08_Check [.agg [ysD n.enc, ysD n.hash, isD n.un]] = some (iD n.check) := S_ref08_Check (n := n) (by omega)
      have q4 : F_parent_Put [ysD b, .agg [ysD n.enc, ysD n.hash, isD n.un]] = some (ysD (b ++ n.put)) := S_parent_Put (b := b) (n := n) (by omega) (by omega)
      have q5 : F_ref08_Put [ysD b, .agg [ysD n.enc, ysD n.hash, isD n.un]] = some (ysD (b ++ n.put)) := S_ref08_Put (b := b) (n := n) (by omega) (by omega)
      have q6 : F_parent_Same [.agg [ysD n.enc, ysD n.hash, isD n.un], .agg [ysD m.enc, ysD m.hash, isD m.un]] = some (.bool (decide (n = m))) := S_parent_Same (a := n) (b := m) (by omega)
      have q7 : F_ref08_Same [.agg [ysD n.enc, ysD n.hash, isD n.un], .agg [ysD m.enc, ysD m.hash, isD m.un]] = some (.bool (decide (n = m))) := S_ref08_Same (a := n) (b := m) (by omega)
      have j1 := Lib.compact_length_le ((n.un ++ [i]).mergeSort fun x y => decide (x ≤ y))
      rw [List.length_mergeSort] at j1
      have j2 : (join n.un i).length ≤ 1001 := by
        unfold join thin
        rw [← compact_eq]
        simp at j1 ⊢
        omega
      have j3 : (cut n.un m.un).length ≤ n.un.length := List.length_filter_le ..
      have q8 : F_ref02_Ints [isD (join n.un i), isD (join n.un i)] = some (.bool true) := (S_ref02_Ints (by omega)).trans (by simp)
      have q9 : F_ref02_Ints [isD (cut n.un m.un), isD (cut n.un m.un)] = some (.bool true) := (S_ref02_Ints (by omega)).trans (by simp)
      simp only [q1, q2, q3, q4, q5, q6, q7, S_parent_Join (l := n.un) (i := i) (by omega), S_ref08_Join (l := n.un) (i := i) (by omega), S_parent_Cut (l := n.un) (i := m.un) (by omega) (by omega), S_ref08_Cut (l := n.un) (i := m.un) (by omega) (by omega), q8, q9,
        Option.bind_some, Option.bind_none, Option.map_some, Option.map_none, cond_true, cond_false, binD_eql, binD_neq, binD_lss, binD_leq, binD_gtr, binD_geq, binD_add, binD_sub, binD_mul, asBool_bool, asInt_int, notD_bool, ext_0, ext_1, ext_2, loadRo_one, ofN_eq, elems_sl, Bool.and_true, Bool.true_and, Bool.not_true, convD_text, binD_str_neq, ne_eq, not_true, decide_false, boolD_eql, beq_self_eq_true]
    · rw [show decide (((m.enc.length + m.hash.length + m.un.length : Nat) : Int) ≤ 600) = false by simp; omega]
      rfl
  · rw [show decide (((n.enc.length + n.hash.length + n.un.length : Nat) : Int) ≤ 600) = false by simp; omega]
    rfl
end Go.Proofs.Ytcnedmkfcbcjkaa.Ra
