/- WHAT THE LAWS OF CHAPTER 08 ANSWER, where no octets are written. -/
import Derived.Test.YtcnedmkfcbcjkaaSp6
set_option linter.unusedVariables false
set_option linter.unusedSimpArgs false
namespace Go.Proofs.Ytcnedmkfcbcjkaa.Ra
open Go Go.RowKit Go.Proofs.Ytcnedmkfcbcjkaa.Pl
set_option linter.unusedSimpArgs false
set_option linter.unusedVariables false
theorem S_law08_awake : F_law08_awake [] = some (.bool true) := by
  rw [F_law08_awake_eq]
  have h1 : F_parent_Get [D.sl [D.int IntKind.u8 1, D.int IntKind.u8 7, D.int IntKind.u8 0, D.int IntKind.u8 4, D.int IntKind.u8 0, D.int IntKind.u8 0, D.int IntKind.u8 0, D.int IntKind.u8 3]] = some (innerD3 (⟨[7], [], [3]⟩, [], 0)) := by
    refine (S_parent_Get (b := [1, 7, 0, 4, 0, 0, 0, 3]) (by decide)).trans ?_
    rw [show Inner.get [1, 7, 0, 4, 0, 0, 0, 3] = (⟨[7], [], [3]⟩, [], 0) by decide]
  have h2 : F_parent_Put [D.sl [], D.agg [D.sl [D.int IntKind.u8 7], D.sl [], D.sl [D.int IntKind.i64 3]]] = some (ysD [1, 7, 0, 4, 0, 0, 0, 3]) := by
    refine (S_parent_Put (b := []) (n := ⟨[7], [], [3]⟩) (by decide) (by decide)).trans ?_
    rw [show ([] : Bytes) ++ Inner.put ⟨[7], [], [3]⟩ = [1, 7, 0, 4, 0, 0, 0, 3] by decide]
  rw [h1, Option.bind_some, ext_0, Option.bind_some, ext_1, Option.bind_some, ext_2, Option.bind_some, show D.aggN (innerD ⟨[7], [], [3]⟩) 3 = some [ysD [7], ysD [], isD [3]] from rfl, Option.bind_some]
  rw [h2]
  have h3 : F_parent_Same [D.agg [[ysD [7], ysD [], isD [3]].getD 0 D.any, [ysD [7], ysD [], isD [3]].getD 1 D.any, [ysD [7], ysD [], isD [3]].getD 2 D.any], D.agg [D.sl [D.int IntKind.u8 7], D.sl [], D.sl [D.int IntKind.i64 3]]] = some (.bool true) :=
    (S_parent_Same (a := ⟨[7], [], [3]⟩) (b := ⟨[7], [], [3]⟩) (by decide)).trans (by simp)
  have h4 : F_parent_Check [D.agg [D.sl [D.int IntKind.u8 7], D.sl [], D.sl [D.int IntKind.i64 3]]] = some (iD 0) :=
    (S_parent_Check (n := ⟨[7], [], [3]⟩) (by decide)).trans (by rw [show Inner.check ⟨[7], [], [3]⟩ = 0 by decide])
  have h5 : F_parent_Join [D.sl [D.int IntKind.i64 1, D.int IntKind.i64 5], D.int IntKind.i64 3] = some ([1, 3, 5].map iD) :=
    (S_parent_Join (l := [1, 5]) (i := 3) (by decide)).trans (by rw [show join [1, 5] 3 = [1, 3, 5] from rises_ext (rises_thin _) (by decide) fun z => (mem_join.trans (by simp; omega))])
  have h6 : ∀ l : List Int, l.length ≤ 10 → F_ref02_Ints [isD l, isD l] = some (.bool true) := fun l hl => (S_ref02_Ints (by omega)).trans (by simp)
  have h6a : F_ref02_Ints [D.sl [iD 1, iD 3, iD 5], D.sl [D.int .i64 1, D.int .i64 3, D.int .i64 5]] = some (.bool true) := h6 [1, 3, 5] (by decide)
  have h6b : F_ref02_Ints [D.sl [D.int .i64 1, D.int .i64 5], D.sl [D.int .i64 1, D.int .i64 5]] = some (.bool true) := h6 [1, 5] (by decide)
  simp only [List.map_cons, List.map_nil] at h5
  rw [h3, h4, h5]
  simp only [Option.bind_some, Option.bind_none, Option.map_some, Option.map_none, cond_true, cond_false, binD_eql, binD_neq, binD_lss, binD_leq, binD_gtr, binD_geq, binD_add, binD_sub, binD_mul, asBool_bool, asInt_int, notD_bool, ext_0, ext_1, ext_2, loadRo_one, ofN_eq, elems_sl, Bool.and_true, Bool.true_and, convD_text, binD_str_eql, h6a, h6b, tupOf_one, decide_true]
  rfl
theorem cut_snoc (l i : List Int) (x : Int) : cut (l ++ [x]) i = cut l i ++ (if i.contains x then [] else [x]) := by
  unfold cut
  rw [List.filter_append]
  by_cases h : x ∈ i <;> simp [h]
theorem L_ParentCuts (l i : List Int) (hl : l.length ≤ 9223372036854775807) (hi : i.length ≤ 9223372036854775807) : F_law08_ParentCuts [isD l, isD i] = some (.bool true) := by
  rw [F_law08_ParentCuts_eq]
  simp only [S_law08_awake, Option.bind_some, Option.bind_none, Option.map_some, Option.map_none, cond_true, cond_false, binD_eql, binD_neq, binD_lss, binD_leq, binD_gtr, binD_geq, binD_add, binD_sub, binD_mul, asBool_bool, asInt_int, notD_bool, ext_0, ext_1, ext_2, loadRo_one, ofN_eq, elems_sl, Bool.and_true, Bool.true_and, List.length_map, tupOf_one]
  by_cases h1 : l.length > 100
  · rw [show decide ((l.length : Int) > 100) = true by simp; omega]; rfl
  by_cases h2 : i.length > 100
  · rw [show decide ((i.length : Int) > 100) = true by simp; omega, show decide ((l.length : Int) > 100) = false by simp; omega]; rfl
  rw [show decide ((l.length : Int) > 100) = false by simp; omega, show decide ((i.length : Int) > 100) = false by simp; omega, S_parent_Cut (by omega) (by omega)]
  simp only [Option.bind_some, Option.bind_none, Option.map_some, Option.map_none, cond_true, cond_false, binD_eql, binD_neq, binD_lss, binD_leq, binD_gtr, binD_geq, binD_add, binD_sub, binD_mul, asBool_bool, asInt_int, notD_bool, ext_0, ext_1, ext_2, loadRo_one, ofN_eq, elems_sl, Bool.and_true, Bool.true_and]
  have hcl : (cut l i).length ≤ l.length := List.length_filter_le ..
  have := upTo (G := fun j => fun (v : Int) (wr : Bool) => G_law08_ParentCuts_0 (l.map iD) (i.map iD) (.bool true) v j wr ((cut l i).map iD)) (n := l.length)
    (fun j g => ∀ wr, g (((cut (l.take j) i).length : Nat) : Int) wr = some (.bool true)) ?_ (fun j hj ih wr => ?_) 0 (by omega) true
  · simpa [cut] using this
  · intro wr
    simp only
    rw [G_law08_ParentCuts_0_eq]
    simp only [Option.bind_some, Option.bind_none, Option.map_some, Option.map_none, cond_true, cond_false, binD_eql, binD_neq, binD_lss, binD_leq, binD_gtr, binD_geq, binD_add, binD_sub, binD_mul, asBool_bool, asInt_int, notD_bool, ext_0, ext_1, ext_2, loadRo_one, ofN_eq, elems_sl, Bool.and_true, Bool.true_and, List.length_map, List.take_length, show decide ((l.length : Int) < (l.length : Int)) = false by simp, beq_self_eq_true, S_parent_Cut (l := cut l i) (i := i) (by omega) (by omega), cut_cut, S_ref02_Ints (a := cut l i) (b := cut l i) (by omega), decide_true,
      show F_parent_Cut [isD l, .sl []] = some ((cut l []).map iD) from S_parent_Cut (l := l) (i := []) (by omega) (by simp), cut_nil, S_ref02_Ints (a := l) (b := l) (by omega), S_parent_Cut (l := l) (i := l) (by omega) (by omega), cut_self, List.map_nil, List.length_nil]
    rfl
  · simp only at ih ⊢
    rw [G_law08_ParentCuts_0_eq, elemPtr_i hj]
    simp only [Option.bind_some, Option.bind_none, Option.map_some, Option.map_none, cond_true, cond_false, binD_eql, binD_neq, binD_lss, binD_leq, binD_gtr, binD_geq, binD_add, binD_sub, binD_mul, asBool_bool, asInt_int, notD_bool, ext_0, ext_1, ext_2, loadRo_one, ofN_eq, elems_sl, Bool.and_true, Bool.true_and, List.length_map, show decide ((j : Int) < (l.length : Int)) = true by simp; omega, S_ref08_Has (l := i) (i := l[j]) (by omega), wrap_next hj (show l.length ≤ 9223372036854775807 by omega)]
    have hs : cut (l.take (j + 1)) i = cut (l.take j) i ++ (if i.contains l[j] then [] else [l[j]]) := by rw [List.take_succ_eq_append_getElem hj, cut_snoc]
    cases hc : i.contains l[j] with
    | true =>
      rw [cond_true]
      have := ih wr
      rw [hs, hc] at this
      simpa using this
    | false =>
      rw [cond_false]
      rw [hc] at hs
      have hw : cut l i = cut (l.take (j + 1)) i ++ cut (l.drop (j + 1)) i := by unfold cut; rw [← List.filter_append, List.take_append_drop]
      have hlt : (cut (l.take j) i).length < (cut l i).length := by rw [hw, hs]; simp
      have hget : (cut l i)[(cut (l.take j) i).length]? = some l[j] := by rw [hw, hs]; simp
      have hx : ((cut l i).map iD)[(((cut (l.take j) i).length : Nat) : Int).toNat]? = some (iD l[j]) := by simp [hget]
      rw [show decide ((((cut (l.take j) i).length : Nat) : Int) ≥ ((cut l i).length : Int)) = false by simp; omega, cond_false,
        show decide ((0 : Int) ≤ (((cut (l.take j) i).length : Nat) : Int)) = true by simp, show decide ((((cut (l.take j) i).length : Nat) : Int) < ((cut l i).length : Int)) = true by simp; omega, Bool.and_self, cond_true, hx]
      have := ih false
      rw [hs] at this
      have hwn : IntKind.i64.wrap ((((cut (l.take j) i).length : Nat) : Int) + 1) = (((cut (l.take j) i).length + 1 : Nat) : Int) := wrap_next (n := (cut l i).length) hlt (by omega)
      simp only [Option.bind_some, Option.bind_none, Option.map_some, Option.map_none, cond_true, cond_false, binD_eql, binD_neq, binD_lss, binD_leq, binD_gtr, binD_geq, binD_add, binD_sub, binD_mul, asBool_bool, asInt_int, notD_bool, ext_0, ext_1, ext_2, loadRo_one, ofN_eq, elems_sl, Bool.and_true, Bool.true_and, D.cells, ofCells_one, elemPtr_i hj, ne_eq, not_true, decide_false, hwn]
      simpa using this
end Go.Proofs.Ytcnedmkfcbcjkaa.Ra
