/- WHAT THE LAW ParentJoin ANSWERS. -/
import Derived.Test.YtcnedmkfcbcjkaaSp7
set_option linter.unusedVariables false
set_option linter.unusedSimpArgs false
namespace Go.Proofs.Ytcnedmkfcbcjkaa.Ra
open Go Go.RowKit Go.Proofs.Ytcnedmkfcbcjkaa.Pl
theorem S_at {m : List Int} {k : Nat} (hk : k < m.length) : (m.map iD)[((k : Nat) : Int).toNat]? = some (iD m[k]) := by simp [hk]
theorem join_len (l : List Int) (i : Int) : (join l i).length ≤ l.length + 1 := by
  unfold join thin
  have h1 := Lib.compact_length_le ((l ++ [i]).mergeSort fun x y => decide (x ≤ y))
  rw [compact_eq, List.length_mergeSort] at h1
  simpa using h1
theorem L_ParentJoin (l : List Int) (i k : Int) (hl : l.length ≤ 9223372036854775807) : F_law08_ParentJoin [isD l, iD i, iD k] = some (.bool true) := by
  rw [F_law08_ParentJoin_eq]
  simp only [S_law08_awake, Option.bind_some, Option.bind_none, Option.map_some, Option.map_none, cond_true, cond_false, binD_eql, binD_neq, binD_lss, binD_leq, binD_gtr, binD_geq, binD_add, binD_sub, binD_mul, asBool_bool, asInt_int, notD_bool, ext_0, ext_1, ext_2, loadRo_one, ofN_eq, elems_sl, Bool.and_true, Bool.true_and, List.length_map, tupOf_one]
  by_cases h1 : l.length > 100
  · rw [show decide ((l.length : Int) > 100) = true by simp; omega]; rfl
  rw [show decide ((l.length : Int) > 100) = false by simp; omega, S_parent_Join (by omega)]
  simp only [Option.bind_some, Option.bind_none, Option.map_some, Option.map_none, cond_true, cond_false, binD_eql, binD_neq, binD_lss, binD_leq, binD_gtr, binD_geq, binD_add, binD_sub, binD_mul, asBool_bool, asInt_int, notD_bool, ext_0, ext_1, ext_2, loadRo_one, ofN_eq, elems_sl, Bool.and_true, Bool.true_and]
  have hm := join_len l i
  have hi : i ∈ join l i := mem_join.2 (.inr rfl)
  have hr : Rises (join l i) := rises_thin _
  have hj : join (join l i) i = join l i := join_mem hr hi
  have hjc : join (cut (join l i) [i]) i = join l i := join_cut hr hi
  have hcl := cut_len hr hi
  have hc2 : (cut (join l i) [i]).length ≤ 200 := by omega
  have hcn : (cut (join l i) [i]).contains i = false := by
    cases h : (cut (join l i) [i]).contains i with
    | false => rfl
    | true => exact absurd (mem_cut.1 (by simpa using h)).2 (by simp)
  have hcm : (join l i).contains i = true := by simpa using hi
  have hjk := join_len l k
  have hjik := join_len (join l i) k
  have last : ∀ n, n = l.length → ∀ wr, G_law08_ParentJoin_2 (l.map iD) i k (.bool true) (n : Int) wr ((join l i).map iD) = some (.bool true) := by
    intro n hn wr
    subst hn
    rw [G_law08_ParentJoin_2_eq]
    simp only [Option.bind_some, Option.bind_none, Option.map_some, Option.map_none, cond_true, cond_false, binD_eql, binD_neq, binD_lss, binD_leq, binD_gtr, binD_geq, binD_add, binD_sub, binD_mul, asBool_bool, asInt_int, notD_bool, ext_0, ext_1, ext_2, loadRo_one, ofN_eq, elems_sl, Bool.and_true, Bool.true_and, List.length_map, show decide ((l.length : Int) < (l.length : Int)) = false by simp,
      show F_parent_Cut [isD (join l i), .sl [.int .i64 i]] = some ((cut (join l i) [i]).map iD) from S_parent_Cut (l := join l i) (i := [i]) (by omega) (by simp),
      S_ref08_Has (l := join l i) (i := i) (by omega), hcm, S_ref08_Has (l := cut (join l i) [i]) (i := i) (by omega), hcn, Bool.not_false,
      S_parent_Join (l := join l i) (i := i) (by omega), hj, S_ref02_Ints (a := join l i) (b := join l i) (by omega), decide_true, S_parent_Join (l := cut (join l i) [i]) (i := i) (by omega), hjc,
      S_parent_Join (l := l) (i := i) (by omega), S_parent_Join (l := join l i) (i := k) (by omega), S_parent_Join (l := l) (i := k) (by omega), S_parent_Join (l := join l k) (i := i) (by omega), join_comm l k i,
      S_ref02_Ints (a := join (join l i) k) (b := join (join l i) k) (by omega), tupOf_one]
    have hw : IntKind.i64.wrap (((join l i).length : Int) - 1) = ((cut (join l i) [i]).length : Int) := by rw [wrap64_id (by omega) (by omega)]; omega
    rw [hw]
    simp
  have second : ∀ wr, G_law08_ParentJoin_2 (l.map iD) i k (.bool true) 0 wr ((join l i).map iD) = some (.bool true) := by
    refine upTo (G := fun v => fun (wr : Bool) => G_law08_ParentJoin_2 (l.map iD) i k (.bool true) v wr ((join l i).map iD)) (n := l.length)
      (fun j g => ∀ wr, g wr = some (.bool true)) (last _ rfl) (fun j hj ih wr => ?_) 0 (by omega)
    simp only at ih ⊢
    have hmem : (join l i).contains l[j] = true := by simpa using mem_join.2 (.inl (List.getElem_mem hj))
    rw [G_law08_ParentJoin_2_eq, elemPtr_i hj]
    simp only [Option.bind_some, Option.bind_none, Option.map_some, Option.map_none, cond_true, cond_false, binD_eql, binD_neq, binD_lss, binD_leq, binD_gtr, binD_geq, binD_add, binD_sub, binD_mul, asBool_bool, asInt_int, notD_bool, ext_0, ext_1, ext_2, loadRo_one, ofN_eq, elems_sl, Bool.and_true, Bool.true_and, List.length_map, show decide ((j : Int) < (l.length : Int)) = true by simp; omega, S_ref08_Has (l := join l i) (i := l[j]) (by omega), hmem, Bool.not_true, wrap_next hj (show l.length ≤ 9223372036854775807 by omega)]
    exact ih false
  refine upTo (G := fun v => fun (wr : Bool) => G_law08_ParentJoin_0 (l.map iD) i k (.bool true) v wr ((join l i).map iD)) (n := (join l i).length)
    (fun j g => ∀ wr, g wr = some (.bool true)) (fun wr => ?_) (fun j hj ih wr => ?_) 0 (by omega) true
  · simp only
    rw [G_law08_ParentJoin_0_eq]
    simp only [Option.bind_some, Option.bind_none, Option.map_some, Option.map_none, cond_true, cond_false, binD_eql, binD_neq, binD_lss, binD_leq, binD_gtr, binD_geq, binD_add, binD_sub, binD_mul, asBool_bool, asInt_int, notD_bool, ext_0, ext_1, ext_2, loadRo_one, ofN_eq, elems_sl, Bool.and_true, Bool.true_and, List.length_map, show decide (((join l i).length : Int) < ((join l i).length : Int)) = false by simp]
    exact second wr
  · simp only at ih ⊢
    rw [G_law08_ParentJoin_0_eq]
    have hlt : decide ((j : Int) < ((join l i).length : Int)) = true := by simp; omega
    have hpos : decide ((0 : Int) ≤ (j : Int)) = true := by simp
    have hhas : (join l i)[j] ≠ i → l.contains (join l i)[j] = true := fun hne => by
      rcases mem_join.1 (List.getElem_mem hj) with h | h
      · simpa using h
      · exact absurd h hne
    by_cases h0 : 0 < j
    · have hp : j - 1 < (join l i).length := by omega
      have hw : IntKind.i64.wrap ((j : Int) - 1) = ((j - 1 : Nat) : Int) := by rw [wrap64_id (by omega) (by omega)]; omega
      have hrise : (join l i)[j - 1] < (join l i)[j] := List.pairwise_iff_getElem.1 hr (j - 1) j hp hj (by omega)
      have hlt' : decide (((j - 1 : Nat) : Int) < ((join l i).length : Int)) = true := by simp; omega
      have hpos' : decide ((0 : Int) ≤ ((j - 1 : Nat) : Int)) = true := by simp
      simp only [Option.bind_some, Option.bind_none, Option.map_some, Option.map_none, cond_true, cond_false, binD_eql, binD_neq, binD_lss, binD_leq, binD_gtr, binD_geq, binD_add, binD_sub, binD_mul, asBool_bool, asInt_int, notD_bool, ext_0, ext_1, ext_2, loadRo_one, ofN_eq, elems_sl, Bool.and_true, Bool.true_and, List.length_map, hlt, hpos, hw, hlt', hpos', S_at hj, S_at hp, D.cells, ofCells_one, show decide ((j : Int) > 0) = true by simp; omega,
        show decide ((join l i)[j - 1] ≥ (join l i)[j]) = false by simp; omega, wrap_next hj (show (join l i).length ≤ 9223372036854775807 by omega), S_ref08_Has (l := l) (i := (join l i)[j]) (by omega)]
      by_cases hne : (join l i)[j] = i
      · rw [show decide ((join l i)[j] ≠ i) = false by simp [hne]]
        exact ih false
      · rw [show decide ((join l i)[j] ≠ i) = true by simp [hne], hhas hne]
        exact ih false
    · have hj0 : j = 0 := by omega
      simp only [Option.bind_some, Option.bind_none, Option.map_some, Option.map_none, cond_true, cond_false, binD_eql, binD_neq, binD_lss, binD_leq, binD_gtr, binD_geq, binD_add, binD_sub, binD_mul, asBool_bool, asInt_int, notD_bool, ext_0, ext_1, ext_2, loadRo_one, ofN_eq, elems_sl, Bool.and_true, Bool.true_and, List.length_map, hlt, hpos, S_at hj, D.cells, ofCells_one, show decide ((j : Int) > 0) = false by simp; omega,
        wrap_next hj (show (join l i).length ≤ 9223372036854775807 by omega), S_ref08_Has (l := l) (i := (join l i)[j]) (by omega)]
      by_cases hne : (join l i)[j] = i
      · rw [show decide ((join l i)[j] ≠ i) = false by simp [hne]]
        exact ih false
      · rw [show decide ((join l i)[j] ≠ i) = true by simp [hne], hhas hne]
        exact ih false
end Go.Proofs.Ytcnedmkfcbcjkaa.Ra
