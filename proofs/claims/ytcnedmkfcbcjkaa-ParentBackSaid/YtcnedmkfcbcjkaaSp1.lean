/- WHAT THE DOCUMENT's FUNCTIONS ON NUMBERS COMPUTE (cordwoodref08, cordwoodref02.Ints). -/
import Derived.Test.YtcnedmkfcbcjkaaRga
import Derived.Test.YtcnedmkfcbcjkaaSp0
set_option linter.unusedVariables false
set_option linter.unusedSimpArgs false
namespace Go.Proofs.Ytcnedmkfcbcjkaa.Ra
open Go Go.RowKit Go.Proofs.Ytcnedmkfcbcjkaa.Pl
set_option linter.unusedSimpArgs false
theorem in_map {α : Type} {f : α → D} {l : List α} {k : Nat} (h : k < l.length) : decide ((k : Int) < ((l.map f).length : Int)) = true := by simp [h]
theorem end_map {α : Type} {f : α → D} {l : List α} : decide ((l.length : Int) < ((l.map f).length : Int)) = false := by simp
theorem in_len {n k : Nat} (h : k < n) : decide ((k : Int) < (n : Int)) = true := by simp [h]
theorem end_len {n : Nat} : decide ((n : Int) < (n : Int)) = false := by simp
theorem S_ref08_Has {l : List Int} {i : Int} (hl : l.length ≤ 9223372036854775807) : F_ref08_Has [isD l, iD i] = some (.bool (l.contains i)) := by
  rw [F_ref08_Has_eq]
  refine upTo (G := G_ref08_Has_0 (l.map iD) i) (n := l.length) (fun k r => r = some (.bool ((l.drop k).contains i))) ?_ (fun k hk ih => ?_) 0 (by omega)
  · rw [G_ref08_Has_0_eq]
    simp
  · rw [G_ref08_Has_0_eq, elemPtr_i hk]
    simp only [Option.bind_some, Option.bind_none, Option.map_some, Option.map_none, cond_true, cond_false, binD_eql, binD_neq, binD_lss, binD_leq, binD_gtr, binD_geq, binD_add, binD_sub, binD_mul, asBool_bool, asInt_int, notD_bool, ext_0, ext_1, ext_2, loadRo_one, ofN_eq, elems_sl, Bool.and_true, Bool.true_and, in_map hk, wrap_next hk hl, ih]
    rw [List.drop_eq_getElem_cons hk, List.contains_cons]
    by_cases h : l[k] = i
    · simp [h]
    · simp [h, show ¬ i = l[k] from fun e => h e.symm]
theorem S_ref02_Ints {a b : List Int} (hl : a.length ≤ 9223372036854775807) : F_ref02_Ints [isD a, isD b] = some (.bool (decide (a = b))) := by
  rw [F_ref02_Ints_eq]
  by_cases h : a.length = b.length
  · have e : (ofN (a.map iD).length != ofN (b.map iD).length) = false := by simp [h]
    rw [e]
    simp only [cond_false]
    have := upTo (G := G_ref02_Ints_0 (a.map iD) (b.map iD)) (n := a.length) (fun k r => r = some (.bool (decide (a.drop k = b.drop k)))) ?_ (fun k hk ih => ?_) 0 (by omega)
    · simpa using this
    · rw [G_ref02_Ints_0_eq]
      simp [h]
    · have hk' : k < b.length := by omega
      rw [G_ref02_Ints_0_eq, elemPtr_i hk, elemPtr_i hk']
      simp only [Option.bind_some, Option.bind_none, Option.map_some, Option.map_none, cond_true, cond_false, binD_eql, binD_neq, binD_lss, binD_leq, binD_gtr, binD_geq, binD_add, binD_sub, binD_mul, asBool_bool, asInt_int, notD_bool, ext_0, ext_1, ext_2, loadRo_one, ofN_eq, elems_sl, Bool.and_true, Bool.true_and, in_map hk, wrap_next hk hl, ih]
      rw [List.drop_eq_getElem_cons hk, List.drop_eq_getElem_cons hk']
      simp only [List.cons.injEq]
      by_cases e : a[k] = b[k]
      · simp [e]
      · simp [e]
  · have e : (ofN (a.map iD).length != ofN (b.map iD).length) = true := by
      simp only [bne_iff_ne, ne_eq, List.length_map, ofN_eq]
      omega
    rw [e]
    have : ¬ a = b := fun e => h (by rw [e])
    simp [this]
theorem S_ref08_Cut {l i : List Int} (hl : l.length ≤ 1000) (hi : i.length ≤ 1000) : F_ref08_Cut [isD l, isD i] = some (isD (cut l i)) := by
  rw [F_ref08_Cut_eq]
  have := upTo (G := G_ref08_Cut_0 (l.map iD) (i.map iD)) (n := l.length) (fun k g => ∀ out : List Int, out.length ≤ k → g (out.map iD) = some (isD (out ++ cut (l.drop k) i))) ?_ (fun k hk ih out ho => ?_) 0 (by omega) [] (by simp)
  · simpa using this
  · intro out _
    rw [G_ref08_Cut_0_eq]
    simp [cut]
  · rw [G_ref08_Cut_0_eq, elemPtr_i hk]
    have hr : decide (((out.map iD).length + [iD l[k]].length) * 8 ≤ 140737488355328) = true := by simp; omega
    have e1 := ih (out ++ [l[k]]) (by simp; omega)
    rw [List.map_append] at e1
    have e2 := ih out (by omega)
    simp only [Option.bind_some, Option.bind_none, Option.map_some, Option.map_none, cond_true, cond_false, binD_eql, binD_neq, binD_lss, binD_leq, binD_gtr, binD_geq, binD_add, binD_sub, binD_mul, asBool_bool, asInt_int, notD_bool, ext_0, ext_1, ext_2, loadRo_one, ofN_eq, elems_sl, Bool.and_true, Bool.true_and, in_map hk, wrap_next hk (show l.length ≤ 9223372036854775807 by omega), S_ref08_Has (show i.length ≤ 9223372036854775807 by omega), hr, all1_iD, List.map_cons, List.map_nil] at e1 ⊢
    rw [List.drop_eq_getElem_cons hk]
    unfold cut at e1 e2 ⊢
    cases h : i.contains l[k] with
    | true => rw [List.filter_cons_of_neg (by rw [h]; decide)]; exact e2
    | false =>
      rw [List.filter_cons_of_pos (by rw [h]; rfl)]
      simpa using e1
/-! ### A node that is no leaf. -/
abbrev innerC (n : Inner) : List D := [ysD n.enc, ysD n.hash, isD n.un]
abbrev innerD (n : Inner) : D := .agg (innerC n)
theorem rises_get {u : List Int} (h : ∀ k (hk : k + 1 < u.length), u[k] < u[k + 1]) : Rises u := by
  refine List.pairwise_iff_getElem.2 fun i j hi hj hij => ?_
  induction j with
  | zero => omega
  | succ j ih =>
    rcases Nat.lt_or_ge i j with hlt | hge
    · have := ih (by omega) hlt
      have := h j hj
      omega
    · obtain rfl : i = j := by omega
      exact h i hj
theorem S_ref08_Check {n : Inner} (hu : n.un.length ≤ 9223372036854775807) : F_ref08_Check [innerD n] = some (iD n.check) := by
  rw [F_ref08_Check_eq]
  unfold Inner.check
  by_cases h1 : n.enc = []
  · simp [h1]
  · have e1 : (ofN (n.enc.map yD).length == 0) = false := by
      have := List.length_pos_iff.2 h1
      simp only [List.length_map, ofN_eq, beq_eq_false_iff_ne, ne_eq]
      omega
    rw [e1, if_neg h1]
    simp only [cond_false, List.length_map, ofN_eq]
    by_cases h2 : n.enc.length > 200
    · simp [h2, show (200 : Int) < n.enc.length by omega]
    by_cases h3 : n.hash.length > 200
    · simp [h3, show ¬ (200 : Int) < n.enc.length by omega, show (200 : Int) < n.hash.length by omega]
    by_cases h4 : n.un.length > 64
    · simp [h4, show ¬ (200 : Int) < n.enc.length by omega, show ¬ (200 : Int) < n.hash.length by omega, show (64 : Int) < n.un.length by omega]
    rw [show decide ((n.enc.length : Int) > 200) = false by simp; omega, show decide ((n.hash.length : Int) > 200) = false by simp; omega, show decide ((n.un.length : Int) > 64) = false by simp; omega, if_neg (by omega)]
    simp only [cond_false]
    have last : (Rises n.un → G_ref08_Check_2 1 (n.enc.map yD) (n.hash.map yD) (n.un.map iD) = some (iD 0)) ∧ (¬ Rises n.un → G_ref08_Check_2 1 (n.enc.map yD) (n.hash.map yD) (n.un.map iD) = some (iD 8)) := by
      by_cases hnil : n.un = []
      · rw [G_ref08_Check_2_eq]
        simp [hnil]
      · have hpos := List.length_pos_iff.2 hnil
        have := upTo (G := fun v => G_ref08_Check_2 v (n.enc.map yD) (n.hash.map yD) (n.un.map iD)) (n := n.un.length)
          (fun k r => 1 ≤ k → ((∀ j (hj : j + 1 < n.un.length), k ≤ j + 1 → n.un[j] < n.un[j + 1]) → r = some (iD 0)) ∧ (¬ (∀ j (hj : j + 1 < n.un.length), k ≤ j + 1 → n.un[j] < n.un[j + 1]) → r = some (iD 8))) ?_ (fun k hk ih h1k => ?_) 1 (by omega) (Nat.le_refl _)
        · exact ⟨fun hr => this.1 fun j hj _ => List.pairwise_iff_getElem.1 hr j (j + 1) (by omega) hj (by omega), fun hr => this.2 fun h => hr (rises_get fun k hk => h k hk (by omega))⟩
        · intro _
          refine ⟨fun _ => ?_, fun h => absurd (fun j hj hh => by omega) h⟩
          show G_ref08_Check_2 _ _ _ _ = _
          rw [G_ref08_Check_2_eq]
          simp only [ofN_eq, List.length_map, end_len, cond_false]
        · show (_ → G_ref08_Check_2 _ _ _ _ = _) ∧ (_ → G_ref08_Check_2 _ _ _ _ = _)
          have e2 : IntKind.i64.wrap ((k : Int) - 1) = ((k - 1 : Nat) : Int) := by rw [wrap64_id (by omega) (by omega)]; omega
          obtain ⟨i1, i2⟩ := ih (by omega)
          rw [G_ref08_Check_2_eq, e2, elemPtr_i (show k - 1 < n.un.length by omega), elemPtr_i hk]
          simp only [Option.bind_some, Option.bind_none, Option.map_some, Option.map_none, cond_true, cond_false, binD_eql, binD_neq, binD_lss, binD_leq, binD_gtr, binD_geq, binD_add, binD_sub, binD_mul, asBool_bool, asInt_int, notD_bool, ext_0, ext_1, ext_2, loadRo_one, ofN_eq, elems_sl, Bool.and_true, Bool.true_and, in_map hk, wrap_next hk hu]
          have hpk : k - 1 + 1 = k := by omega
          by_cases hlt : n.un[k - 1] < n.un[k]
          · rw [show decide (n.un[k - 1] ≥ n.un[k]) = false by simp; omega]
            simp only [cond_false]
            refine ⟨fun h => i1 fun j hj hkj => h j hj (by omega), fun h => i2 fun h' => h fun j hj hkj => ?_⟩
            by_cases e : k = j + 1
            · subst e; exact hlt
            · exact h' j hj (by omega)
          · rw [show decide (n.un[k - 1] ≥ n.un[k]) = true by simp; omega]
            refine ⟨fun h => absurd ?_ hlt, fun _ => rfl⟩
            have := h (k - 1) (by omega) (by omega)
            simpa only [hpk] using this
    have first := upTo (G := fun v => G_ref08_Check_0 v (n.enc.map yD) (n.hash.map yD) (n.un.map iD)) (n := n.un.length)
      (fun k r => ((∃ i ∈ n.un.drop k, i < 0 ∨ i > 63) → r = some (iD 3)) ∧ (¬ (∃ i ∈ n.un.drop k, i < 0 ∨ i > 63) → r = G_ref08_Check_2 1 (n.enc.map yD) (n.hash.map yD) (n.un.map iD))) ?_ (fun k hk ih => ?_) 0 (by omega)
    · obtain ⟨f1, f2⟩ := first
      simp only [List.drop_zero] at f1 f2
      by_cases hb : ∃ i ∈ n.un, i < 0 ∨ i > 63
      · rw [if_pos hb]; exact f1 hb
      · rw [if_neg hb]
        by_cases hr : Rises n.un
        · rw [if_pos hr]; exact (f2 hb).trans (last.1 hr)
        · rw [if_neg hr]; exact (f2 hb).trans (last.2 hr)
    · refine ⟨fun ⟨i, hi, _⟩ => by simp at hi, fun _ => ?_⟩
      show G_ref08_Check_0 _ _ _ _ = _
      rw [G_ref08_Check_0_eq]
      simp only [ofN_eq, List.length_map, end_len, cond_false]
    · show (_ → G_ref08_Check_0 _ _ _ _ = _) ∧ (_ → G_ref08_Check_0 _ _ _ _ = _)
      obtain ⟨i1, i2⟩ := ih
      rw [G_ref08_Check_0_eq, elemPtr_i hk]
      simp only [Option.bind_some, Option.bind_none, Option.map_some, Option.map_none, cond_true, cond_false, binD_eql, binD_neq, binD_lss, binD_leq, binD_gtr, binD_geq, binD_add, binD_sub, binD_mul, asBool_bool, asInt_int, notD_bool, ext_0, ext_1, ext_2, loadRo_one, ofN_eq, elems_sl, Bool.and_true, Bool.true_and, in_map hk, wrap_next hk hu]
      rw [List.drop_eq_getElem_cons hk]
      simp only [List.mem_cons, exists_eq_or_imp]
      by_cases hb : n.un[k] < 0
      · simp [hb]
      · by_cases hc : n.un[k] > 63
        · rw [show decide (n.un[k] < 0) = false by simpa using hb, show decide (n.un[k] > 63) = true by simpa using hc]
          simp [hc]
        · rw [show decide (n.un[k] < 0) = false by simpa using hb, show decide (n.un[k] > 63) = false by simpa using hc]
          simp only [cond_false]
          exact ⟨fun h => i1 (h.resolve_left (by omega)), fun h => i2 fun h' => h (.inr h')⟩
theorem S_ref08_Same {a b : Inner} (hl : a.un.length ≤ 9223372036854775807) : F_ref08_Same [innerD a, innerD b] = some (.bool (decide (a = b))) := by
  rw [F_ref08_Same_eq]
  simp only [convD_text, binD_str_eql, Option.bind_some, Option.bind_none, Option.map_some, Option.map_none, cond_true, cond_false, binD_eql, binD_neq, binD_lss, binD_leq, binD_gtr, binD_geq, binD_add, binD_sub, binD_mul, asBool_bool, asInt_int, notD_bool, ext_0, ext_1, ext_2, loadRo_one, ofN_eq, elems_sl, Bool.and_true, Bool.true_and, S_ref02_Ints hl, tupOf_one]
  obtain ⟨a1, a2, a3⟩ := a
  obtain ⟨b1, b2, b3⟩ := b
  simp only [Inner.mk.injEq]
  by_cases e1 : a1 = b1
  · by_cases e2 : a2 = b2
    · simp [e1, e2]
    · simp [e1, e2]
  · simp [e1]
theorem S_ref08_Few {n : Inner} (h1 : n.enc.length ≤ 140737488355328) (h2 : n.hash.length ≤ 140737488355328) (h3 : n.un.length ≤ 140737488355328) :
    F_ref08_Few [innerD n] = some (.bool (decide (n.enc.length + n.hash.length + n.un.length ≤ 600))) := by
  rw [F_ref08_Few_eq]
  simp only [List.length_map, ofN_eq]
  rw [wrap64_id (z := (n.enc.length : Int) + n.hash.length) (by omega) (by omega), wrap64_id (by omega) (by omega)]
  congr 2
  rw [decide_eq_decide]
  omega
end Go.Proofs.Ytcnedmkfcbcjkaa.Ra
