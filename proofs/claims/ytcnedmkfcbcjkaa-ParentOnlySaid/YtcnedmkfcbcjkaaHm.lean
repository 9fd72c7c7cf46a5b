/- The library's 'compact' and ours; lists of numbers among data. -/
import Derived.Lib.SlicesCompact
import Derived.Test.YtcnedmkfcbcjkaaSp0
import Derived.Test.YtcnedmkfcbcjkaaPl1
import Derived.Test.YtcnedmkfcbcjkaaRgc
set_option linter.unusedVariables false
set_option linter.unusedSimpArgs false
namespace Go.Proofs.Ytcnedmkfcbcjkaa.Ra
open Go
set_option linter.unusedVariables false
theorem pl_compact_snoc (z : Int) : ∀ l : List Int, Pl.compact (l ++ [z]) = Pl.compact l ++ (if l = [] ∨ l.getLast? ≠ some z then [z] else [])
  | [] => by simp [Pl.compact]
  | [x] => by
    simp only [List.cons_append, List.nil_append, Pl.compact]
    by_cases h : x = z
    · subst h; simp
    · simp [h]
  | x :: y :: l => by
    have ih := pl_compact_snoc z (y :: l)
    simp only [List.cons_append] at ih ⊢
    simp only [Pl.compact]
    by_cases h : x = y
    · subst h
      simp only [if_true]
      rw [ih]
      simp
    · simp only [h, if_false]
      rw [ih]
      simp
theorem lib_compactUpTo_congr {d e : Array Int} : ∀ m : Nat, (∀ j, j < m → d[j]! = e[j]!) → Lib.compactUpTo d m = Lib.compactUpTo e m
  | 0, _ => rfl
  | m + 1, h => by
    rw [Lib.compactUpTo_succ, Lib.compactUpTo_succ, lib_compactUpTo_congr m fun j hj => h j (by omega)]
    have hk : Lib.keeps d m = Lib.keeps e m := by
      unfold Lib.keeps
      rw [h m (by omega)]
      cases m with
      | zero => simp
      | succ m => rw [h (m + 1 - 1) (by omega)]
    rw [hk, h m (by omega)]
theorem lib_compact_snoc (z : Int) (l : List Int) : Lib.compact (l ++ [z]) = Lib.compact l ++ (if l = [] ∨ l.getLast? ≠ some z then [z] else []) := by
  unfold Lib.compact
  rw [List.length_append, List.length_singleton, Lib.compactUpTo_succ]
  congr 1
  · refine lib_compactUpTo_congr _ fun j hj => ?_
    simp [getElem!_pos, hj, List.getElem_append_left, show j < l.length + 1 by omega]
  · have e1 : (l ++ [z]).toArray[l.length]! = z := by simp
    rw [e1]
    have hk : Lib.keeps (l ++ [z]).toArray l.length = decide (l = [] ∨ l.getLast? ≠ some z) := by
      unfold Lib.keeps
      rw [e1]
      rcases List.eq_nil_or_concat l with rfl | ⟨l, x, rfl⟩
      · simp
      · simp [getElem!_pos]
        by_cases h : x = z
        · simp [h]
        · simp [h, Ne.symm h]
    rw [hk]
    by_cases h : l = [] ∨ l.getLast? ≠ some z
    · simp only [h, decide_true, if_true]
    · simp only [h, decide_false, if_false]; rfl
theorem compact_eq (l : List Int) : Lib.compact l = Pl.compact l := by
  have : ∀ n (l : List Int), l.length = n → Lib.compact l = Pl.compact l := by
    intro n
    induction n with
    | zero => intro l h; cases List.length_eq_zero_iff.1 h; rfl
    | succ n ih =>
      intro l h
      rcases List.eq_nil_or_concat l with rfl | ⟨l, x, rfl⟩
      · rfl
      · rw [List.concat_eq_append, lib_compact_snoc, pl_compact_snoc, ih l (by simpa using h)]
  exact this _ l rfl
noncomputable def A_IndexFunc_none := A_slices_IndexFunc_int
def ints? : List D → Option (List Int)
  | [] => some []
  | .int .i64 z :: r => (ints? r).map (z :: ·)
  | _ => none
theorem ints?_map : ∀ l : List Int, ints? (l.map iD) = some l
  | [] => rfl
  | z :: l => by simp [ints?, ints?_map l]
theorem ints?_some : ∀ {ds : List D} {l : List Int}, ints? ds = some l → ds = l.map iD
  | [], l, h => by cases h; rfl
  | d :: ds, l, h => by
    unfold ints? at h
    split at h
    · rename_i e; cases e
    · rename_i z r e
      cases e
      obtain ⟨l', h1, rfl⟩ := Option.map_eq_some_iff.1 h
      rw [ints?_some h1]
      rfl
    · cases h
theorem ints_one (l : List Int) : (l.map iD).all D.one = true := by simp [List.all_eq_true, D.one]
theorem rep_int {w : World} {p : Nat → Nat → Prop} {k : IntKind} {z : Int} {u : Value} (h : Rep w p (.int k z) u) : u = .int k z := by cases h; rfl
end Go.Proofs.Ytcnedmkfcbcjkaa.Ra
