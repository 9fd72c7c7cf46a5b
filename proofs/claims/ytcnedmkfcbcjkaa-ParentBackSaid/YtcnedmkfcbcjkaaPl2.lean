/- THE LEAST THAT IS NOT THERE YET, AGAIN AND AGAIN: numbers that rise. -/
import Derived.Test.YtcnedmkfcbcjkaaPl1
set_option linter.unusedVariables false
set_option linter.unusedSimpArgs false
namespace Go.Proofs.Ytcnedmkfcbcjkaa.Pl
/-- What a round knows of the least one. -/
def least1 (out : List Int) (acc : Option Int) (x : Int) : Option Int :=
  if x ∈ out then acc else match acc with
  | none => some x
  | some y => if x < y then some x else some y
def least (out l : List Int) (acc : Option Int) : Option Int := l.foldl (least1 out) acc
theorem least_none {out : List Int} : ∀ {l : List Int}, least out l none = none → ∀ x ∈ l, x ∈ out := by
  have key : ∀ (l : List Int) (y : Int), least out l (some y) ≠ none := by
    intro l
    induction l with
    | nil => intro y h; cases h
    | cons x l ih =>
      intro y h
      unfold least at h
      rw [List.foldl_cons] at h
      unfold least1 at h
      split at h
      · exact ih _ h
      · simp only at h
        split at h
        · exact ih _ h
        · exact ih _ h
  intro l
  induction l with
  | nil => simp
  | cons x l ih =>
    intro h
    unfold least at h
    rw [List.foldl_cons] at h
    by_cases hx : x ∈ out
    · have h1 : least1 out none x = none := by unfold least1; rw [if_pos hx]
      rw [h1] at h
      intro z hz
      rcases List.mem_cons.1 hz with rfl | hz
      · exact hx
      · exact ih h z hz
    · have h1 : least1 out none x = some x := by unfold least1; rw [if_neg hx]
      rw [h1] at h
      exact absurd h (key l x)
theorem least_some {out : List Int} : ∀ {l : List Int} {acc : Option Int} {m : Int}, least out l acc = some m →
    ((m ∈ l ∧ m ∉ out) ∨ acc = some m) ∧ (∀ x ∈ l, x ∉ out → m ≤ x) ∧ ∀ y, acc = some y → m ≤ y := by
  intro l
  induction l with
  | nil =>
    intro acc m h
    refine ⟨.inr h, by simp, fun y hy => ?_⟩
    rw [show least out [] acc = acc from rfl, hy] at h
    cases h
    exact Int.le_refl _
  | cons x l ih =>
    intro acc m h
    unfold least at h
    rw [List.foldl_cons] at h
    obtain ⟨h1, h2, h3⟩ := ih (show least out l (least1 out acc x) = some m from h)
    unfold least1 at h1 h3
    by_cases hx : x ∈ out
    · rw [if_pos hx] at h1 h3
      refine ⟨h1.imp (fun h => ⟨by simp [h.1], h.2⟩) id, fun z hz hn => ?_, h3⟩
      rcases List.mem_cons.1 hz with rfl | hz
      · exact absurd hx hn
      · exact h2 z hz hn
    · rw [if_neg hx] at h1 h3
      cases acc with
      | none =>
        refine ⟨.inl ?_, fun z hz hn => ?_, by simp⟩
        · rcases h1 with h1 | h1
          · exact ⟨by simp [h1.1], h1.2⟩
          · cases h1; exact ⟨by simp, hx⟩
        · rcases List.mem_cons.1 hz with rfl | hz
          · exact h3 _ rfl
          · exact h2 z hz hn
      | some y =>
        simp only at h1 h3
        split at h1
        · rename_i hlt
          rw [if_pos hlt] at h3
          refine ⟨.inl ?_, fun z hz hn => ?_, fun y' hy' => ?_⟩
          · rcases h1 with h1 | h1
            · exact ⟨by simp [h1.1], h1.2⟩
            · cases h1; exact ⟨by simp, hx⟩
          · rcases List.mem_cons.1 hz with rfl | hz
            · exact h3 _ rfl
            · exact h2 z hz hn
          · cases hy'
            have := h3 x rfl
            omega
        · rename_i hlt
          rw [if_neg hlt] at h3
          refine ⟨h1.imp (fun h => ⟨by simp [h.1], h.2⟩) id, fun z hz hn => ?_, h3⟩
          rcases List.mem_cons.1 hz with rfl | hz
          · have := h3 y rfl
            omega
          · exact h2 z hz hn
theorem nodup_le : ∀ {a b : List Int}, a.Nodup → (∀ x ∈ a, x ∈ b) → a.length ≤ b.length
  | [], b, _, _ => Nat.zero_le _
  | x :: a, b, h, hs => by
    rw [List.nodup_cons] at h
    have h1 := nodup_le (a := a) (b := b.erase x) h.2 fun z hz => by
      have hne : z ≠ x := by rintro rfl; exact h.1 hz
      exact (List.mem_erase_of_ne hne).2 (hs z (by simp [hz]))
    have h2 := List.length_erase_of_mem (hs x (by simp))
    have h3 : 0 < b.length := List.length_pos_of_mem (hs x (by simp))
    simp only [List.length_cons]
    omega
/-- What stands between two rounds. -/
structure Grown (all out : List Int) : Prop where
  rises : Rises out
  sub : ∀ x ∈ out, x ∈ all
  rest : ∀ x ∈ all, x ∉ out → ∀ y ∈ out, y < x
theorem Grown.start (all : List Int) : Grown all [] := ⟨.nil, by simp, by simp⟩
theorem Grown.done {all out : List Int} (h : Grown all out) (hs : ∀ x ∈ all, x ∈ out) : out = thin all :=
  rises_ext h.rises (rises_thin _) fun z => by rw [mem_thin]; exact ⟨h.sub z, hs z⟩
theorem Grown.full {all out : List Int} (h : Grown all out) (hl : all.length ≤ out.length) : out = thin all := by
  refine h.done fun x hx => ?_
  refine Classical.byContradiction fun hn => ?_
  have hnd : (x :: out).Nodup := List.nodup_cons.2 ⟨hn, h.rises.imp fun h => by omega⟩
  have := nodup_le hnd (b := all) fun z hz => by
    rcases List.mem_cons.1 hz with rfl | hz
    · exact hx
    · exact h.sub z hz
  simp only [List.length_cons] at this
  omega
theorem Grown.step {all out : List Int} (h : Grown all out) {m : Int} (hm : least out all none = some m) : Grown all (out ++ [m]) := by
  obtain ⟨h1, h2, _⟩ := least_some hm
  obtain ⟨h1, h1'⟩ := h1.resolve_right (by simp)
  refine ⟨List.pairwise_append.2 ⟨h.rises, List.pairwise_singleton _ _, fun y hy z hz => ?_⟩, fun x hx => ?_, fun x hx hn y hy => ?_⟩
  · rw [List.mem_singleton.1 hz]; exact h.rest m h1 h1' y hy
  · rcases List.mem_append.1 hx with hx | hx
    · exact h.sub x hx
    · rw [List.mem_singleton.1 hx]; exact h1
  · simp only [List.mem_append, List.mem_singleton, not_or] at hn
    rcases List.mem_append.1 hy with hy | hy
    · exact h.rest x hx hn.1 y hy
    · rw [List.mem_singleton.1 hy]
      have := h2 x hx hn.1
      have := hn.2
      omega
end Go.Proofs.Ytcnedmkfcbcjkaa.Pl
