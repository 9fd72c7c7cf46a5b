/- LISTS OF NUMBERS THAT RISE; a node that is no leaf. -/
import Derived.Test.YtcnedmkfcbcjkaaPl0
set_option linter.unusedVariables false
set_option linter.unusedSimpArgs false
namespace Go.Proofs.Ytcnedmkfcbcjkaa.Pl
abbrev Rises (l : List Int) : Prop := l.Pairwise (· < ·)
/-- Neighbours that are alike, once. -/
def compact : List Int → List Int
  | x :: y :: l => if x = y then compact (y :: l) else x :: compact (y :: l)
  | l => l
def thin (l : List Int) : List Int := compact (l.mergeSort fun x y => decide (x ≤ y))
theorem mem_compact : ∀ {l : List Int} {z : Int}, z ∈ compact l ↔ z ∈ l
  | [], z => Iff.rfl
  | [_], z => Iff.rfl
  | x :: y :: l, z => by
    unfold compact
    split
    · rename_i h; subst h
      rw [mem_compact]
      simp
    · rw [List.mem_cons, mem_compact, List.mem_cons (b := x)]
theorem rises_compact : ∀ {l : List Int}, l.Pairwise (· ≤ ·) → Rises (compact l)
  | [], _ => .nil
  | [_], _ => List.pairwise_singleton _ _
  | x :: y :: l, h => by
    unfold compact
    rw [List.pairwise_cons] at h
    split
    · exact rises_compact h.2
    · rename_i hne
      refine List.pairwise_cons.2 ⟨fun z hz => ?_, rises_compact h.2⟩
      have h1 := h.1 y (by simp)
      rcases List.mem_cons.1 (mem_compact.1 hz) with rfl | hz
      · omega
      · have := (List.pairwise_cons.1 h.2).1 z hz
        omega
theorem mem_thin {l : List Int} {z : Int} : z ∈ thin l ↔ z ∈ l := by
  unfold thin
  rw [mem_compact, List.mem_mergeSort]
theorem rises_thin (l : List Int) : Rises (thin l) := by
  refine rises_compact ?_
  have := List.pairwise_mergeSort (le := fun x y : Int => decide (x ≤ y)) (by simp; omega) (by simp; omega) l
  simpa using this
theorem rises_ext : ∀ {a b : List Int}, Rises a → Rises b → (∀ z, z ∈ a ↔ z ∈ b) → a = b
  | [], [], _, _, _ => rfl
  | [], y :: b, _, _, h => absurd ((h y).2 (by simp)) (by simp)
  | x :: a, [], _, _, h => absurd ((h x).1 (by simp)) (by simp)
  | x :: a, y :: b, ha, hb, h => by
    rw [Rises, List.pairwise_cons] at ha hb
    have hxy : x = y := by
      have h1 := (h x).1 (by simp)
      have h2 := (h y).2 (by simp)
      rcases List.mem_cons.1 h1 with h1 | h1
      · exact h1
      · rcases List.mem_cons.1 h2 with h2 | h2
        · exact h2.symm
        · have := ha.1 y h2; have := hb.1 x h1; omega
    subst hxy
    congr 1
    refine rises_ext ha.2 hb.2 fun z => ?_
    have hz := h z
    simp only [List.mem_cons] at hz
    constructor
    · intro hm
      rcases hz.1 (.inr hm) with rfl | h'
      · have := ha.1 z hm; omega
      · exact h'
    · intro hm
      rcases hz.2 (.inr hm) with rfl | h'
      · have := hb.1 z hm; omega
      · exact h'
theorem thin_rises {l : List Int} (h : Rises l) : thin l = l := rises_ext (rises_thin l) h fun _ => mem_thin
theorem thin_eq {l : List Int} : thin l = l ↔ Rises l := ⟨fun h => h ▸ rises_thin l, thin_rises⟩
def join (l : List Int) (i : Int) : List Int := thin (l ++ [i])
def cut (l i : List Int) : List Int := l.filter fun x => !(i.contains x)
theorem mem_join {l : List Int} {i z : Int} : z ∈ join l i ↔ z ∈ l ∨ z = i := by unfold join; rw [mem_thin]; simp
theorem mem_cut {l i : List Int} {z : Int} : z ∈ cut l i ↔ z ∈ l ∧ z ∉ i := by unfold cut; simp
theorem rises_cut {l : List Int} (h : Rises l) (i : List Int) : Rises (cut l i) := List.Pairwise.filter _ h
theorem join_mem {l : List Int} (h : Rises l) {i : Int} (hi : i ∈ l) : join l i = l :=
  rises_ext (rises_thin _) h fun z => by rw [mem_join]; constructor
                                         · rintro (h | rfl) <;> assumption
                                         · exact .inl
theorem join_cut {l : List Int} (h : Rises l) {i : Int} (hi : i ∈ l) : join (cut l [i]) i = l :=
  rises_ext (rises_thin _) h fun z => by
    rw [mem_join, mem_cut]
    by_cases e : z = i
    · subst e; simp [hi]
    · simp [e]
theorem join_comm (l : List Int) (i k : Int) : join (join l i) k = join (join l k) i :=
  rises_ext (rises_thin _) (rises_thin _) fun z => by
    show z ∈ join (join l i) k ↔ z ∈ join (join l k) i
    simp only [mem_join]
    constructor
    · rintro ((h | h) | h)
      · exact .inl (.inl h)
      · exact .inr h
      · exact .inl (.inr h)
    · rintro ((h | h) | h)
      · exact .inl (.inl h)
      · exact .inr h
      · exact .inl (.inr h)
theorem cut_len {l : List Int} (h : Rises l) {i : Int} (hi : i ∈ l) : (cut l [i]).length + 1 = l.length := by
  induction l with
  | nil => simp at hi
  | cons x l ih =>
    rw [Rises, List.pairwise_cons] at h
    unfold cut
    by_cases e : x = i
    · subst e
      have hf : l.filter (fun y => !([x].contains y)) = l := by
        rw [List.filter_eq_self]
        intro y hy
        have := h.1 y hy
        simp
        omega
      rw [List.filter_cons_of_neg (by simp), hf, List.length_cons]
    · rw [List.filter_cons_of_pos (by simpa using e)]
      have := ih h.2 ((List.mem_cons.1 hi).resolve_left fun h => e h.symm)
      unfold cut at this
      simp only [List.length_cons]
      omega
theorem cut_cut (l i : List Int) : cut (cut l i) i = cut l i := by
  unfold cut
  rw [List.filter_filter]
  simp
theorem cut_nil (l : List Int) : cut l [] = l := by unfold cut; simp
theorem cut_self (l : List Int) : cut l l = [] := by
  unfold cut
  rw [List.filter_eq_nil_iff]
  intro x hx
  simp [hx]
/-- Numbers that rise between bounds are few. -/
theorem rises_few : ∀ {l : List Int} {a b : Int}, Rises l → (∀ z ∈ l, a ≤ z ∧ z ≤ b) → a ≤ b + 1 → (l.length : Int) ≤ b + 1 - a
  | [], a, b, _, _, hab => by simp; omega
  | x :: l, a, b, h, hl, hab => by
    rw [Rises, List.pairwise_cons] at h
    have hx := hl x (by simp)
    have := rises_few (l := l) (a := x + 1) (b := b) h.2 (fun z hz => ⟨by have := h.1 z hz; omega, (hl z (by simp [hz])).2⟩) (by omega)
    simp only [List.length_cons]
    omega

structure Inner where
  enc : Bytes
  hash : Bytes
  un : List Int
  deriving DecidableEq
def inner0 : Inner := ⟨[], [], []⟩
instance (l : List Int) : Decidable (Rises l) := inferInstanceAs (Decidable (l.Pairwise _))
def Inner.check (n : Inner) : Int :=
  if n.enc = [] then 5 else if n.enc.length > 200 ∨ n.hash.length > 200 ∨ n.un.length > 64 then 4 else if ∃ i ∈ n.un, i < 0 ∨ i > 63 then 3 else if Rises n.un then 0 else 8
def Inner.put (n : Inner) : Bytes := if n.check = 0 then putBytes n.enc ++ putBytes n.hash ++ putNums n.un else []
def Inner.get (b : Bytes) : Inner × Bytes × Int :=
  if (getBytes b).2.2 ≠ 0 then (inner0, [], (getBytes b).2.2) else
  if (getBytes (getBytes b).2.1).2.2 ≠ 0 then (inner0, [], (getBytes (getBytes b).2.1).2.2) else
  if (getNums (getBytes (getBytes b).2.1).2.1).2.2 ≠ 0 then (inner0, [], (getNums (getBytes (getBytes b).2.1).2.1).2.2) else
  if (Inner.check ⟨(getBytes b).1, (getBytes (getBytes b).2.1).1, (getNums (getBytes (getBytes b).2.1).2.1).1⟩) ≠ 0 then
    (inner0, [], Inner.check ⟨(getBytes b).1, (getBytes (getBytes b).2.1).1, (getNums (getBytes (getBytes b).2.1).2.1).1⟩) else
  (⟨(getBytes b).1, (getBytes (getBytes b).2.1).1, (getNums (getBytes (getBytes b).2.1).2.1).1⟩, (getNums (getBytes (getBytes b).2.1).2.1).2.1, 0)
theorem Inner.ok {n : Inner} (h : n.check = 0) : n.enc ≠ [] ∧ n.enc.length ≤ 200 ∧ n.hash.length ≤ 200 ∧ n.un.length ≤ 64 ∧ (∀ i ∈ n.un, 0 ≤ i ∧ i ≤ 63) ∧ Rises n.un := by
  unfold check at h
  split at h
  · omega
  · split at h
    · omega
    · split at h
      · omega
      · rename_i h1 h2 h3
        split at h
        · rename_i h4
          simp only [not_or, Nat.not_lt] at h2
          refine ⟨h1, by omega, by omega, by omega, fun i hi => ?_, h4⟩
          simp only [not_exists, not_and, not_or] at h3
          have := h3 i hi
          omega
        · omega
theorem Inner.ok_iff {n : Inner} : n.check = 0 ↔ n.enc ≠ [] ∧ n.enc.length ≤ 200 ∧ n.hash.length ≤ 200 ∧ n.un.length ≤ 64 ∧ (∀ i ∈ n.un, 0 ≤ i ∧ i ≤ 63) ∧ Rises n.un := by
  refine ⟨Inner.ok, fun ⟨h1, h2, h3, h4, h5, h6⟩ => ?_⟩
  unfold check
  rw [if_neg h1, if_neg (by omega), if_neg, if_pos h6]
  rintro ⟨i, hi, h⟩
  have := h5 i hi
  omega
theorem Inner.get_put {n : Inner} (h : n.check = 0) (t : Bytes) : Inner.get (n.put ++ t) = (n, t, 0) := by
  obtain ⟨h1, h2, h3, h4, h5, h6⟩ := Inner.ok h
  unfold put
  rw [if_pos h, List.append_assoc, List.append_assoc]
  unfold get
  have hb : ∀ x ∈ n.un, 0 ≤ x ∧ x < 4294967296 := fun x hx => by have := h5 x hx; omega
  simp only [getBytes_put (show n.enc.length ≤ 1048576 by omega), getBytes_put (show n.hash.length ≤ 1048576 by omega), getNums_put h4 hb, ne_eq, not_true_eq_false, if_false]
  rw [if_neg (by simpa using h)]
theorem Inner.put_pos {n : Inner} (h : n.check = 0) : 0 < n.put.length := by
  obtain ⟨h1, h2, _⟩ := Inner.ok h
  unfold put
  rw [if_pos h]
  have := putBytes_pos (v := n.enc) (by omega)
  simp only [List.length_append]
  omega
theorem Inner.get_short {n : Inner} (h : n.check = 0) {p : Bytes} (hp : p <+: n.put) (hl : p.length < n.put.length) : (Inner.get p).2.2 = 1 := by
  obtain ⟨h1, h2, h3, h4, h5, h6⟩ := Inner.ok h
  unfold put at hp hl
  rw [if_pos h, List.append_assoc] at hp hl
  unfold get
  rcases Nat.lt_or_ge p.length (putBytes n.enc).length with hlt | hge
  · rw [getBytes_short (v := n.enc) (by omega) (List.prefix_of_prefix_length_le hp (List.prefix_append _ _) (by omega)) hlt]
    simp
  · obtain ⟨q, rfl⟩ := List.prefix_of_prefix_length_le (List.prefix_append _ _) hp hge
    have hp := (List.prefix_append_right_inj _).1 hp
    simp only [getBytes_put (show n.enc.length ≤ 1048576 by omega), ne_eq, not_true_eq_false, if_false]
    simp only [List.length_append] at hl
    rcases Nat.lt_or_ge q.length (putBytes n.hash).length with hlt | hge
    · rw [getBytes_short (v := n.hash) (by omega) (List.prefix_of_prefix_length_le hp (List.prefix_append _ _) (by omega)) hlt]
      simp
    · obtain ⟨q', rfl⟩ := List.prefix_of_prefix_length_le (List.prefix_append _ _) hp hge
      have hp := (List.prefix_append_right_inj _).1 hp
      simp only [getBytes_put (show n.hash.length ≤ 1048576 by omega), ne_eq, not_true_eq_false, if_false]
      simp only [List.length_append] at hl
      rw [getNums_short h4 hp (by omega)]
      simp
theorem Inner.get_err {b : Bytes} (h : (Inner.get b).2.2 ≠ 0) : Inner.get b = (inner0, [], (Inner.get b).2.2) := by
  unfold get at h ⊢
  repeat' split
  all_goals first | rfl | skip
  all_goals simp_all
theorem Inner.get_only {b r : Bytes} {n : Inner} (h : Inner.get b = (n, r, 0)) : n.check = 0 ∧ n.put ++ r = b := by
  unfold get at h
  split at h
  · rename_i he; simp only [Prod.mk.injEq] at h; exact absurd h.2.2 he
  · rename_i he
    split at h
    · rename_i he; simp only [Prod.mk.injEq] at h; exact absurd h.2.2 he
    · rename_i he2
      split at h
      · rename_i he; simp only [Prod.mk.injEq] at h; exact absurd h.2.2 he
      · rename_i he3
        split at h
        · rename_i he; simp only [Prod.mk.injEq] at h; exact absurd h.2.2 he
        · rename_i he4
          simp only [Prod.mk.injEq, and_true] at h
          obtain ⟨rfl, rfl⟩ := h
          simp only [ne_eq, Decidable.not_not] at he he2 he3 he4
          have k1 := getBytes_only (b := b) (v := (getBytes b).1) (r := (getBytes b).2.1) (by rw [← he])
          have k2 := getBytes_only (b := (getBytes b).2.1) (v := (getBytes (getBytes b).2.1).1) (r := (getBytes (getBytes b).2.1).2.1) (by rw [← he2])
          have k3 := getNums_only (b := (getBytes (getBytes b).2.1).2.1) (l := (getNums (getBytes (getBytes b).2.1).2.1).1) (r := (getNums (getBytes (getBytes b).2.1).2.1).2.1) (by rw [← he3])
          refine ⟨he4, ?_⟩
          unfold put
          rw [if_pos he4, List.append_assoc, List.append_assoc, ← k3, ← k2.2]
          exact k1.2.symm
/-- Which numbers may be named. -/
theorem Inner.joined {n : Inner} (h : n.check = 0) (i : Int) : (Inner.check { n with un := join n.un i } = 0 ↔ 0 ≤ i ∧ i < 64) ∧
    (¬(0 ≤ i ∧ i < 64) → Inner.check { n with un := join n.un i } = 3 ∨ Inner.check { n with un := join n.un i } = 4) := by
  obtain ⟨h1, h2, h3, h4, h5, h6⟩ := Inner.ok h
  refine ⟨⟨fun hc => ?_, fun hi => ?_⟩, fun hi => ?_⟩
  · have := (Inner.ok hc).2.2.2.2.1 i (mem_join.2 (.inr rfl))
    omega
  · rw [Inner.ok_iff]
    refine ⟨h1, h2, h3, ?_, ?_, rises_thin _⟩
    · have := rises_few (l := join n.un i) (a := 0) (b := 63) (rises_thin _) (fun z hz => by
        rcases mem_join.1 hz with hz | rfl
        · exact h5 z hz
        · omega) (by omega)
      simp only
      omega
    · intro z hz
      rcases mem_join.1 hz with hz | rfl
      · exact h5 z hz
      · omega
  · unfold check
    rw [if_neg h1]
    split
    · exact .inr rfl
    · rw [if_pos ⟨i, mem_join.2 (.inr rfl), by omega⟩]
      exact .inl rfl
theorem Inner.twice {n : Inner} (h : n.check = 0) {i : Int} {l : List Int} (hu : n.un = i :: l) (hl : n.un.length < 64) : Inner.check { n with un := i :: n.un } = 8 := by
  obtain ⟨h1, h2, h3, h4, h5, h6⟩ := Inner.ok h
  unfold check
  rw [if_neg h1, if_neg (by simp only [List.length_cons]; omega), if_neg, if_neg]
  · simp only [hu, Rises, List.pairwise_cons, not_and]
    intro hh
    have := hh i (by simp)
    omega
  · rintro ⟨z, hz, hh⟩
    simp only [List.mem_cons] at hz
    rcases hz with rfl | hz
    · have := h5 z (by rw [hu]; simp); omega
    · have := h5 z hz; omega
end Go.Proofs.Ytcnedmkfcbcjkaa.Pl
