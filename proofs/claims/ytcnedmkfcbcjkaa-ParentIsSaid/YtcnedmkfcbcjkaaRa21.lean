/- TABLES, AND WHAT A CLOSED REDUCTION SAYS OF THEM. -/
import Derived.Test.YtcnedmkfcbcjkaaRa20
set_option linter.unusedVariables false
set_option linter.unusedSimpArgs false
namespace Go.Proofs.Ytcnedmkfcbcjkaa.Ra
open Go Go.RowKit
set_option linter.unusedVariables false
set_option linter.unusedSimpArgs false
variable {P : Program}

/-- A number, as an integer. -/
abbrev ofN (n : Nat) : Int := (n : Int)
def look {α : Type} (l : List (Nat × α)) (t : Nat) : Option α :=
  match l with
  | [] => none
  | q :: l => bif q.1 == t then some q.2 else look l t
theorem look_mem {α : Type} {l : List (Nat × α)} {t : Nat} {x : α} (h : look l t = some x) : (t, x) ∈ l := by
  induction l with
  | nil => cases h
  | cons q l ih =>
    unfold look at h
    cases e : q.1 == t with
    | true =>
      rw [e] at h
      have e : q.1 = t := by simpa using e
      subst e
      cases h
      exact List.mem_cons_self
    | false => rw [e] at h; exact List.mem_cons_of_mem _ (ih h)
def zChk : Z → Value → Bool
  | .d (.int k z), .int k' z' => decide (k = k') && z == z'
  | .d (.bool b), .bool b' => b == b'
  | .d (.str []), .string ba => ba.data.toList.isEmpty
  | .d .any, v => v.oneCell'
  | .nl n, .slice none 0 0 => decide (0 < n)
  | _, _ => false
theorem zChk_ok {c : Z} {v : Value} (h : zChk c v = true) : ZOk c v := by
  unfold zChk at h
  split at h
  · simp only [Bool.and_eq_true, decide_eq_true_eq, beq_iff_eq] at h
    obtain ⟨rfl, rfl⟩ := h
    exact ⟨rfl, fun _ _ => .int _ _⟩
  · have h := eq_of_beq h
    subst h
    exact ⟨rfl, fun _ _ => .bool _⟩
  · exact ⟨rfl, fun _ _ => .str _ _ (by simpa using h)⟩
  · exact ⟨h, fun _ _ => .any _⟩
  · exact ⟨rfl, by simpa using h, rfl⟩
  · cases h
def zsChk : List Z → List Value → Bool
  | [], [] => true
  | c :: l, v :: m => zChk c v && zsChk l m
  | _, _ => false
theorem zsChk_ok : ∀ {l : List Z} {m : List Value}, zsChk l m = true → l.length = m.length ∧ ∀ (j : Nat) (c : Z) (v : Value), l[j]? = some c → m[j]? = some v → ZOk c v := by
  intro l
  induction l with
  | nil => intro m h; cases m with
    | nil => exact ⟨rfl, by simp⟩
    | cons v m => cases h
  | cons c l ih => intro m h; cases m with
    | nil => cases h
    | cons v m =>
      simp only [zsChk, Bool.and_eq_true] at h
      obtain ⟨k1, k2⟩ := ih h.2
      refine ⟨by simp [k1], fun j c' v' hc hv => ?_⟩
      cases j with
      | zero => simp at hc hv; subst hc hv; exact zChk_ok h.1
      | succ j => exact k2 j c' v' (by simpa using hc) (by simpa using hv)
def fieldsChk (P : Program) : List Field → List (Nat × Bool × Nat) → Bool
  | [], [] => true
  | f :: l, h :: m => f.offset == h.1 && decide (0 < h.2.2) && ((P.info? f.type).map (·.size) == some h.2.2) && fieldsChk P l m
  | _, _ => false
theorem fieldsChk_ok : ∀ {l : List Field} {m : List (Nat × Bool × Nat)}, fieldsChk P l m = true → l.length = m.length ∧ ∀ (j : Nat) (f : Field) (h : Nat × Bool × Nat), l[j]? = some f → m[j]? = some h →
    f.offset = h.1 ∧ 0 < h.2.2 ∧ ∃ fi, P.info? f.type = some fi ∧ fi.size = h.2.2 := by
  intro l
  induction l with
  | nil => intro m h; cases m with
    | nil => exact ⟨rfl, by simp⟩
    | cons v m => cases h
  | cons c l ih => intro m h; cases m with
    | nil => cases h
    | cons v m =>
      simp only [fieldsChk, Bool.and_eq_true, beq_iff_eq, decide_eq_true_eq, Option.map_eq_some_iff] at h
      obtain ⟨⟨⟨h1, h2⟩, fi, h3, h4⟩, h5⟩ := h
      obtain ⟨k1, k2⟩ := ih h5
      refine ⟨by simp [k1], fun j c' v' hc hv => ?_⟩
      cases j with
      | zero => simp at hc hv; subst hc hv; exact ⟨h1, h2, fi, h3, h4⟩
      | succ j => exact k2 j c' v' (by simpa using hc) (by simpa using hv)
def kindChk (P : Program) (t : Nat) : TK → Bool
  | .one => match P.underlying t with
    | some (.struct _) | some (.array ..) | none => false
    | _ => true
  | .bool => match P.underlying t with
    | some .bool => true
    | _ => false
  | .slice e => match P.underlying t with
    | some (.slice e') => e' == e
    | _ => false
  | .struct fs => match P.underlying t with
    | some (.struct fields) => fieldsChk P fields.toList fs
    | _ => false
  | .array n e => match P.underlying t with
    | some (.array n' e') => n' == n && e' == e
    | _ => false
theorem kindChk_ok {t : Nat} {k : TK} (h : kindChk P t k = true) : KindOk P t k := by
  cases k with
  | one =>
    simp only [kindChk] at h
    cases hu : P.underlying t with
    | none => rw [hu] at h; cases h
    | some d =>
      rw [hu] at h
      refine ⟨d, hu, ?_, ?_⟩
      · rintro fs rfl; cases h
      · rintro n e rfl; cases h
  | bool =>
    simp only [kindChk] at h
    split at h
    · assumption
    · cases h
  | slice e =>
    simp only [kindChk] at h
    split at h
    · rename_i e' hu
      have : e' = e := by simpa using h
      subst this
      exact hu
    · cases h
  | struct fs =>
    simp only [kindChk] at h
    split at h
    · rename_i fields hu
      obtain ⟨h1, h2⟩ := fieldsChk_ok h
      exact ⟨fields, hu, by simpa using h1, fun j f x hf hx => h2 j f x (by simpa using hf) hx⟩
    · cases h
  | array n e =>
    simp only [kindChk] at h
    split at h
    · rename_i n' e' hu
      simp only [Bool.and_eq_true, beq_iff_eq] at h
      obtain ⟨rfl, rfl⟩ := h
      exact hu
    · cases h
def isAggV : Value → Bool
  | .agg _ => true
  | _ => false
def tiChk (P : Program) (t : Nat) (i : TI) : Bool :=
  decide (0 < i.size) && decide (0 < i.bytes) && kindChk P t i.kind && match P.info? t with
  | some f => f.size == i.size && f.bytes == i.bytes && match f.zero with
    | some z => z.cells.size == i.size && i.zero.length == i.size && (bif i.kind.agg then isAggV z else i.size == 1 && z.oneCell') && zsChk i.zero z.cells.toList
    | none => false
  | none => false
theorem tiChk_ok {t : Nat} {i : TI} (h : tiChk P t i = true) : TIok P t i := by
  unfold tiChk at h
  simp only [Bool.and_eq_true, decide_eq_true_eq] at h
  obtain ⟨⟨⟨h1, h2⟩, h3⟩, h4⟩ := h
  refine ⟨h1, h2, kindChk_ok h3, ?_⟩
  split at h4
  · rename_i f hf
    simp only [Bool.and_eq_true, beq_iff_eq] at h4
    obtain ⟨⟨h5, h6⟩, h7⟩ := h4
    split at h7
    · rename_i z hz
      simp only [Bool.and_eq_true, beq_iff_eq] at h7
      obtain ⟨⟨⟨k1, k2⟩, k3⟩, k4⟩ := h7
      refine ⟨f, z, hf, h5, h6, hz, k1, k2, fun ha => ?_, fun ha => ?_, fun j c v hc hv => (zsChk_ok k4).2 j c v hc (by simpa using hv)⟩
      · rw [ha] at k3
        cases z <;> first | rfl | cases k3
      · rw [ha] at k3
        simpa using k3
    · cases h7
  · cases h4
def tabChk (P : Program) (l : List (Nat × TI)) : Bool := l.all fun q => tiChk P q.1 q.2
theorem tab_ok {l : List (Nat × TI)} (h : tabChk P l = true) : TOk P (look l) := by
  intro t i ht
  have := List.all_eq_true.1 h _ (look_mem ht)
  exact tiChk_ok this
def convTab (l : List ((Nat × Nat) × Conv)) (t u : Nat) : Option Conv :=
  match l with
  | [] => none
  | q :: l => bif q.1.1 == t && q.1.2 == u then some q.2 else convTab l t u
def convChk (P : Program) (t u : Nat) : Conv → Bool
  | .int k => (P.underlying t).isSome && match P.underlying u with
    | some (.int k') => decide (k = k')
    | _ => false
  | .text => (match P.underlying u with
    | some .string => true
    | _ => false) && match P.underlying t with
    | some (.slice e) => match P.underlying e with
      | some (.int k) => decide (k = .u8)
      | _ => false
    | _ => false
theorem conv_ok' {l : List ((Nat × Nat) × Conv)} (h : (l.all fun q => convChk P q.1.1 q.1.2 q.2) = true) : CVOk P (convTab l) := by
  intro t u c hc
  have hm : ((t, u), c) ∈ l := by
    clear h
    induction l with
    | nil => cases hc
    | cons q l ih =>
      unfold convTab at hc
      cases e : q.1.1 == t && q.1.2 == u with
      | true =>
        rw [e] at hc
        simp only [Bool.and_eq_true, beq_iff_eq] at e
        obtain ⟨rfl, rfl⟩ := e
        cases hc
        exact List.mem_cons_self
      | false => rw [e] at hc; exact List.mem_cons_of_mem _ (ih hc)
  have h1 := List.all_eq_true.1 h _ hm
  simp only at h1
  cases c with
  | int k =>
    simp only [convChk, Bool.and_eq_true, Option.isSome_iff_exists] at h1
    obtain ⟨⟨d, hd⟩, h2⟩ := h1
    split at h2
    · rename_i k' hu
      have : k = k' := by simpa using h2
      subst this
      exact ⟨d, hd, hu⟩
    · cases h2
  | text =>
    simp only [convChk, Bool.and_eq_true] at h1
    obtain ⟨h2, h3⟩ := h1
    split at h2
    · rename_i hu
      split at h3
      · rename_i e he
        split at h3
        · rename_i k hk
          have : k = .u8 := by simpa using h3
          subst this
          exact ⟨e, he, hk, hu⟩
        · cases h3
      · cases h3
    · cases h2
def EOk (P : Program) (f : Nat) : Entry → Prop
  | .pure F => OkPure P f F
  | .own sz F => OkOwn P f sz F
  | .nown sz F => OkOwn P f sz F
  | .seq F => OkSeq P f F
theorem ct_nil : COk P (look []) := by intro f e h; cases h
theorem ct_cons {f : Nat} {e : Entry} {l : List (Nat × Entry)} (h : EOk P f e) (hl : COk P (look l)) : COk P (look ((f, e) :: l)) := by
  intro g e' hg
  unfold look at hg
  cases hh : f == g with
  | true =>
    simp only [hh, cond_true, Option.some.injEq] at hg
    have hh : f = g := by simpa using hh
    subst hh
    subst hg
    cases e <;> exact h
  | false =>
    simp only [hh, cond_false] at hg
    exact hl g e' hg
theorem ct_pure {f : Nat} {F : List D → Option D} {l : List (Nat × Entry)} (h : OkPure P f F) (hl : COk P (look l)) : COk P (look ((f, .pure F) :: l)) := ct_cons h hl
theorem ct_nown {f sz : Nat} {F : List D → Option (List D)} {l : List (Nat × Entry)} (h : OkOwn P f sz F) (hl : COk P (look l)) : COk P (look ((f, .nown sz F) :: l)) := ct_cons h hl
theorem ct_seq {f : Nat} {F : List D → Option (List (List D))} {l : List (Nat × Entry)} (h : OkSeq P f F) (hl : COk P (look l)) : COk P (look ((f, .seq F) :: l)) := ct_cons h hl
theorem ct_own {f sz : Nat} {F : List D → Option (List D)} {l : List (Nat × Entry)} (h : OkOwn P f sz F) (hl : COk P (look l)) : COk P (look ((f, .own sz F) :: l)) := ct_cons h hl
section
variable {T : TE} {CV : Nat → Nat → Option Conv} {C : CT} {A : Nat → Hd}
theorem okPure' (hm : P.follows .mixedOrders = true) (hT : TOk P T) (hV : CVOk P CV) (hC : COk P C) {f : Nat} {fn : Func} (hf : P.funcs[f]? = some fn) (hb : fn.body.isSome = true) (hname : (fn.name == "runtime.NumGoroutine") = false) : OkPure P f (evPure T CV C A fn) := by
  obtain ⟨c, hc⟩ := Option.isSome_iff_exists.1 hb
  exact okPure hm hT hV hC hf hc hname
theorem okOwn' (hm : P.follows .mixedOrders = true) (hT : TOk P T) (hV : CVOk P CV) (hC : COk P C) {f : Nat} {fn : Func} (sz : Nat) (hf : P.funcs[f]? = some fn) (hb : fn.body.isSome = true) (hname : (fn.name == "runtime.NumGoroutine") = false) : OkOwn P f sz (evOwn T CV C A sz fn) := by
  obtain ⟨c, hc⟩ := Option.isSome_iff_exists.1 hb
  exact okOwn hm hT hV hC sz hf hc hname
end
end Go.Proofs.Ytcnedmkfcbcjkaa.Ra
