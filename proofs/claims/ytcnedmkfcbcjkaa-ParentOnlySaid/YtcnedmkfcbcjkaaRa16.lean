/- GUARDS, ROWS OF OPERATIONS, A LOOP's HEAD. -/
import Derived.Test.YtcnedmkfcbcjkaaRa15
set_option linter.unusedVariables false
set_option linter.unusedSimpArgs false
namespace Go.Proofs.Ytcnedmkfcbcjkaa.Ra
open Go Go.RowKit
set_option linter.unusedVariables false
set_option linter.unusedSimpArgs false
variable {w0 : World} {p0 : Base} {E : Env} {s : St} {a : Act} {w : World} {P : Program}

/-- What a temporary holds, told anew. -/
theorem Rel.setv (h : Rel w0 p0 E s a w) (t : Nat) {v : V} (hv : ∀ u, a.tmps[t]? = some u → RepV w E v u) : Rel w0 p0 E (s.put (some t) v) a w := by
  refine { h with tsz := ?_, tmps := ?_ }
  · simpa [St.put] using h.tsz
  · intro i v' u' hi hu
    simp only [St.put, List.getElem?_set] at hi
    by_cases e : t = i
    · subst e
      rw [if_pos rfl] at hi
      split at hi
      · cases hi; exact hv u' hu
      · cases hi
    · rw [if_neg e] at hi
      exact h.tmps i v' u' hi hu
theorem Rel.setB (h : Rel w0 p0 E s a w) {c : Operand} {b : Bool} (hc : a.eval c = .bool b) : Rel w0 p0 E (s.setB c b) a w := by
  cases c with
  | tmp t =>
    refine h.setv t fun u hu => ?_
    have : a.eval (.tmp t) = u := by simp [Act.eval, Array.getD_eq_getD_getElem?, hu]
    rw [this] at hc
    subst hc
    exact Rep.bool b
  | _ => exact h
theorem getD_bool {xs : Array Value} {t : Nat} {b : Bool} (h : xs.getD t undef = .bool b) : xs[t]? = some (.bool b) := by
  rw [Array.getD_eq_getD_getElem?] at h
  cases hx : xs[t]? with
  | none => rw [hx] at h; cases h
  | some v => rw [hx] at h; exact congrArg some h
theorem guard_ok {R : Type} {ops : Array Oper} {o : Oper} {j : St → Bool → Option R} {r : R} (h : guardK ops o s j = some r) (hr : Rel w0 p0 E s a w) :
    ∃ s' run, j s' run = some r ∧ Rel w0 p0 E s' a w ∧ Region.wanted o (yielded ops a.tmps) = run := by
  unfold guardK at h
  cases hg : o.guard with
  | none =>
    rw [hg] at h
    exact ⟨s, true, h, hr, by simp [Region.wanted, hg]⟩
  | some iw =>
    obtain ⟨i, want⟩ := iw
    rw [hg] at h
    simp only at h
    cases hd : (ops[i]?).bind (·.dst) with
    | none => rw [hd] at h; cases h
    | some t =>
      rw [hd] at h
      simp only at h
      have hv := hr.get t
      have known : ∀ (v : V), s.get t = v → RepV w E v (a.tmps.getD t undef) → ((asB v).bind fun b => cond b (j (s.put (some t) (.d (.bool true))) want) (j (s.put (some t) (.d (.bool false))) (!want))) = some r →
          ∃ s' run, j s' run = some r ∧ Rel w0 p0 E s' a w ∧ Region.wanted o (yielded ops a.tmps) = run := by
        intro v _ hv hk
        obtain ⟨b, hb, hk⟩ := Option.bind_eq_some_iff.1 hk
        have hu := getD_bool (asB_spec hv hb)
        have hw : ∀ u, a.tmps[t]? = some u → RepV w E (.d (.bool b)) u := fun u hh => by
          rw [hu] at hh
          cases hh
          exact Rep.bool b
        have hy : yielded ops a.tmps i = some b := by simp [yielded, hd, hu]
        cases b with
        | true => exact ⟨_, _, hk, hr.setv t hw, by cases want <;> simp [Region.wanted, hg, hy]⟩
        | false => exact ⟨_, _, hk, hr.setv t hw, by cases want <;> simp [Region.wanted, hg, hy]⟩
      generalize hgv : s.get t = v at h hv
      cases v with
      | undef =>
        refine ⟨s, false, h, hr, ?_⟩
        have hu : a.tmps.getD t undef = undef := hv
        have hy : yielded ops a.tmps i = none := by
          unfold yielded
          rw [hd]
          simp only [Option.bind_some]
          cases hx : a.tmps[t]? with
          | none => rfl
          | some u =>
            rw [Array.getD_eq_getD_getElem?, hx] at hu
            have hu : u = undef := hu
            subst hu
            rfl
        simp [Region.wanted, hg, hy]
      | _ => exact known _ hgv hv h
section
variable {T : TE} {CV : Nat → Nat → Option Conv} {C : CT}
theorem evOps_sound (hT : TOk P T) (hV : CVOk P CV) (hC : COk P C) {ops : Array Oper} {R : Type} {k : St → Option R} {r : R} {Q : Exit → Act → World → Prop} (hn : ∀ s' a' w' E', k s' = some r → Rel w0 p0 E' s' a' w' → Q .normal a' w') :
    ∀ (l : List Oper) {s : St} {a : Act} {w : World} {E : Env}, (∀ o ∈ l, ∀ d, lays o = some d → p0.fix d = none) → evOps T CV C ops l s k = some r → Rel w0 p0 E s a w → wpList P ops Q l a w := by
  intro l
  induction l with
  | nil => intro s a w E _ h hr; exact hn _ _ _ _ h hr
  | cons o l ih =>
    intro s a w E hfx h hr
    have hfl : ∀ o ∈ l, ∀ d, lays o = some d → p0.fix d = none := fun o' ho' => hfx o' (List.mem_cons_of_mem _ ho')
    obtain ⟨s', run, h1, h2, h3⟩ := guard_ok h hr
    unfold wpList
    rw [h3]
    cases run with
    | true =>
      rw [if_pos rfl]
      exact .inl (evOp_sound hT hV hC (show evOp T CV C o s' (fun s'' => evOps T CV C ops l s'' k) = some r from h1) h2 (hfx o List.mem_cons_self) fun s' a' w' E' hk hr' => ih hfl hk hr')
    | false =>
      rw [if_neg (by simp)]
      exact ih hfl h1 (h2.put o.dst (v := .undef) rfl)
end
theorem pickToks_mem {l : List Tok} : ∀ {hs : List (Nat × Bool)} {q : Tok}, q ∈ St.pickToks l hs → q ∈ l := by
  intro hs
  induction hs with
  | nil => intro q h; cases h
  | cons x hs ih =>
    intro q h
    unfold St.pickToks at h
    split at h
    · rename_i q' hq'
      rcases List.mem_cons.1 h with rfl | h
      · exact (lookTok_mem hq').1
      · exact ih h
    · exact ih h
theorem pickBoxes_mem {l : List (Nat × List V)} : ∀ {hs : List Nat} {q : Nat × List V}, q ∈ St.pickBoxes l hs → q ∈ l := by
  intro hs
  induction hs with
  | nil => intro q h; cases h
  | cons x hs ih =>
    intro q h
    unfold St.pickBoxes at h
    split at h
    · rename_i q' hq'
      rcases List.mem_cons.1 h with rfl | h
      · exact lookBox_mem hq'
      · exact ih h
    · exact ih h
theorem Rel.shareFor : ∀ (l : List (Nat × Bool)) {E : Env} {s : St}, Rel w0 p0 E s a w → ∃ E', Rel w0 p0 E' (s.shareFor l) a w := by
  intro l
  induction l with
  | nil => intro E s h; exact ⟨E, h⟩
  | cons x l ih =>
    intro E s h
    obtain ⟨t, b⟩ := x
    cases b with
    | true => exact ih h
    | false => exact ih (by rw [show (cond false s (s.share t)) = s.shareIf (· == t) from rfl]; exact (h.shareIf _).1)
theorem Rel.forget : ∀ (l : List Nat) {s : St}, Rel w0 p0 E s a w → Rel w0 p0 E { s with tmps := St.forget s.tmps l } a w := by
  intro l
  induction l with
  | nil => intro s h; exact h
  | cons t l ih => intro s h; exact ih (h.setv t (v := .d .any) fun u _ => Rep.any u)
theorem Rel.head (h : Rel w0 p0 E s a w) (x : Hd) : ∃ E', Rel w0 p0 E' (s.head x) a w := by
  obtain ⟨E', h1⟩ := h.shareFor x.toks
  exact ⟨E', ((h1.forget x.forget).fewer (l := St.pickToks (s.shareFor x.toks).toks x.toks) (bs := St.pickBoxes (s.shareFor x.toks).boxes x.boxes) (fun q hq => pickToks_mem hq) (fun q hq => pickBoxes_mem hq))⟩
end Go.Proofs.Ytcnedmkfcbcjkaa.Ra
