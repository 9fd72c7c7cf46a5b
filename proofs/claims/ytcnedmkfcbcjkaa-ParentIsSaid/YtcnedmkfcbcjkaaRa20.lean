/- WHAT IS BEHIND IT DOESN'T CHANGE WHAT AN OPERATION, OR CODE, COMES TO; a loop is a round, and then the loop. -/
import Derived.Test.YtcnedmkfcbcjkaaRa19
set_option linter.unusedVariables false
set_option linter.unusedSimpArgs false
namespace Go.Proofs.Ytcnedmkfcbcjkaa.Ra
open Go Go.RowKit
set_option linter.unusedVariables false
set_option linter.unusedSimpArgs false
variable {s : St}
section
variable {T : TE} {CV : Nat → Nat → Option Conv} {C : CT}
theorem vOp_k {op : Op} {R : Type} {K : V → Option R} {r : R} (h : vOp T CV C op s K = some r) : ∃ v, K v = some r ∧ ∀ (R' : Type) (K' : V → Option R'), vOp T CV C op s K' = K' v := by
  obtain ⟨v, h1, h2⟩ := vOp_param h
  exact ⟨v, h1, h2 s.tmps fun _ _ => rfl⟩
theorem rowK_k {R : Type} {sz : Nat} {K : List D → Option R} {r : R} {l : List (Nat × Operand)} {xs : List D} (h : rowK s sz l xs K = some r) : ∃ v, K v = some r ∧ ∀ (R' : Type) (K' : List D → Option R'), rowK s sz l xs K' = K' v := by
  obtain ⟨v, h1, h2⟩ := rowK_param l h
  exact ⟨v, h1, h2 s.tmps fun _ _ => rfl⟩
theorem cellsK_k {b o t : Nat} {v : V} {R : Type} {K : St → List V → Option R} {r : R} (h : cellsK T s b o t v K = some r) : ∃ s' cs, K s' cs = some r ∧ ∀ (R' : Type) (K' : St → List V → Option R'), cellsK T s b o t v K' = K' s' cs := by
  unfold cellsK at h
  obtain ⟨i, hi, h⟩ := Option.bind_eq_some_iff.1 h
  cases hag : i.kind.agg with
  | true =>
    rw [hag] at h
    simp only [cond_true] at h
    cases v with
    | agg cs =>
      simp only at h
      cases hl : cs.length == i.size with
      | false => rw [hl] at h; cases h
      | true => rw [hl] at h; exact ⟨_, _, h, fun R' K' => by simp only [cellsK, hi, Option.bind_some, hag, cond_true, hl]⟩
    | d x =>
      obtain ⟨ds, hds, h⟩ := Option.bind_eq_some_iff.1 h
      exact ⟨_, _, h, fun R' K' => by simp only [cellsK, hi, Option.bind_some, hag, cond_true, hds]⟩
    | _ => cases h
  | false =>
    rw [hag] at h
    simp only [cond_false] at h
    cases v with
    | d x =>
      simp only at h
      cases hl : x.one with
      | false => rw [hl] at h; cases h
      | true => rw [hl] at h; exact ⟨_, _, h, fun R' K' => by simp only [cellsK, hi, Option.bind_some, hag, cond_false, hl, cond_true]⟩
    | nil =>
      obtain ⟨e, he, h⟩ := Option.bind_eq_some_iff.1 h
      exact ⟨_, _, h, fun R' K' => by simp only [cellsK, hi, Option.bind_some, hag, cond_false, he]⟩
    | own tk =>
      obtain ⟨s', hs', h⟩ := Option.bind_eq_some_iff.1 h
      exact ⟨_, _, h, fun R' K' => by simp only [cellsK, hi, Option.bind_some, hag, cond_false, hs']⟩
    | box b' o' => exact ⟨_, _, h, fun R' K' => by simp only [cellsK, hi, Option.bind_some, hag, cond_false]⟩
    | _ => cases h
theorem capK_k {R : Type} {K : St → List D → Option R} {r : R} : ∀ (l : List Operand) {s : St} {env : List D}, evOp.capK s l env K = some r → ∃ s' e', K s' e' = some r ∧ ∀ (R' : Type) (K' : St → List D → Option R'), evOp.capK s l env K' = K' s' e' := by
  intro l
  induction l with
  | nil => intro s env h; exact ⟨s, env, h, fun _ _ => rfl⟩
  | cons x l ih =>
    intro s env h
    unfold evOp.capK at h
    split at h
    · rename_i b hx
      obtain ⟨cs, hb, h⟩ := Option.bind_eq_some_iff.1 h
      obtain ⟨ds, hds, h⟩ := Option.bind_eq_some_iff.1 h
      obtain ⟨s', e', g1, g2⟩ := ih h
      exact ⟨s', e', g1, fun R' K' => by simp only [evOp.capK, hx, hb, Option.bind_some, hds, g2]⟩
    · rename_i ds hx
      obtain ⟨s', e', g1, g2⟩ := ih h
      exact ⟨s', e', g1, fun R' K' => by simp only [evOp.capK, hx, g2]⟩
    · cases h
theorem evOp_k {o : Oper} {R : Type} {K : St → Option R} {r : R} (h : evOp T CV C o s K = some r) : ∃ s', K s' = some r ∧ ∀ (R' : Type) (K' : St → Option R'), evOp T CV C o s K' = K' s' := by
  obtain ⟨dst, op, ty, pos, after, guard⟩ := o
  have gen : ∀ (s1 : St), vOp T CV C op s1 (fun v => K (s1.put dst v)) = some r → ∃ s', K s' = some r ∧ ∀ (R' : Type) (K' : St → Option R'), vOp T CV C op s1 (fun v => K' (s1.put dst v)) = K' s' := by
    intro s1 h
    obtain ⟨v, h1, h2⟩ := vOp_k h
    exact ⟨_, h1, fun R' K' => h2 R' _⟩
  cases op with
  | assign x =>
    cases dst with
    | none => exact gen _ h
    | some d =>
      simp only [evOp] at h ⊢
      cases ho : s.opnd x with
      | own t =>
        simp only [ho] at h ⊢
        obtain ⟨s', hs', h⟩ := Option.bind_eq_some_iff.1 h
        exact ⟨_, h, fun R' K' => by simp only [hs', Option.bind_some]⟩
      | nil =>
        simp only [ho] at h ⊢
        obtain ⟨s', hs', h⟩ := Option.bind_eq_some_iff.1 h
        exact ⟨_, h, fun R' K' => by simp only [hs', Option.bind_some]⟩
      | _ => simp only [ho] at h ⊢; exact ⟨_, h, fun R' K' => rfl⟩
  | alloc t =>
    cases dst with
    | none => cases h
    | some d =>
      simp only [evOp] at h ⊢
      obtain ⟨i, hi, h⟩ := Option.bind_eq_some_iff.1 h
      exact ⟨_, h, fun R' K' => by simp only [hi, Option.bind_some]⟩
  | box t x =>
    cases dst with
    | none => cases h
    | some d =>
      simp only [evOp] at h ⊢
      obtain ⟨s', cs, h1, h2⟩ := cellsK_k h
      exact ⟨_, h1, fun R' K' => h2 R' _⟩
  | store t x y =>
    cases dst with
    | some d => cases h
    | none =>
      simp only [evOp] at h ⊢
      cases ho : s.opnd x with
      | box b p =>
        simp only [ho] at h ⊢
        obtain ⟨s', cs, h1, h2⟩ := cellsK_k h
        obtain ⟨old, hold, h1⟩ := Option.bind_eq_some_iff.1 h1
        cases hl : decide (p + cs.length ≤ old.length) with
        | false => rw [hl] at h1; cases h1
        | true => rw [hl] at h1; exact ⟨_, h1, fun R' K' => by rw [h2]; simp only [hold, Option.bind_some, hl, cond_true]⟩
      | elp tk i p =>
        simp only [ho] at h ⊢
        obtain ⟨kd, hk, h⟩ := Option.bind_eq_some_iff.1 h
        obtain ⟨q, hq, h⟩ := Option.bind_eq_some_iff.1 h
        obtain ⟨y1, hy1, h⟩ := Option.bind_eq_some_iff.1 h
        cases hb : (q.wr && p == 0 && kd.2 == q.sz && kd.1 == decide (1 < kd.2) && decide (i < q.xs.length)) with
        | false => rw [hb] at h; cases h
        | true =>
          rw [hb] at h
          obtain ⟨y2, hy2, h⟩ := Option.bind_eq_some_iff.1 h
          exact ⟨_, h, fun R' K' => by simp only [hk, hq, hy1, hb, hy2, Option.bind_some, cond_true]⟩
      | _ => simp only [ho] at h; cases h
  | buildSlice t len parts =>
    cases dst with
    | none => exact gen _ h
    | some d =>
      simp only [evOp] at h ⊢
      obtain ⟨i, hi, h⟩ := Option.bind_eq_some_iff.1 h
      cases hb : decide (len * i.size ≤ 16777216) with
      | false => rw [hb] at h; cases h
      | true =>
        rw [hb] at h
        obtain ⟨xs, h1, h2⟩ := rowK_k h
        exact ⟨_, h1, fun R' K' => by simp only [hi, Option.bind_some, hb, cond_true, h2]⟩
  | makeFunc f first caps =>
    cases dst with
    | none => cases f <;> cases h
    | some d =>
      cases f <;> try (cases h; done)
      simp only [evOp] at h ⊢
      cases hb : first.isEmpty with
      | false => rw [hb] at h; cases h
      | true =>
        rw [hb] at h
        obtain ⟨s', e', h1, h2⟩ := capK_k _ h
        exact ⟨_, h1, fun R' K' => by rw [cond_true, h2]⟩
  | call c =>
    obtain ⟨callee, args, ts⟩ := c
    cases callee with
    | invoke => cases h
    | value f =>
      cases f with
      | func f =>
        simp only [evOp] at h ⊢
        split at h
        · rename_i sz F d hcf
          obtain ⟨ds, hds, h⟩ := Option.bind_eq_some_iff.1 h
          obtain ⟨xs, hxs, h⟩ := Option.bind_eq_some_iff.1 h
          exact ⟨_, h, fun R' K' => by simp only [hcf, hds, hxs, Option.bind_some]⟩
        · rename_i sz F d hcf
          obtain ⟨ds, hds, h⟩ := Option.bind_eq_some_iff.1 h
          obtain ⟨xs, hxs, h⟩ := Option.bind_eq_some_iff.1 h
          exact ⟨_, h, fun R' K' => by simp only [hcf, hds, hxs, Option.bind_some]⟩
        · rename_i hne
          obtain ⟨s', h1, h2⟩ := gen _ h
          exact ⟨s', h1, fun R' K' => h2 R' K'⟩
      | tmp t => exact gen _ h
      | _ => cases h
    | builtin b =>
      cases b <;> try (exact gen s h)
      case append =>
        cases dst with
        | none => cases h
        | some d =>
          simp only [evOp] at h ⊢
          split at h
          · rename_i x y t t' hargs hts
            cases htt : t == t' with
            | false => rw [htt] at h; cases h
            | true =>
              rw [htt] at h
              simp only [cond_true] at h
              obtain ⟨i, hi, h⟩ := Option.bind_eq_some_iff.1 h
              obtain ⟨ys, hys, h⟩ := Option.bind_eq_some_iff.1 h
              cases hb : (D.chk i.size ys && decide (0 < i.size)) with
              | false => rw [hb] at h; cases h
              | true =>
                rw [hb] at h
                simp only [cond_true] at h
                cases ho : (s.shareV (s.opnd y)).opnd x with
                | nil =>
                  simp only [ho] at h
                  cases hb2 : decide (ys.length * i.bytes ≤ 140737488355328) with
                  | false => rw [hb2] at h; cases h
                  | true => rw [hb2] at h; exact ⟨_, h, fun R' K' => by simp only [hargs, hts, htt, cond_true, hi, Option.bind_some, hys, hb, ho, hb2]⟩
                | own tk =>
                  simp only [ho] at h
                  obtain ⟨q, hq, h⟩ := Option.bind_eq_some_iff.1 h
                  cases hb2 : (q.sz == i.size && decide ((q.xs.length + ys.length) * i.bytes ≤ 140737488355328)) with
                  | false => rw [hb2] at h; cases h
                  | true => rw [hb2] at h; exact ⟨_, h, fun R' K' => by simp only [hargs, hts, htt, cond_true, hi, Option.bind_some, hys, hb, ho, hq, hb2]⟩
                | _ => simp only [ho] at h; cases h
          · cases h
  | go c => cases dst <;> cases h
  | defer c => cases dst <;> cases h
  | _ => first | exact gen s h | exact gen _ h
theorem guardK_k {ops : Array Oper} {o : Oper} {R : Type} {j : St → Bool → Option R} {r : R} (h : guardK ops o s j = some r) : ∃ s' b, j s' b = some r ∧ ∀ (R' : Type) (j' : St → Bool → Option R'), guardK ops o s j' = j' s' b := by
  unfold guardK at h
  cases hg : o.guard with
  | none => rw [hg] at h; exact ⟨s, true, h, fun R' j' => by simp only [guardK, hg]⟩
  | some iw =>
    obtain ⟨i, want⟩ := iw
    rw [hg] at h
    simp only at h
    cases hd : (ops[i]?).bind (·.dst) with
    | none => rw [hd] at h; cases h
    | some t =>
      rw [hd] at h
      simp only at h
      have known : ∀ v : V, s.get t = v → (∀ (R' : Type) (j' : St → Bool → Option R'), guardK ops o s j' = ((asB v).bind fun b => cond b (j' (s.put (some t) (.d (.bool true))) want) (j' (s.put (some t) (.d (.bool false))) (!want)))) → ((asB v).bind fun b => cond b (j (s.put (some t) (.d (.bool true))) want) (j (s.put (some t) (.d (.bool false))) (!want))) = some r →
          ∃ s' b, j s' b = some r ∧ ∀ (R' : Type) (j' : St → Bool → Option R'), guardK ops o s j' = j' s' b := by
        intro v hv hall h
        obtain ⟨b, hb, h⟩ := Option.bind_eq_some_iff.1 h
        cases b with
        | true => exact ⟨_, _, h, fun R' j' => by rw [hall, hb]; rfl⟩
        | false => exact ⟨_, _, h, fun R' j' => by rw [hall, hb]; rfl⟩
      cases hv : s.get t with
      | undef => rw [hv] at h; exact ⟨s, false, h, fun R' j' => by simp only [guardK, hg, hd, hv]⟩
      | d x => rw [hv] at h; exact known _ hv (fun R' j' => by simp only [guardK, hg, hd, hv]) h
      | nil => rw [hv] at h; exact known _ hv (fun R' j' => by simp only [guardK, hg, hd, hv]) h
      | own x => rw [hv] at h; exact known _ hv (fun R' j' => by simp only [guardK, hg, hd, hv]) h
      | box x y => rw [hv] at h; exact known _ hv (fun R' j' => by simp only [guardK, hg, hd, hv]) h
      | elp x y z => rw [hv] at h; exact known _ hv (fun R' j' => by simp only [guardK, hg, hd, hv]) h
      | agg x => rw [hv] at h; exact known _ hv (fun R' j' => by simp only [guardK, hg, hd, hv]) h
theorem evOps_k {ops : Array Oper} {R : Type} {K : St → Option R} {r : R} : ∀ (l : List Oper) {s : St}, evOps T CV C ops l s K = some r → ∃ s', K s' = some r ∧ ∀ (R' : Type) (K' : St → Option R'), evOps T CV C ops l s K' = K' s' := by
  intro l
  induction l with
  | nil => intro s h; exact ⟨s, h, fun _ _ => rfl⟩
  | cons o l ih =>
    intro s h
    obtain ⟨s1, b, h1, h2⟩ := guardK_k h
    cases b with
    | true =>
      obtain ⟨s2, h3, h4⟩ := evOp_k (show evOp T CV C o s1 (fun s'' => evOps T CV C ops l s'' K) = some r from h1)
      obtain ⟨s3, h5, h6⟩ := ih h3
      exact ⟨s3, h5, fun R' K' => (h2 R' _).trans ((h4 R' fun s'' => evOps T CV C ops l s'' K').trans (h6 R' K'))⟩
    | false =>
      obtain ⟨s3, h5, h6⟩ := ih (show evOps T CV C ops l (s1.put o.dst .undef) K = some r from h1)
      exact ⟨s3, h5, fun R' K' => (h2 R' _).trans (h6 R' K')⟩
theorem evQ_k {ops : Array Oper} {R : Type} {K : St → Option R} {r : R} : ∀ (l : List Oper) {s : St}, evQ T CV C ops l s K = some r → ∃ s', K s' = some r ∧ ∀ (R' : Type) (K' : St → Option R'), evQ T CV C ops l s K' = K' s' := by
  intro l
  induction l with
  | nil => intro s h; exact ⟨s, h, fun _ _ => rfl⟩
  | cons o l ih =>
    intro s h
    obtain ⟨s1, b, h1, h2⟩ := guardK_k h
    cases b with
    | true =>
      obtain ⟨v, h3, h4⟩ := vOp_k (show vOp T CV C o.op s1 (fun v => evQ T CV C ops l (s1.put o.dst v) K) = some r from h1)
      obtain ⟨s3, h5, h6⟩ := ih h3
      exact ⟨s3, h5, fun R' K' => (h2 R' _).trans ((h4 R' fun v => evQ T CV C ops l (s1.put o.dst v) K').trans (h6 R' K'))⟩
    | false =>
      obtain ⟨s3, h5, h6⟩ := ih (show evQ T CV C ops l (s1.put o.dst .undef) K = some r from h1)
      exact ⟨s3, h5, fun R' K' => (h2 R' _).trans (h6 R' K')⟩
end
/-- Whatever code comes to, its continuation gets it. -/
def disp {R : Type} (k : Kont R) : X × St → Option R
  | (.normal, s) => k.n s
  | (.exit j, s) => k.e j s
  | (.ret, s) => k.r s
section
variable {T : TE} {CV : Nat → Nat → Option Conv} {C : CT} {A : Nat → Hd}
theorem ev_k : ∀ (c : Code) (i : Nat) {R : Type} {k : Kont R} {r : R} {s : St}, ev T CV C A c i R k s = some r → ∃ xs, disp k xs = some r ∧ ∀ (R' : Type) (k' : Kont R'), ev T CV C A c i R' k' s = disp k' xs := by
  intro c
  induction c with
  | skip => intro i R k r s h; exact ⟨(.normal, s), h, fun _ _ => rfl⟩
  | region id ops draws =>
    intro i R k r s h
    cases draws with
    | false =>
      obtain ⟨s', h1, h2⟩ := evOps_k _ (show evOps T CV C ops ops.toList s k.n = some r from h)
      exact ⟨(.normal, s'), h1, fun R' k' => h2 R' k'.n⟩
    | true =>
      simp only [ev] at h ⊢
      cases hq : (quietAll (ops.toList.take (quietLen ops.toList)) && tailOk ops (quietLen ops.toList)) with
      | false => rw [hq] at h; cases h
      | true =>
        rw [hq] at h
        obtain ⟨s', h1, h2⟩ := evQ_k _ (show evQ T CV C ops (ops.toList.take (quietLen ops.toList)) s.shareAll (fun s' => evOps T CV C ops (ops.toList.drop (quietLen ops.toList)) s' k.n) = some r from h)
        obtain ⟨s'', h3, h4⟩ := evOps_k _ h1
        exact ⟨(.normal, s''), h3, fun R' k' => (h2 R' _).trans (h4 R' k'.n)⟩
  | seq x y hx hy =>
    intro i R k r s h
    obtain ⟨⟨e, s1⟩, h1, h2⟩ := hx i (k := { k with n := ev T CV C A y i R k }) h
    cases e with
    | normal =>
      obtain ⟨xs, h3, h4⟩ := hy i h1
      exact ⟨xs, h3, fun R' k' => (h2 R' _).trans (h4 R' k')⟩
    | exit j => exact ⟨(.exit j, s1), h1, fun R' k' => h2 R' _⟩
    | ret => exact ⟨(.ret, s1), h1, fun R' k' => h2 R' _⟩
  | cond c x y hx hy =>
    intro i R k r s h
    obtain ⟨b, hb, h⟩ := Option.bind_eq_some_iff.1 h
    cases b with
    | true =>
      obtain ⟨xs, h1, h2⟩ := hx i h
      exact ⟨xs, h1, fun R' k' => by simp only [ev, hb, Option.bind_some, cond_true]; exact h2 R' k'⟩
    | false =>
      obtain ⟨xs, h1, h2⟩ := hy i h
      exact ⟨xs, h1, fun R' k' => by simp only [ev, hb, Option.bind_some, cond_false]; exact h2 R' k'⟩
  | block id c hc =>
    intro i R k r s h
    obtain ⟨⟨e, s1⟩, h1, h2⟩ := hc id (k := { k with e := fun j s' => cond (j == id) (k.n s') (k.e j s') }) h
    cases e with
    | normal => exact ⟨(.normal, s1), h1, fun R' k' => h2 R' _⟩
    | exit j =>
      replace h1 : cond (j == id) (k.n s1) (k.e j s1) = some r := h1
      have h3 : ∀ (R' : Type) (k' : Kont R'), ev T CV C A (.block id c) i R' k' s = cond (j == id) (k'.n s1) (k'.e j s1) := fun R' k' => h2 R' { k' with e := fun j s' => cond (j == id) (k'.n s') (k'.e j s') }
      cases hj : j == id with
      | true =>
        rw [hj] at h1 h3
        exact ⟨(.normal, s1), h1, h3⟩
      | false =>
        rw [hj] at h1 h3
        exact ⟨(.exit j, s1), h1, h3⟩
    | ret => exact ⟨(.ret, s1), h1, fun R' k' => h2 R' _⟩
  | loop c hc =>
    intro i R k r s h
    obtain ⟨⟨e, s1⟩, hl, hd⟩ := Option.bind_eq_some_iff.1 h
    cases e with
    | normal => cases hd
    | exit j => exact ⟨(.exit j, s1), hd, fun R' k' => by simp only [ev, hl, Option.bind_some]; rfl⟩
    | ret => exact ⟨(.ret, s1), hd, fun R' k' => by simp only [ev, hl, Option.bind_some]; rfl⟩
  | exit j => intro i R k r s h; exact ⟨(.exit j, s), h, fun _ _ => rfl⟩
  | ret => intro i R k r s h; exact ⟨(.ret, s), h, fun _ _ => rfl⟩
  | rangeFunc g ps assign body ha hb =>
    intro i R k r s h
    simp only [ev] at h ⊢
    cases hg : s.opnd g with
    | d x =>
      cases x with
      | clo gf env =>
        rw [hg] at h
        simp only at h ⊢
        cases hcf : C gf with
        | none => rw [hcf] at h; cases h
        | some en =>
          rw [hcf] at h
          cases en with
          | pure F => cases h
          | own sz F => cases h
          | nown sz F => cases h
          | seq F =>
            obtain ⟨items, hF, h⟩ := Option.bind_eq_some_iff.1 h
            cases hfree : (layFree (s.boxes.map (·.1)) assign && layFree (s.boxes.map (·.1)) body) with
            | false => rw [hfree] at h; cases h
            | true =>
              rw [hfree] at h
              simp only [cond_true, hF, Option.bind_some] at h ⊢
              have key : ∀ (n : Nat) (ps : List Nat) (sv : List V) (ids tks : List Nat) (items : List (List D)) (bx : List (Nat × List V)) (tk : List Tok),
                  itemsK (fun s' kn ke kr => ev T CV C A assign 0 R ⟨fun s1 => ev T CV C A body 0 R ⟨kn, ke, kr⟩ s1, fun _ _ => none, fun _ => none⟩ s') n ps sv ids tks k items bx tk = some r →
                  ∃ xs : X × St, disp k xs = some r ∧ ∀ (R' : Type) (k' : Kont R'), itemsK (fun s' kn ke kr => ev T CV C A assign 0 R' ⟨fun s1 => ev T CV C A body 0 R' ⟨kn, ke, kr⟩ s1, fun _ _ => none, fun _ => none⟩ s') n ps sv ids tks k' items bx tk = disp k' xs := by
                intro n ps sv ids tks items
                induction items with
                | nil => intro bx tk h; exact ⟨(.normal, ⟨sv, bx, tk⟩), h, fun _ _ => rfl⟩
                | cons item rest ih =>
                  intro bx tk h
                  unfold itemsK at h
                  cases hl : item.length == ps.length with
                  | false => rw [hl] at h; cases h
                  | true =>
                    rw [hl] at h
                    simp only [cond_true] at h
                    obtain ⟨⟨x1, s1⟩, h1, h2⟩ := ha 0 h
                    cases x1 with
                    | normal =>
                      obtain ⟨⟨x2, s2⟩, h3, h4⟩ := hb 0 (show ev T CV C A body 0 R _ s1 = some r from h1)
                      cases x2 with
                      | normal =>
                        obtain ⟨xs, h5, h6⟩ := ih _ _ (show itemsK _ n ps sv ids tks k rest _ _ = some r from h3)
                        refine ⟨xs, h5, fun R' k' => ?_⟩
                        unfold itemsK
                        rw [hl, cond_true]
                        exact (h2 R' _).trans ((h4 R' _).trans (h6 R' k'))
                      | exit j =>
                        refine ⟨(.exit j, ⟨sv, s2.boxes, s2.toks⟩), h3, fun R' k' => ?_⟩
                        unfold itemsK
                        rw [hl, cond_true]
                        exact (h2 R' _).trans (h4 R' _)
                      | ret =>
                        refine ⟨(.ret, ⟨sv, s2.boxes, s2.toks⟩), h3, fun R' k' => ?_⟩
                        unfold itemsK
                        rw [hl, cond_true]
                        exact (h2 R' _).trans (h4 R' _)
                    | exit j => cases h1
                    | ret => cases h1
              exact key _ _ _ _ _ _ _ _ h
      | _ => rw [hg] at h; cases h
    | _ => rw [hg] at h; cases h
  | _ => intro i R k r s h; cases h
theorem iter_det {f : St → Option (X × St)} : ∀ (n m : Nat) {s : St} {r r' : X × St}, iter f n s = some r → iter f m s = some r' → r = r' := by
  intro n
  induction n with
  | zero => intro m s r r' h; cases h
  | succ n ih =>
    intro m s r r' h h'
    cases m with
    | zero => cases h'
    | succ m =>
      unfold iter at h h'
      cases hf : f s with
      | none => rw [hf] at h; cases h
      | some xs =>
        obtain ⟨x, s1⟩ := xs
        rw [hf] at h h'
        cases x with
        | normal => exact ih m h h'
        | exit j => simp only [Option.some.injEq] at h h'; exact h.symm.trans h'
        | ret => simp only [Option.some.injEq] at h h'; exact h.symm.trans h'
theorem iter_evLoop {f : St → Option (X × St)} {n : Nat} {s : St} {r : X × St} (h : iter f n s = some r) : evLoop f s = some r := by
  have hex : ∃ n r, iter f n s = some r := ⟨n, r, h⟩
  have hs : evLoop f s = some hex.choose_spec.choose := by
    unfold evLoop
    rw [dif_pos hex]
  rw [hs]
  exact congrArg some (iter_det _ _ hex.choose_spec.choose_spec h)
theorem evLoop_eq (f : St → Option (X × St)) (s : St) : evLoop f s = match f s with
    | some (.normal, s') => evLoop f s'
    | r => r := by
  cases hl : evLoop f s with
  | some r =>
    obtain ⟨n, hn⟩ := evLoop_iter hl
    cases n with
    | zero => cases hn
    | succ n =>
      unfold iter at hn
      cases hf : f s with
      | none => rw [hf] at hn; cases hn
      | some xs =>
        obtain ⟨x, s1⟩ := xs
        rw [hf] at hn
        cases x with
        | normal => exact (iter_evLoop hn).symm
        | exit j => exact hn.symm
        | ret => exact hn.symm
  | none =>
    cases hf : f s with
    | none => rfl
    | some xs =>
      obtain ⟨x, s1⟩ := xs
      have hno : ∀ n r, iter f n s = some r → False := fun n r h => by
        rw [iter_evLoop h] at hl
        cases hl
      cases x with
      | normal =>
        simp only
        cases hl1 : evLoop f s1 with
        | none => rfl
        | some r =>
          obtain ⟨n, hn⟩ := evLoop_iter hl1
          exact (hno (n + 1) r (by unfold iter; rw [hf]; exact hn)).elim
      | exit j => exact (hno 1 (.exit j, s1) (by unfold iter; rw [hf])).elim
      | ret => exact (hno 1 (.ret, s1) (by unfold iter; rw [hf])).elim
/-- Code tells its end; then comes what is behind it. -/
theorem ev_end (c : Code) (i : Nat) {R : Type} (k : Kont R) (s : St) : ev T CV C A c i R k s = (ev T CV C A c i (X × St) .end s).bind (disp k) := by
  cases h : ev T CV C A c i R k s with
  | some r =>
    obtain ⟨xs, h1, h2⟩ := ev_k c i h
    have : ev T CV C A c i (X × St) .end s = some xs := (h2 _ .end).trans (by obtain ⟨x, s1⟩ := xs; cases x <;> rfl)
    rw [this]
    exact h1.symm
  | none =>
    cases he : ev T CV C A c i (X × St) .end s with
    | none => rfl
    | some xs =>
      obtain ⟨ys, h1, h2⟩ := ev_k c i he
      have hy : ys = xs := by
        obtain ⟨y, s1⟩ := ys
        cases y <;> exact Option.some.inj h1
      subst hy
      exact h.symm.trans (h2 R k)
/-- A loop, from its head on. -/
noncomputable def evL (T : TE) (CV : Nat → Nat → Option Conv) (C : CT) (A : Nat → Hd) (c : Code) (i : Nat) (R : Type) (k : Kont R) (s : St) : Option R :=
  (evLoop (fun s' => (ev T CV C A c i (X × St) .end s').map (headN (A i))) s).bind (dispatch k)
/-- A loop is a round, and then the loop. -/
theorem evL_eq (c : Code) (i : Nat) {R : Type} (k : Kont R) (s : St) : evL T CV C A c i R k s = ev T CV C A c i R { k with n := fun s' => evL T CV C A c i R k (s'.head (A i)) } s := by
  rw [ev_end]
  unfold evL
  rw [evLoop_eq]
  cases h : ev T CV C A c i (X × St) .end s with
  | none => rfl
  | some xs =>
    obtain ⟨x, s1⟩ := xs
    cases x <;> rfl
end
section
variable (T : TE) (CV : Nat → Nat → Option Conv) (C : CT) (A : Nat → Hd)
/-- What is behind a place in code. -/
noncomputable def kontAt : Code → Nat → List Nat → (R : Type) → Kont R → Kont R
  | .seq a b, i, 0 :: p, R, k => kontAt a i p R { k with n := ev T CV C A b i R k }
  | .seq _ b, i, _ :: p, R, k => kontAt b i p R k
  | .cond _ a b, i, j :: p, R, k => cond (j == 0) (kontAt a i p R k) (kontAt b i p R k)
  | .block i c, _, _ :: p, R, k => kontAt c i p R { k with e := fun j s' => cond (j == i) (k.n s') (k.e j s') }
  | .loop c, i, _ :: p, R, k => kontAt c i p R { k with n := ev T CV C A (.loop c) i R k }
  | _, _, _, _, k => k
/-- A loop in a function, from its head on (p: its place; i: its block). -/
noncomputable def loopIn (fn : Func) (p : List Nat) (i : Nat) {R : Type} (k : Kont R) (s : St) : Option R :=
  match fnAt fn p with
  | .loop c => evL T CV C A c i R (kontAt T CV C A (fnAt fn []) 0 p R k) s
  | _ => none
/-- A range over a function in a function, from the things on that are still to come. -/
noncomputable def itemsIn (fn : Func) (p : List Nat) {R : Type} (k : Kont R) (sv : List V) (ids tks : List Nat) (items : List (List D)) (bx : List (Nat × List V)) (tk : List Tok) : Option R :=
  match fnAt fn p with
  | .rangeFunc _ ps assign body => itemsK (fun s' kn ke kr => ev T CV C A assign 0 R ⟨fun s1 => ev T CV C A body 0 R ⟨kn, ke, kr⟩ s1, fun _ _ => none, fun _ => none⟩ s') (bodyId body) ps.toList sv ids tks (kontAt T CV C A (fnAt fn []) 0 p R k) items bx tk
  | _ => none
noncomputable def roundIn (fn : Func) (p : List Nat) (i : Nat) {R : Type} (k : Kont R) (s : St) : Option R :=
  match fnAt fn p with
  | .loop c => ev T CV C A c i R { kontAt T CV C A (fnAt fn []) 0 p R k with n := fun s' => evL T CV C A c i R (kontAt T CV C A (fnAt fn []) 0 p R k) (s'.head (A i)) } s
  | _ => none
theorem loopIn_eq (fn : Func) (p : List Nat) (i : Nat) {R : Type} (k : Kont R) (s : St) : loopIn T CV C A fn p i k s = roundIn T CV C A fn p i k s := by
  unfold loopIn roundIn
  split
  · rw [evL_eq]
  · rfl
end
end Go.Proofs.Ytcnedmkfcbcjkaa.Ra
