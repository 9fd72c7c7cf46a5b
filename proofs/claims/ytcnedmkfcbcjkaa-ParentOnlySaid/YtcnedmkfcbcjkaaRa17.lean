/- REGIONS THAT DRAW THEIR ORDER. -/
import Derived.Test.YtcnedmkfcbcjkaaRa16
set_option linter.unusedVariables false
set_option linter.unusedSimpArgs false
namespace Go.Proofs.Ytcnedmkfcbcjkaa.Ra
open Go Go.RowKit
set_option linter.unusedVariables false
set_option linter.unusedSimpArgs false
variable {w0 : World} {p0 : Base} {E : Env} {s : St} {a : Act} {w : World} {P : Program}

theorem asD_tmps (s : St) (l : List V) (v : V) : St.asD { s with tmps := l } v = s.asD v := rfl
theorem asDs_tmps (s : St) (l : List V) : ∀ vs : List V, St.asDs { s with tmps := l } vs = s.asDs vs := by
  intro vs
  induction vs with
  | nil => rfl
  | cons v vs ih => simp only [St.asDs, ih, asD_tmps]
theorem slen_tmps (s : St) (l : List V) (v : V) : slen { s with tmps := l } v = slen s v := rfl
section
variable {T : TE} {CV : Nat → Nat → Option Conv} {C : CT}
theorem buildK_param {R : Type} {fs : List (Nat × Bool × Nat)} {K : List Z → Option R} {r : R} : ∀ (l : List (Nat × Operand)) {cs : List Z}, buildK s fs l cs K = some r → ∃ v, K v = some r ∧ ∀ l2 : List V, (∀ x ∈ l, ({ s with tmps := l2 } : St).opnd x.2 = s.opnd x.2) →
    ∀ (R' : Type) (K' : List Z → Option R'), buildK { s with tmps := l2 } fs l cs K' = K' v := by
  intro l
  induction l with
  | nil => intro cs h; exact ⟨cs, h, fun _ _ _ _ => rfl⟩
  | cons x l ih =>
    intro cs h
    obtain ⟨f, x⟩ := x
    unfold buildK at h
    obtain ⟨hf, h1, h⟩ := Option.bind_eq_some_iff.1 h
    obtain ⟨y, h2, h⟩ := Option.bind_eq_some_iff.1 h
    cases h3 : decide (hf.1 + hf.2.2 ≤ cs.length) with
    | false => rw [h3] at h; cases h
    | true =>
      rw [h3] at h
      simp only [cond_true] at h
      cases h4 : hf.2.1 with
      | true =>
        rw [h4] at h
        simp only [cond_true] at h
        obtain ⟨ds, h5, h⟩ := Option.bind_eq_some_iff.1 h
        obtain ⟨v, g1, g2⟩ := ih h
        refine ⟨v, g1, fun l2 hl R' K' => ?_⟩
        have e1 : ({ s with tmps := l2 } : St).opnd x = s.opnd x := hl _ List.mem_cons_self
        unfold buildK
        rw [h1]
        simp only [Option.bind_some, e1, asD_tmps, h2, h3, h4, cond_true, h5]
        exact g2 l2 (fun x hx => hl x (List.mem_cons_of_mem _ hx)) R' K'
      | false =>
        rw [h4] at h
        simp only [cond_false] at h
        cases h5 : (y.one && hf.2.2 == 1) with
        | false => rw [h5] at h; cases h
        | true =>
          rw [h5] at h
          obtain ⟨v, g1, g2⟩ := ih h
          refine ⟨v, g1, fun l2 hl R' K' => ?_⟩
          have e1 : ({ s with tmps := l2 } : St).opnd x = s.opnd x := hl _ List.mem_cons_self
          unfold buildK
          rw [h1]
          simp only [Option.bind_some, e1, asD_tmps, h2, h3, h4, cond_true, cond_false, h5]
          exact g2 l2 (fun x hx => hl x (List.mem_cons_of_mem _ hx)) R' K'
theorem rowK_param {R : Type} {sz : Nat} {K : List D → Option R} {r : R} : ∀ (l : List (Nat × Operand)) {xs : List D}, rowK s sz l xs K = some r → ∃ v, K v = some r ∧ ∀ l2 : List V, (∀ x ∈ l, ({ s with tmps := l2 } : St).opnd x.2 = s.opnd x.2) →
    ∀ (R' : Type) (K' : List D → Option R'), rowK { s with tmps := l2 } sz l xs K' = K' v := by
  intro l
  induction l with
  | nil => intro xs h; exact ⟨xs, h, fun _ _ _ _ => rfl⟩
  | cons x l ih =>
    intro xs h
    obtain ⟨i, x⟩ := x
    unfold rowK at h
    obtain ⟨y, h2, h⟩ := Option.bind_eq_some_iff.1 h
    cases h3 : (y.fit sz && decide (i < xs.length)) with
    | false => rw [h3] at h; cases h
    | true =>
      rw [h3] at h
      obtain ⟨v, g1, g2⟩ := ih h
      refine ⟨v, g1, fun l2 hl R' K' => ?_⟩
      have e1 : ({ s with tmps := l2 } : St).opnd x = s.opnd x := hl _ List.mem_cons_self
      unfold rowK
      simp only [Option.bind_some, e1, asD_tmps, h2, h3, cond_true]
      exact g2 l2 (fun x hx => hl x (List.mem_cons_of_mem _ hx)) R' K'
theorem opnds_tmps {l2 : List V} {args : Array Operand} (h : ∀ x ∈ args, ({ s with tmps := l2 } : St).opnd x = s.opnd x) : args.toList.map ({ s with tmps := l2 } : St).opnd = args.toList.map s.opnd :=
  List.map_congr_left fun x hx => h x (by simpa using hx)
/-- What an operation gives hangs on its operands alone, and on nothing behind it. -/
theorem vOp_param {op : Op} {R : Type} {K : V → Option R} {r : R} (h : vOp T CV C op s K = some r) : ∃ v, K v = some r ∧ ∀ l2 : List V, (∀ x ∈ op.operands, ({ s with tmps := l2 } : St).opnd x = s.opnd x) →
    ∀ (R' : Type) (K' : V → Option R'), vOp T CV C op { s with tmps := l2 } K' = K' v := by
  cases op with
  | move x => exact ⟨_, h, fun l2 hl R' K' => by simp only [vOp, hl x (by simp [Op.operands])]⟩
  | assign x => exact ⟨_, h, fun l2 hl R' K' => by simp only [vOp, hl x (by simp [Op.operands])]⟩
  | pick c x y =>
    obtain ⟨b, hb, h⟩ := Option.bind_eq_some_iff.1 h
    cases b with
    | true => exact ⟨_, h, fun l2 hl R' K' => by simp only [vOp, hl c (by simp [Op.operands]), hl x (by simp [Op.operands]), hb, Option.bind_some, cond_true]⟩
    | false => exact ⟨_, h, fun l2 hl R' K' => by simp only [vOp, hl c (by simp [Op.operands]), hl y (by simp [Op.operands]), hb, Option.bind_some, cond_false]⟩
  | load t x =>
    obtain ⟨i, hi, h⟩ := Option.bind_eq_some_iff.1 h
    cases ho : s.opnd x with
    | d y =>
      simp only [ho] at h
      obtain ⟨z, hz, h⟩ := Option.bind_eq_some_iff.1 h
      exact ⟨_, h, fun l2 hl R' K' => by simp only [vOp, hl x (by simp [Op.operands]), hi, Option.bind_some, ho, hz]⟩
    | box b o =>
      simp only [ho] at h
      obtain ⟨cs, hb, h⟩ := Option.bind_eq_some_iff.1 h
      cases h4 : i.1 with
      | true =>
        rw [h4] at h
        simp only [cond_true] at h
        cases h5 : decide (o + i.2 ≤ cs.length) with
        | false => rw [h5] at h; cases h
        | true =>
          rw [h5] at h
          simp only [cond_true] at h
          obtain ⟨ds, hds, h⟩ := Option.bind_eq_some_iff.1 h
          exact ⟨_, h, fun l2 hl R' K' => by simp only [vOp, hl x (by simp [Op.operands]), hi, Option.bind_some, ho, hb, h4, h5, cond_true, asDs_tmps, hds]⟩
      | false =>
        rw [h4] at h
        simp only [cond_false] at h
        obtain ⟨v, hv, h⟩ := Option.bind_eq_some_iff.1 h
        exact ⟨_, h, fun l2 hl R' K' => by simp only [vOp, hl x (by simp [Op.operands]), hi, Option.bind_some, ho, hb, h4, cond_false, hv]⟩
    | elp t' j o =>
      simp only [ho] at h
      obtain ⟨q, hq, h⟩ := Option.bind_eq_some_iff.1 h
      obtain ⟨x', hx', h⟩ := Option.bind_eq_some_iff.1 h
      obtain ⟨y, hy, h⟩ := Option.bind_eq_some_iff.1 h
      exact ⟨_, h, fun l2 hl R' K' => by simp only [vOp, hl x (by simp [Op.operands]), hi, Option.bind_some, ho, hq, hx', hy]⟩
    | _ => simp only [ho] at h; cases h
  | fieldAddr t x f =>
    obtain ⟨i, hi, h⟩ := Option.bind_eq_some_iff.1 h
    cases ho : s.opnd x with
    | d y =>
      simp only [ho] at h
      obtain ⟨z, hz, h⟩ := Option.bind_eq_some_iff.1 h
      exact ⟨_, h, fun l2 hl R' K' => by simp only [vOp, hl x (by simp [Op.operands]), hi, Option.bind_some, ho, hz]⟩
    | box b o => simp only [ho] at h; exact ⟨_, h, fun l2 hl R' K' => by simp only [vOp, hl x (by simp [Op.operands]), hi, Option.bind_some, ho]⟩
    | elp t' j o => simp only [ho] at h; exact ⟨_, h, fun l2 hl R' K' => by simp only [vOp, hl x (by simp [Op.operands]), hi, Option.bind_some, ho]⟩
    | _ => simp only [ho] at h; cases h
  | indexAddr t x ix =>
    obtain ⟨i, hi, h⟩ := Option.bind_eq_some_iff.1 h
    obtain ⟨z, hz, h⟩ := Option.bind_eq_some_iff.1 h
    cases ho : s.opnd x with
    | own t' =>
      simp only [ho] at h
      obtain ⟨q, hq, h⟩ := Option.bind_eq_some_iff.1 h
      cases hb : (q.sz == i.size && decide (0 ≤ z.2) && decide (z.2 < q.xs.length)) with
      | false => rw [hb] at h; cases h
      | true =>
        rw [hb] at h
        exact ⟨_, h, fun l2 hl R' K' => by simp only [vOp, hl x (by simp [Op.operands]), hl ix (by simp [Op.operands]), hi, Option.bind_some, ho, hz, hq, hb, cond_true]⟩
    | d y =>
      simp only [ho] at h
      obtain ⟨y', hy', h⟩ := Option.bind_eq_some_iff.1 h
      exact ⟨_, h, fun l2 hl R' K' => by simp only [vOp, hl x (by simp [Op.operands]), hl ix (by simp [Op.operands]), hi, Option.bind_some, ho, hz, hy']⟩
    | _ => simp only [ho] at h; cases h
  | index t x ix =>
    simp only [vOp] at h
    split at h
    · rename_i len e z1 z2 z3 ht
      obtain ⟨ei, hei, h⟩ := Option.bind_eq_some_iff.1 h
      obtain ⟨z, hz, h⟩ := Option.bind_eq_some_iff.1 h
      obtain ⟨b, hb, h⟩ := Option.bind_eq_some_iff.1 h
      obtain ⟨y, hy, h⟩ := Option.bind_eq_some_iff.1 h
      exact ⟨_, h, fun l2 hl R' K' => by simp only [vOp, ht, hl x (by simp [Op.operands]), hl ix (by simp [Op.operands]), hei, Option.bind_some, hz, asD_tmps, hb, hy]⟩
    · cases h
  | binOp op t x y t2 =>
    obtain ⟨b, hb, h⟩ := Option.bind_eq_some_iff.1 h
    obtain ⟨c, hc, h⟩ := Option.bind_eq_some_iff.1 h
    cases hbb : isBool T t <;> simp only [hbb, cond_true, cond_false] at h <;>
    · obtain ⟨d, hd, h⟩ := Option.bind_eq_some_iff.1 h
      exact ⟨_, h, fun l2 hl R' K' => by simp only [vOp, hl x (by simp [Op.operands]), hl y (by simp [Op.operands]), Option.bind_some, asD_tmps, hb, hc, hbb, cond_true, cond_false, hd]⟩
  | unOp op t x =>
    cases op <;> try (cases h; done)
    obtain ⟨b, hb, h⟩ := Option.bind_eq_some_iff.1 h
    obtain ⟨d, hd, h⟩ := Option.bind_eq_some_iff.1 h
    exact ⟨_, h, fun l2 hl R' K' => by simp only [vOp, hl x (by simp [Op.operands]), Option.bind_some, asD_tmps, hb, hd]⟩
  | convert t u x =>
    obtain ⟨c, hc, h⟩ := Option.bind_eq_some_iff.1 h
    obtain ⟨b, hb, h⟩ := Option.bind_eq_some_iff.1 h
    obtain ⟨d, hd, h⟩ := Option.bind_eq_some_iff.1 h
    exact ⟨_, h, fun l2 hl R' K' => by simp only [vOp, hl x (by simp [Op.operands]), Option.bind_some, asD_tmps, hc, hb, hd]⟩
  | slice t x lo hi mx =>
    obtain ⟨i, hi', h⟩ := Option.bind_eq_some_iff.1 h
    obtain ⟨n, hnn, h⟩ := Option.bind_eq_some_iff.1 h
    obtain ⟨l, hl0, h⟩ := Option.bind_eq_some_iff.1 h
    obtain ⟨hh, hhi, h⟩ := Option.bind_eq_some_iff.1 h
    obtain ⟨uu, hmx, h⟩ := Option.bind_eq_some_iff.1 h
    obtain ⟨b, hb, h⟩ := Option.bind_eq_some_iff.1 h
    obtain ⟨d, hd, h⟩ := Option.bind_eq_some_iff.1 h
    refine ⟨_, h, fun l2 hl R' K' => ?_⟩
    have bnd : ∀ (y : Option Operand) (n : Int), (∀ x, y = some x → ({ s with tmps := l2 } : St).opnd x = s.opnd x) → bound { s with tmps := l2 } y n = bound s y n := by
      intro y n hy
      cases y with
      | none => rfl
      | some y => simp only [bound, hy y rfl]
    have e1 := bnd lo 0 fun x hx => hl x (by subst hx; simp [Op.operands])
    have e2 := bnd hi n fun x hx => hl x (by subst hx; simp [Op.operands])
    cases mx with
    | none => simp only [vOp, hl x (by simp [Op.operands]), hi', Option.bind_some, slen_tmps, hnn, e1, e2, hl0, hhi, asD_tmps, hb, hd]
    | some m =>
      simp only at hmx
      simp only [vOp, hl x (by simp [Op.operands]), hl m (by simp [Op.operands]), hi', Option.bind_some, slen_tmps, hnn, e1, e2, hl0, hhi, asD_tmps, hmx, hb, hd]
  | build t parts =>
    have hmem : ∀ l2 : List V, (∀ x ∈ (Op.build t parts).operands, ({ s with tmps := l2 } : St).opnd x = s.opnd x) → ∀ x ∈ parts.toList, ({ s with tmps := l2 } : St).opnd x.2 = s.opnd x.2 := fun l2 hl x hx => hl x.2 (by simp only [Op.operands, List.mem_toArray, List.mem_map]; exact ⟨x, hx, rfl⟩)
    simp only [vOp] at h
    split at h
    · rename_i fs z1 z2 z ht
      obtain ⟨v, g1, g2⟩ := buildK_param _ h
      exact ⟨_, g1, fun l2 hl R' K' => by simp only [vOp, ht]; exact g2 l2 (hmem l2 hl) R' _⟩
    · rename_i len e z1 z2 z ht
      obtain ⟨ei, hei, h⟩ := Option.bind_eq_some_iff.1 h
      cases hb : (!ei.1 && ei.2 == 1) with
      | false => rw [hb] at h; cases h
      | true =>
        rw [hb] at h
        obtain ⟨v, g1, g2⟩ := buildK_param _ h
        exact ⟨_, g1, fun l2 hl R' K' => by simp only [vOp, ht, hei, Option.bind_some, hb, cond_true]; exact g2 l2 (hmem l2 hl) R' _⟩
    · cases h
  | buildSlice t len parts =>
    have hmem : ∀ l2 : List V, (∀ x ∈ (Op.buildSlice t len parts).operands, ({ s with tmps := l2 } : St).opnd x = s.opnd x) → ∀ x ∈ parts.toList, ({ s with tmps := l2 } : St).opnd x.2 = s.opnd x.2 := fun l2 hl x hx => hl x.2 (by simp only [Op.operands, List.mem_toArray, List.mem_map]; exact ⟨x, hx, rfl⟩)
    obtain ⟨i, hi, h⟩ := Option.bind_eq_some_iff.1 h
    cases hb : decide (len * i.size ≤ 16777216) with
    | false => rw [hb] at h; cases h
    | true =>
      rw [hb] at h
      obtain ⟨v, g1, g2⟩ := rowK_param _ h
      exact ⟨_, g1, fun l2 hl R' K' => by simp only [vOp, hi, Option.bind_some, hb, cond_true]; exact g2 l2 (hmem l2 hl) R' _⟩
  | extract x ix =>
    obtain ⟨b, hb, h⟩ := Option.bind_eq_some_iff.1 h
    obtain ⟨d, hd, h⟩ := Option.bind_eq_some_iff.1 h
    exact ⟨_, h, fun l2 hl R' K' => by simp only [vOp, hl x (by simp [Op.operands]), Option.bind_some, asD_tmps, hb, hd]⟩
  | call c =>
    obtain ⟨callee, args, ts⟩ := c
    cases callee with
    | invoke => cases h
    | value f =>
      have hargs : ∀ l2 : List V, (∀ x ∈ (Op.call ⟨.value f, args, ts⟩).operands, ({ s with tmps := l2 } : St).opnd x = s.opnd x) → args.toList.map ({ s with tmps := l2 } : St).opnd = args.toList.map s.opnd := fun l2 hl => opnds_tmps fun x hx => hl x (by simp [Op.operands, Call.operands, hx])
      cases f with
      | func f =>
        obtain ⟨ds, hds, h⟩ := Option.bind_eq_some_iff.1 h
        cases hcf : C f with
        | none => rw [hcf] at h; cases h
        | some en =>
          rw [hcf] at h
          cases en with
          | pure F =>
            obtain ⟨y, hy, h⟩ := Option.bind_eq_some_iff.1 h
            exact ⟨_, h, fun l2 hl R' K' => by simp only [vOp, hargs l2 hl, asDs_tmps, hds, Option.bind_some, hcf, hy]⟩
          | own sz F =>
            obtain ⟨y, hy, h⟩ := Option.bind_eq_some_iff.1 h
            exact ⟨_, h, fun l2 hl R' K' => by simp only [vOp, hargs l2 hl, asDs_tmps, hds, Option.bind_some, hcf, hy]⟩
          | nown sz F => cases h
          | seq F => cases h
      | tmp t =>
        obtain ⟨c, hc, h⟩ := Option.bind_eq_some_iff.1 h
        obtain ⟨ge, hge, h⟩ := Option.bind_eq_some_iff.1 h
        obtain ⟨ds, hds, h⟩ := Option.bind_eq_some_iff.1 h
        cases hcf : C ge.1 with
        | none => simp only [hcf] at h; cases h
        | some en =>
          cases en with
          | pure F =>
            simp only [hcf] at h
            obtain ⟨y, hy, h⟩ := Option.bind_eq_some_iff.1 h
            refine ⟨_, h, fun l2 hl R' K' => ?_⟩
            have ht : ({ s with tmps := l2 } : St).get t = s.get t := hl (.tmp t) (by simp [Op.operands, Call.operands])
            simp only [vOp, ht, asD_tmps, hc, hge, hargs l2 hl, asDs_tmps, hds, Option.bind_some, hcf, hy]
          | own sz F => simp only [hcf] at h; cases h
          | nown sz F => simp only [hcf] at h; cases h
          | seq F => simp only [hcf] at h; cases h
      | const v => cases h
      | global g => cases h
    | builtin b =>
      have hargs : ∀ l2 : List V, (∀ x ∈ (Op.call ⟨.builtin b, args, ts⟩).operands, ({ s with tmps := l2 } : St).opnd x = s.opnd x) → ∀ x ∈ args.toList, ({ s with tmps := l2 } : St).opnd x = s.opnd x := fun l2 hl x hx => hl x (by simp only [Op.operands, Call.operands]; simpa using hx)
      cases b <;> try (cases h; done)
      case len =>
        simp only [vOp] at h
        split at h
        · rename_i x t ha ht
          obtain ⟨i, hi, h⟩ := Option.bind_eq_some_iff.1 h
          obtain ⟨n, hnn, h⟩ := Option.bind_eq_some_iff.1 h
          exact ⟨_, h, fun l2 hl R' K' => by simp only [vOp, ha, ht, hargs l2 hl x (by simp [ha]), hi, Option.bind_some, slen_tmps, hnn]⟩
        · cases h
      case min =>
        simp only [vOp] at h
        split at h
        · rename_i x y ha
          obtain ⟨b, hb, h⟩ := Option.bind_eq_some_iff.1 h
          obtain ⟨c, hc, h⟩ := Option.bind_eq_some_iff.1 h
          obtain ⟨d, hd, h⟩ := Option.bind_eq_some_iff.1 h
          exact ⟨_, h, fun l2 hl R' K' => by simp only [vOp, ha, hargs l2 hl x (by simp [ha]), hargs l2 hl y (by simp [ha]), Option.bind_some, asD_tmps, hb, hc, hd]⟩
        · cases h
      case max =>
        simp only [vOp] at h
        split at h
        · rename_i x y ha
          obtain ⟨b, hb, h⟩ := Option.bind_eq_some_iff.1 h
          obtain ⟨c, hc, h⟩ := Option.bind_eq_some_iff.1 h
          obtain ⟨d, hd, h⟩ := Option.bind_eq_some_iff.1 h
          exact ⟨_, h, fun l2 hl R' K' => by simp only [vOp, ha, hargs l2 hl x (by simp [ha]), hargs l2 hl y (by simp [ha]), Option.bind_some, asD_tmps, hb, hc, hd]⟩
        · cases h
  | nilCheck x =>
    simp only [vOp] at h
    cases ho : s.opnd x with
    | d y =>
      simp only [ho] at h
      obtain ⟨z, hz, h⟩ := Option.bind_eq_some_iff.1 h
      exact ⟨_, h, fun l2 hl R' K' => by simp only [vOp, hl x (by simp [Op.operands]), Option.bind_some, ho, hz]⟩
    | box b o => simp only [ho] at h; exact ⟨_, h, fun l2 hl R' K' => by simp only [vOp, hl x (by simp [Op.operands]), ho]⟩
    | elp t' j o => simp only [ho] at h; exact ⟨_, h, fun l2 hl R' K' => by simp only [vOp, hl x (by simp [Op.operands]), ho]⟩
    | _ => simp only [ho] at h; cases h
  | _ => cases h
end
end Go.Proofs.Ytcnedmkfcbcjkaa.Ra
