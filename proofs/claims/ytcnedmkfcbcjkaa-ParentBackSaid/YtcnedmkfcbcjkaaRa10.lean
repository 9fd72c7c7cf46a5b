/- EVERY OPERATION THAT TURNS NOTHING. -/
import Derived.Test.YtcnedmkfcbcjkaaRa9
set_option linter.unusedVariables false
set_option linter.unusedSimpArgs false
namespace Go.Proofs.Ytcnedmkfcbcjkaa.Ra
open Go Go.RowKit
set_option linter.unusedVariables false
set_option linter.unusedSimpArgs false
variable {w0 : World} {p0 : Base} {E : Env} {s : St} {a : Act} {w : World} {P : Program}

theorem min_ok {p : Nat → Nat → Prop} {x y d : D} {u v : Value} (hx : Rep w p x u) (hy : Rep w p y v) (h : minD x y = some d) {ts : Array TypeId} {ty : TypeId} : ∃ r, (Builtin.min_ ts ty #[u, v]).run P w = .ok r w ∧ Rep w p d r := by
  cases hx <;> try (cases h; done)
  cases hy <;> try (cases h; done)
  simp only [minD] at h
  split at h
  · cases h
    exact ⟨_, by simp only [Builtin.min_, List.foldlM_cons, List.foldlM_nil, Builtin.min2]; rfl, .int _ _⟩
  · cases h
theorem max_ok {p : Nat → Nat → Prop} {x y d : D} {u v : Value} (hx : Rep w p x u) (hy : Rep w p y v) (h : maxD x y = some d) {ts : Array TypeId} {ty : TypeId} : ∃ r, (Builtin.max_ ts ty #[u, v]).run P w = .ok r w ∧ Rep w p d r := by
  cases hx <;> try (cases h; done)
  cases hy <;> try (cases h; done)
  simp only [maxD] at h
  split at h
  · cases h
    exact ⟨_, by simp only [Builtin.max_, List.foldlM_cons, List.foldlM_nil, Builtin.max2]; rfl, .int _ _⟩
  · cases h
theorem wp_value {o : Oper} {u : Value} {w' : World} {next : Act → World → Prop} {Q : Exit → Act → World → Prop} (h : (execOp a.eval o).run P w = .ok (.value u) w') (hn : next (a.put o.dst u) w') : o.wp P a w next Q := by
  unfold Oper.wp
  rw [h]
  exact hn
theorem wp_enter {o : Oper} {f : FuncId} {vs : Array Value} {next : Act → World → Prop} {Q : Exit → Act → World → Prop} (h : (execOp a.eval o).run P w = .ok (.enter f vs) w)
    (hc : Calls P f vs w fun e w' => ∃ v, e = .returned v ∧ next (a.put o.dst v) w') : o.wp P a w next Q := by
  unfold Oper.wp
  rw [h]
  refine hc.mono fun e w' he => ?_
  obtain ⟨v, rfl, hv⟩ := he
  exact hv
def pNew (p : Nat → Nat → Prop) (w w' : World) (b o : Nat) : Prop := p b o ∨ w.heap.size ≤ b ∧ b < w'.heap.size
theorem RowOk.rep_new {w' : World} {p : Nat → Nat → Prop} {sz : Nat} {xs : List D} {v : Value} {β : Option Nat} (h : RowOk w.heap.size w' (fun b o => p b o ∨ w.heap.size ≤ b ∧ b < w'.heap.size ∧ β ≠ some b) true sz xs v β) : Rep w' (pNew p w w') (.sl xs) v := by
  refine (shareRow h).mono fun b o hb => ?_
  rcases hb with (hb | hb) | ⟨hb, ho⟩
  · exact .inl hb
  · exact .inr ⟨hb.1, hb.2.1⟩
  · obtain ⟨_, A, c, vs, _, _, _, _, _, k | ⟨g, cur, e, k1, _, k3, k4, _⟩⟩ := h
    · rw [k.1] at hb; cases hb
    · rw [k1] at hb
      cases hb
      exact .inr ⟨k3, heap_lt k4⟩
theorem call_pure (h : Rel w0 p0 E s a w) {f : Nat} {F : List D → Option D} (hF : OkPure P f F) {ds : List D} {vs : Array Value} {y : D} (hy : F ds = some y) (hr : Reps w E.p ds vs) {o : Oper} {next : Act → World → Prop} {Q : Exit → Act → World → Prop}
    (he : (execOp a.eval o).run P w = .ok (.enter f vs) w)
    (hn : ∀ u w', Below w.heap.size w w' → Rep w' (pNew E.p w w') y u → next (a.put o.dst u) w') : o.wp P a w next Q := by
  refine wp_enter he ((hF.2 w E.p ds vs y h.inv hy hr h.pin).mono fun e w' hw => ?_)
  obtain ⟨v, rfl, h1, h2⟩ := hw
  exact ⟨v, rfl, hn v w' h1 h2⟩
theorem run_call_static {f : Nat} {args : Array Operand} {ts : Array TypeId} {dst : Option Tmp} {ty : TypeId} {pos : String} {after : Array Edge} {g : Option (Nat × Bool)} (hE : Enters P f) :
    (execOp a.eval ⟨dst, .call ⟨.value (.func f), args, ts⟩, ty, pos, after, g⟩).run P w = .ok (.enter f (args.map a.eval)) w := by
  have := hE (args.map a.eval) w
  simp only [execOp, resolve, Act.eval, Deferred.ofValue, Sem.run_bind, Sem.run_pure, Result.andThen_ok, invoke, Array.append_empty, Array.empty_append, this]
theorem run_call_dyn {t g : Nat} {vs : Array Value} {args : Array Operand} {ts : Array TypeId} {dst : Option Tmp} {ty : TypeId} {pos : String} {after : Array Edge} {gd : Option (Nat × Bool)} (hE : Enters P g) (hu : a.eval (.tmp t) = .func (.func g) #[] vs) :
    (execOp a.eval ⟨dst, .call ⟨.value (.tmp t), args, ts⟩, ty, pos, after, gd⟩).run P w = .ok (.enter g (args.map a.eval ++ vs)) w := by
  have := hE (args.map a.eval ++ vs) w
  simp only [execOp, resolve, hu, Deferred.ofValue, Sem.run_bind, Sem.run_pure, Result.andThen_ok, invoke, Array.empty_append, this]
theorem Rel.args (h : Rel w0 p0 E s a w) {args : Array Operand} {ds : List D} (hd : s.asDs (args.toList.map s.opnd) = some ds) : Reps w E.p ds (args.map a.eval) := by
  have := h.asDs hd
  have he : (args.toList.map a.eval).toArray = args.map a.eval := by cases args; simp
  rwa [he] at this
theorem Reps.append {p : Nat → Nat → Prop} {ds es : List D} {us vs : Array Value} (h : Reps w p ds us) (k : Reps w p es vs) : Reps w p (ds ++ es) (us ++ vs) := by
  refine ⟨by simp [h.1, k.1], fun j d v hd hv => ?_⟩
  rw [List.getElem?_append] at hd
  rw [Array.getElem?_append] at hv
  have := h.1
  split at hd
  · rw [if_pos (by omega)] at hv
    exact h.2 j d v hd hv
  · rw [if_neg (by omega)] at hv
    exact k.2 _ d v hd (by rw [← this]; exact hv)

section
variable {T : TE} {CV : Nat → Nat → Option Conv} {C : CT}
theorem vOp_sound (hT : TOk P T) (hV : CVOk P CV) (hC : COk P C) {o : Oper} {R : Type} {k : V → Option R} {r : R} (h : vOp T CV C o.op s k = some r) (hr : Rel w0 p0 E s a w) {next : Act → World → Prop} {Q : Exit → Act → World → Prop}
    (hn : ∀ v u w' p', k v = some r → Rel w0 p0 { E with p := p' } s a w' → Ext w E.p w' p' → Below w.heap.size w w' → RepV w' { E with p := p' } v u → next (a.put o.dst u) w') : o.wp P a w next Q := by
  obtain ⟨dst, op, ty, pos, after, guard⟩ := o
  have plain : ∀ (u : Value) (v : V), (execOp a.eval ⟨dst, op, ty, pos, after, guard⟩).run P w = .ok (.value u) w → k v = some r → RepV w E v u → Oper.wp P ⟨dst, op, ty, pos, after, guard⟩ a w next Q :=
    fun u v h1 h2 h3 => wp_value h1 (hn v u w E.p h2 hr (Ext.refl _ _) (Below.refl _ _) h3)
  have grown : ∀ {w' : World} (hb : Below w.heap.size w w'), Rel w0 p0 { E with p := pNew E.p w w' } s a w' ∧ Ext w E.p w' (pNew E.p w w') := fun hb => hr.grow hb (fun b o h => .inl h) (fun b o h => h)
  have pureCall : ∀ (f : Nat) (F : List D → Option D) (ds : List D) (vs : Array Value), OkPure P f F → Reps w E.p ds vs → (execOp a.eval ⟨dst, op, ty, pos, after, guard⟩).run P w = .ok (.enter f vs) w →
      ((F ds).bind fun y => k (.d y)) = some r → Oper.wp P ⟨dst, op, ty, pos, after, guard⟩ a w next Q := by
    intro f F ds vs hF hrs he hk
    obtain ⟨y, hy, hk⟩ := Option.bind_eq_some_iff.1 hk
    refine call_pure hr hF hy hrs he fun u w' hb hu => ?_
    obtain ⟨g1, g2⟩ := grown hb
    exact hn _ u w' _ hk g1 g2 hb hu
  cases op with
  | move x => exact plain _ _ (by simp [execOp]) h (hr.opnd x)
  | assign x => exact plain _ _ (by simp [execOp]) h (hr.opnd x)
  | pick c x y =>
    obtain ⟨b, hb, h⟩ := Option.bind_eq_some_iff.1 h
    have hc := asB_spec (hr.opnd c) hb
    cases b with
    | true => exact plain _ _ (by simp [execOp, hc, asBool]) h (hr.opnd x)
    | false => exact plain _ _ (by simp [execOp, hc, asBool]) h (hr.opnd y)
  | load t x =>
    obtain ⟨kd, hk, h⟩ := Option.bind_eq_some_iff.1 h
    obtain ⟨i, _, hi, rfl⟩ := kindOf_spec hT hk
    have ho := hr.opnd x
    generalize s.opnd x = v at h ho
    cases v with
    | d y =>
      obtain ⟨z, hz, h⟩ := Option.bind_eq_some_iff.1 h
      obtain ⟨u', h1, h2⟩ := load_ro (P := P) hi (show Rep w E.p y _ from ho) hz
      exact plain u' _ (exec_v h1) h h2
    | box b off =>
      obtain ⟨cs, hb, h⟩ := Option.bind_eq_some_iff.1 h
      obtain ⟨l1, l2⟩ := load_box hr hi hb ho
      cases hag : i.kind.agg with
      | true =>
        simp only [hag, cond_true] at h
        cases hd : decide (off + i.size ≤ cs.length) with
        | false => rw [hd] at h; cases h
        | true =>
          rw [hd] at h
          simp only [cond_true] at h
          obtain ⟨ds, hds, h⟩ := Option.bind_eq_some_iff.1 h
          obtain ⟨u', h1, h2⟩ := l1 hag ds (by simpa using hd) hds
          exact plain u' _ (exec_v h1) h h2
      | false =>
        simp only [hag, cond_false] at h
        obtain ⟨v, hv, h⟩ := Option.bind_eq_some_iff.1 h
        obtain ⟨u', h1, h2⟩ := l2 hag v hv
        exact plain u' _ (exec_v h1) h h2
    | elp t' j off =>
      obtain ⟨q, hq, h⟩ := Option.bind_eq_some_iff.1 h
      obtain ⟨x', hx', h⟩ := Option.bind_eq_some_iff.1 h
      obtain ⟨y, hy, h⟩ := Option.bind_eq_some_iff.1 h
      obtain ⟨u', h1, h2⟩ := load_elp hr hi hq ho hx' hy
      exact plain u' _ (exec_v h1) h h2
    | _ => cases h
  | fieldAddr t x f =>
    obtain ⟨off, hf, h⟩ := Option.bind_eq_some_iff.1 h
    have hrun := fieldOff_spec hT hf w
    have ho := hr.opnd x
    generalize s.opnd x = v at h ho
    cases v with
    | d y =>
      obtain ⟨z, hz, h⟩ := Option.bind_eq_some_iff.1 h
      obtain ⟨ad, h1, h2, h3⟩ := ro_drop (show Rep w E.p y _ from ho) hz
      have := hrun ad h1
      rw [← h2] at this
      exact plain _ _ (exec_v this) h h3
    | box b o =>
      obtain ⟨g, h1, h2⟩ := ho
      have := hrun ⟨g, o, none⟩ rfl
      rw [← h2] at this
      exact plain _ _ (exec_v this) h ⟨g, h1, rfl⟩
    | elp t' j o =>
      obtain ⟨ad, n, c, sz, h1, h2, h3⟩ := ho
      have := hrun ⟨ad.block, ad.off + (j * sz + o), none⟩ rfl
      rw [← h3] at this
      exact plain _ _ (exec_v this) h ⟨ad, n, c, sz, h1, h2, by simp [Nat.add_assoc]⟩
    | _ => cases h
  | indexAddr t x ix =>
    obtain ⟨i, hi, h⟩ := Option.bind_eq_some_iff.1 h
    obtain ⟨e, h1, h2⟩ := elemOf_spec hT hi
    obtain ⟨z, hz, h⟩ := Option.bind_eq_some_iff.1 h
    have hz' := asI_spec (hr.opnd ix) hz
    have ho := hr.opnd x
    generalize s.opnd x = v at h ho
    cases v with
    | own t' =>
      obtain ⟨q, hq, h⟩ := Option.bind_eq_some_iff.1 h
      cases hb : (q.sz == i.size && decide (0 ≤ z.2) && decide (z.2 < q.xs.length)) with
      | false => rw [hb] at h; cases h
      | true =>
        rw [hb] at h
        simp only [Bool.and_eq_true, beq_iff_eq, decide_eq_true_eq] at hb
        obtain ⟨u', g1, g2⟩ := index_own (P := P) hr h1 h2 hq ho hb.1.1 (k := z.1) hb.1.2 hb.2
        exact plain u' _ (exec_v (by rw [hz']; exact g1)) h g2
    | d y =>
      obtain ⟨x', hx', h⟩ := Option.bind_eq_some_iff.1 h
      obtain ⟨u', g1, g2⟩ := index_ro (P := P) h1 h2 (k := z.1) (show Rep w E.p y _ from ho) hx'
      exact plain u' _ (exec_v (by rw [hz']; exact g1)) h g2
    | _ => cases h
  | index t x ix =>
    simp only [vOp] at h
    split at h
    · rename_i len e _ _ _ ht
      obtain ⟨ei, hei, h⟩ := Option.bind_eq_some_iff.1 h
      obtain ⟨i, _, hi, rfl⟩ := kindOf_spec hT hei
      obtain ⟨z, hz, h⟩ := Option.bind_eq_some_iff.1 h
      obtain ⟨b, hb, h⟩ := Option.bind_eq_some_iff.1 h
      obtain ⟨y, hy, h⟩ := Option.bind_eq_some_iff.1 h
      have hz' := asI_spec (hr.opnd ix) hz
      obtain ⟨u', g1, g2⟩ := arr_at (hT t _ ht).kind hi (k := z.1) (hr.asD (hr.opnd x) hb) hy
      exact plain u' _ (exec_v (by rw [hz']; exact g1)) h g2
    · cases h
  | binOp op t x y t2 =>
    obtain ⟨b, hb, h⟩ := Option.bind_eq_some_iff.1 h
    obtain ⟨c, hc, h⟩ := Option.bind_eq_some_iff.1 h
    have h' : ((cond (isBool T t) (boolD op b c) (binD op b c)).bind fun y => k (.d y)) = some r := by
      cases hbb : isBool T t <;> rw [hbb] at h <;> exact h
    obtain ⟨d, hd, h⟩ := Option.bind_eq_some_iff.1 h'
    obtain ⟨u', g1, g2⟩ := bin_ok hT op x y (hr.asD (hr.opnd x) hb) (hr.asD (hr.opnd y) hc) hd
    exact plain u' _ (exec_v g1) h g2
  | unOp op t x =>
    cases op <;> try (cases h; done)
    obtain ⟨b, hb, h⟩ := Option.bind_eq_some_iff.1 h
    obtain ⟨d, hd, h⟩ := Option.bind_eq_some_iff.1 h
    obtain ⟨u', g1, g2⟩ := not_ok (P := P) (hr.asD (hr.opnd x) hb) hd
    exact plain u' _ (exec_v g1) h g2
  | convert t u x =>
    obtain ⟨c, hc, h⟩ := Option.bind_eq_some_iff.1 h
    obtain ⟨b, hb, h⟩ := Option.bind_eq_some_iff.1 h
    obtain ⟨d, hd, h⟩ := Option.bind_eq_some_iff.1 h
    obtain ⟨u', g1, g2⟩ := conv_ok hV hc (hr.asD (hr.opnd x) hb) hd
    exact plain u' _ (exec_v g1) h g2
  | slice t x lo hi mx =>
    obtain ⟨i, hi', h⟩ := Option.bind_eq_some_iff.1 h
    obtain ⟨n, hnn, h⟩ := Option.bind_eq_some_iff.1 h
    obtain ⟨l, hl, h⟩ := Option.bind_eq_some_iff.1 h
    obtain ⟨hh, hhi, h⟩ := Option.bind_eq_some_iff.1 h
    obtain ⟨uu, hmx, h⟩ := Option.bind_eq_some_iff.1 h
    obtain ⟨b, hb, h⟩ := Option.bind_eq_some_iff.1 h
    obtain ⟨d, hd, h⟩ := Option.bind_eq_some_iff.1 h
    obtain ⟨u', g1, g2⟩ := slice_ok hr hT hi' hnn hl hhi hmx hb hd
    exact plain u' _ (exec_v g1) h g2
  | build t parts =>
    simp only [vOp] at h
    split at h
    · rename_i fs _ _ z ht
      obtain ⟨cs, u', g1, g2, g3⟩ := build_ok hr hT ht h
      exact plain u' _ (exec_v g2) g1 g3
    · rename_i len e _ _ z ht
      obtain ⟨ei, hei, h⟩ := Option.bind_eq_some_iff.1 h
      cases hb : (!ei.1 && ei.2 == 1) with
      | false => rw [hb] at h; cases h
      | true =>
        rw [hb] at h
        simp only [Bool.and_eq_true, Bool.not_eq_true', beq_iff_eq] at hb
        obtain ⟨cs, u', g1, g2, g3⟩ := buildArr_ok hr hT ht hei hb.1 hb.2 h
        exact plain u' _ (exec_v g2) g1 g3
    · cases h
  | buildSlice t len parts =>
    obtain ⟨i, hi, h⟩ := Option.bind_eq_some_iff.1 h
    cases hb : decide (len * i.size ≤ 16777216) with
    | false => rw [hb] at h; cases h
    | true =>
      rw [hb] at h
      obtain ⟨xs, arr, e, g1, g2, g3⟩ := buildSlice_ok hr hT hi (by simpa using hb) h
      have hbl := below_alloc w (.cells arr e)
      obtain ⟨m1, m2⟩ := grown hbl
      refine wp_value (exec_v g2) (hn _ _ _ _ g1 m1 m2 hbl ?_)
      refine (shareRow (g3 w.heap.size (Nat.le_refl _))).mono fun b o hbo => ?_
      rcases hbo with hbo | ⟨hbo, _⟩
      · exact .inl hbo
      · cases hbo; exact .inr ⟨Nat.le_refl _, by simp⟩
  | extract x ix =>
    obtain ⟨b, hb, h1⟩ := Option.bind_eq_some_iff.1 h
    clear h
    obtain ⟨d, hd, h⟩ := Option.bind_eq_some_iff.1 h1
    clear h1
    have hrep := hr.asD (hr.opnd x) hb
    generalize hu : a.eval x = u at hrep
    cases hrep <;> try (cases hd; done)
    rename_i ds vs hn' hrr
    simp only [D.ext] at hd
    have hlt : ix < vs.size := by have := (List.getElem?_eq_some_iff.1 hd).1; omega
    exact plain vs[ix] _ (exec_v (by simp [Instr.extract, hu, Array.getElem?_eq_getElem hlt])) h (hrr ix d _ hd (Array.getElem?_eq_getElem hlt))
  | nilCheck x =>
    have ho := hr.opnd x
    simp only [vOp] at h
    generalize s.opnd x = v at h ho
    cases v with
    | box b o =>
      obtain ⟨g, h1, h2⟩ := ho
      exact plain _ _ (by simp [execOp, h2]) h ⟨g, h1, rfl⟩
    | elp t' j o =>
      obtain ⟨ad, n, c, sz, h1, h2, h3⟩ := ho
      exact plain _ _ (by simp [execOp, h3]) h ⟨ad, n, c, sz, h1, h2, rfl⟩
    | d y =>
      obtain ⟨z, hz, h⟩ := Option.bind_eq_some_iff.1 h
      obtain ⟨ad, h1, h2, h3⟩ := ro_drop (show Rep w E.p y _ from ho) hz
      refine plain (.pointer (some ad)) _ (by simp [execOp, h2]) h ?_
      have he : (⟨ad.block, ad.off + 0, none⟩ : Addr) = ad := by cases ad; simp_all
      rw [he] at h3
      exact h3
    | _ => cases h
  | call c =>
    obtain ⟨callee, args, ts⟩ := c
    cases callee with
    | invoke => cases h
    | value f =>
      cases f with
      | func f =>
        obtain ⟨ds, hds, h⟩ := Option.bind_eq_some_iff.1 h
        have hrs := hr.args hds
        cases hcf : C f with
        | none => rw [hcf] at h; cases h
        | some en =>
          rw [hcf] at h
          have hok := hC f en hcf
          cases en with
          | pure F => exact pureCall f F ds _ hok hrs (run_call_static hok.1) h
          | own sz F =>
            obtain ⟨xs, hxs, h⟩ := Option.bind_eq_some_iff.1 h
            refine wp_enter (run_call_static hok.1) ((hok.2 w E.p ds _ xs hr.inv hxs hrs hr.pin).mono fun e w' hw => ?_)
            obtain ⟨v, β, rfl, h1, h2⟩ := hw
            obtain ⟨g1, g2⟩ := grown h1
            exact ⟨v, rfl, hn _ v w' _ h g1 g2 h1 h2.rep_new⟩
          | nown sz F => cases h
          | seq F => cases h
      | tmp t =>
        obtain ⟨c, hc, h⟩ := Option.bind_eq_some_iff.1 h
        obtain ⟨ge, hge, h⟩ := Option.bind_eq_some_iff.1 h
        obtain ⟨ds, hds, h⟩ := Option.bind_eq_some_iff.1 h
        have hrs := hr.args hds
        have hrep := hr.asD (hr.opnd (.tmp t)) hc
        generalize hu : a.eval (.tmp t) = u at hrep
        cases hrep <;> try (cases hge; done)
        rename_i g env vs hvn hvr
        cases hge
        cases hcf : C g with
        | none => simp only [hcf] at h; cases h
        | some en =>
          have hok := hC g en hcf
          cases en with
          | pure F =>
            simp only [hcf] at h
            exact pureCall g F (ds ++ env) _ hok (hrs.append ⟨hvn, hvr⟩) (run_call_dyn hok.1 hu) h
          | own sz F => simp only [hcf] at h; cases h
          | nown sz F => simp only [hcf] at h; cases h
          | seq F => simp only [hcf] at h; cases h
      | const v => cases h
      | global g => cases h
    | builtin b =>
      cases b <;> try (cases h; done)
      case len =>
        simp only [vOp] at h
        split at h
        · rename_i x t ha ht
          obtain ⟨i, hi, h⟩ := Option.bind_eq_some_iff.1 h
          obtain ⟨e, h1, h2⟩ := elemOf_spec hT hi
          obtain ⟨n, hnn, h⟩ := Option.bind_eq_some_iff.1 h
          obtain ⟨A, c, hu, _⟩ := hr.slice (hr.opnd x) hnn
          have hargs : args = #[x] := by cases args; simp_all
          have hts : ts = #[t] := by cases ts; simp_all
          subst hargs hts
          refine plain _ _ ?_ h (.int .i64 n)
          have := len_ok (P := P) (w := w) (ty := ty) h1 (A := A) (n := n) (c := c)
          simp only [execOp, resolve, invoke, builtin, Sem.run_bind, Sem.run_pure, Result.andThen_ok, List.map_toArray, List.map_cons, List.map_nil, hu, this]
        · cases h
      case min =>
        simp only [vOp] at h
        split at h
        · rename_i x y ha
          obtain ⟨b, hb, h⟩ := Option.bind_eq_some_iff.1 h
          obtain ⟨c, hc, h⟩ := Option.bind_eq_some_iff.1 h
          obtain ⟨d, hd, h⟩ := Option.bind_eq_some_iff.1 h
          have hargs : args = #[x, y] := by cases args; simp_all
          subst hargs
          obtain ⟨u', g1, g2⟩ := min_ok (P := P) (hr.asD (hr.opnd x) hb) (hr.asD (hr.opnd y) hc) hd (ts := ts) (ty := ty)
          refine plain u' _ ?_ h g2
          simp only [execOp, resolve, invoke, builtin, Sem.run_bind, Sem.run_pure, Result.andThen_ok, List.map_toArray, List.map_cons, List.map_nil, g1]
        · cases h
      case max =>
        simp only [vOp] at h
        split at h
        · rename_i x y ha
          obtain ⟨b, hb, h⟩ := Option.bind_eq_some_iff.1 h
          obtain ⟨c, hc, h⟩ := Option.bind_eq_some_iff.1 h
          obtain ⟨d, hd, h⟩ := Option.bind_eq_some_iff.1 h
          have hargs : args = #[x, y] := by cases args; simp_all
          subst hargs
          obtain ⟨u', g1, g2⟩ := max_ok (P := P) (hr.asD (hr.opnd x) hb) (hr.asD (hr.opnd y) hc) hd (ts := ts) (ty := ty)
          refine plain u' _ ?_ h g2
          simp only [execOp, resolve, invoke, builtin, Sem.run_bind, Sem.run_pure, Result.andThen_ok, List.map_toArray, List.map_cons, List.map_nil, g1]
        · cases h
  | _ => cases h
end
end Go.Proofs.Ytcnedmkfcbcjkaa.Ra
