/- EVERY OPERATION, TOLD AT ONCE. -/
import Derived.Test.YtcnedmkfcbcjkaaRa14
set_option linter.unusedVariables false
set_option linter.unusedSimpArgs false
namespace Go.Proofs.Ytcnedmkfcbcjkaa.Ra
open Go Go.RowKit
set_option linter.unusedVariables false
set_option linter.unusedSimpArgs false
variable {w0 : World} {p0 : Base} {E : Env} {s : St} {a : Act} {w : World} {P : Program}
section
variable {T : TE} {CV : Nat → Nat → Option Conv} {C : CT}
theorem wp_skip_op {o : Oper} {w' : World} {next : Act → World → Prop} {Q : Exit → Act → World → Prop} (hd : o.dst = none) (h : (execOp a.eval o).run P w = .ok .skip w') (hn : next a w') : o.wp P a w next Q := by
  unfold Oper.wp
  rw [h, Oper.upon_skip, hd]
  exact hn
theorem general (hT : TOk P T) (hV : CVOk P CV) (hC : COk P C) {o : Oper} {R : Type} {k : St → Option R} {r : R} (l : List V) (h : vOp T CV C o.op (s.shareVs l) (fun v => k ((s.shareVs l).put o.dst v)) = some r) (hr : Rel w0 p0 E s a w)
    {next : Act → World → Prop} {Q : Exit → Act → World → Prop} (hn : ∀ s' a' w' E', k s' = some r → Rel w0 p0 E' s' a' w' → next a' w') : o.wp P a w next Q := by
  obtain ⟨p1, h1, e1⟩ := hr.shareVs l
  exact vOp_sound hT hV hC h h1 fun v u w' p' hk h2 _ _ h3 => hn _ _ _ _ hk (h2.put o.dst h3)
theorem run_alloc {t : Nat} {i : TI} (hi : TIok P t i) (w : World) : ∃ z, (Instr.alloc t true (.tuple #[])).run P w = .ok (.pointer (some ⟨w.heap.size, 0, none⟩)) (w.alloc (.cells z t)) ∧ z.size = i.zero.length ∧
    ∀ (j : Nat) (c : Z) (v : Value), i.zero[j]? = some c → z[j]? = some v → ZOk c v := by
  obtain ⟨f, z, h1, h2, h3, h4, h5, h6, h7, h8, h9⟩ := hi.info
  exact ⟨z.cells, by simp [Instr.alloc, zeroValue, typeInfo, h1, h4, newVar, newRow], by rw [h5, h6], h9⟩
theorem run_box (t : Nat) (v : Value) (w : World) : (Instr.box t v).run P w = .ok (.pointer (some ⟨w.heap.size, 0, none⟩)) (w.alloc (.cells v.cells t)) := by
  simp [Instr.box, newVar, newRow]
theorem ZOk.repZ {c : Z} {v : Value} (h : ZOk c v) {p : Nat → Nat → Prop} : RepZ w p c v := by
  cases c with
  | d x => exact h.2 w p
  | nl n => exact h.2
theorem evOp_sound (hT : TOk P T) (hV : CVOk P CV) (hC : COk P C) {o : Oper} {R : Type} {k : St → Option R} {r : R} (h : evOp T CV C o s k = some r) (hr : Rel w0 p0 E s a w) (hfx : ∀ d, lays o = some d → p0.fix d = none)
    {next : Act → World → Prop} {Q : Exit → Act → World → Prop} (hn : ∀ s' a' w' E', k s' = some r → Rel w0 p0 E' s' a' w' → next a' w') : o.wp P a w next Q := by
  have gen := fun (l : List V) h => general (Q := Q) (next := next) hT hV hC (o := o) l h hr hn
  obtain ⟨dst, op, ty, pos, after, guard⟩ := o
  cases op with
  | assign x =>
    cases dst with
    | none => exact gen _ h
    | some d =>
      have ho := hr.opnd x
      have hrun : (execOp a.eval ⟨some d, .assign x, ty, pos, after, guard⟩).run P w = .ok (.value (a.eval x)) w := by simp [execOp]
      simp only [evOp] at h
      generalize s.opnd x = v at h ho
      cases v with
      | own t =>
        obtain ⟨s', hs', h⟩ := Option.bind_eq_some_iff.1 h
        obtain ⟨ρ', β', h1, h2, _⟩ := hr.transfer hs' ho
        exact wp_value hrun (hn _ _ _ _ h (h1.put (some d) h2))
      | nil =>
        obtain ⟨e, he, h⟩ := Option.bind_eq_some_iff.1 h
        obtain ⟨_, _, he'⟩ := elemOf_spec hT he
        have h1 := hr.newNil d he'.pos
        refine wp_value hrun (hn _ _ _ _ h (h1.put (some d) ?_))
        rw [show a.eval x = .slice none 0 0 from ho]
        exact ⟨e.size, upd_same _ _ _⟩
      | _ => exact wp_value hrun (hn _ _ _ _ h (hr.put (some d) ho))
  | alloc t =>
    cases dst with
    | none => exact gen [] h
    | some d =>
      obtain ⟨i, hi, h⟩ := Option.bind_eq_some_iff.1 h
      obtain ⟨z, g1, g2, g3⟩ := run_alloc (hT t i hi) w
      obtain ⟨ρ', β', k1, k2, k3, k4⟩ := cellsZ_ok d i.zero 0 hr z.toList (by simpa using g2) (fun j c u hc hu => (g3 j c u hc (by simpa using hu)).repZ)
      have h2 := k1.newBox d (hfx d rfl) (cs := (s.cellsZ d 0 i.zero).2) (cur := z) (e := t) (by rw [k2]; exact g2) fun j x u hx hu => by
        have hjl : j < i.zero.length := by rw [← k2]; exact (List.getElem?_eq_some_iff.1 hx).1
        exact ⟨(g3 j _ u (List.getElem?_eq_getElem hjl) hu).1, k4 j x u hx (by simpa using hu)⟩
      exact wp_value (exec_v (by simpa [execOp] using g1)) (hn _ _ _ _ h (h2.put (some d) ⟨w.heap.size, upd_same _ _ _, rfl⟩))
  | box t x =>
    cases dst with
    | none => exact gen [] h
    | some d =>
      simp only [evOp] at h
      obtain ⟨i, s', cs, ρ', β', g0, g1, g2, g3, g4, g5⟩ := cellsK_ok hT hr h (hr.opnd x)
      have h2 := g2.newBox d (hfx d rfl) (cs := cs) (cur := (a.eval x).cells) (e := t) g3 g5
      exact wp_value (exec_v (run_box t _ w)) (hn _ _ _ _ g1 (h2.put (some d) ⟨w.heap.size, upd_same _ _ _, rfl⟩))
  | store t x y =>
    cases dst with
    | some d => exact gen [] h
    | none =>
      have ho := hr.opnd x
      simp only [evOp] at h
      generalize s.opnd x = v at h ho
      have fin : ∀ {w'}, (Instr.storeAt t (a.eval x) (a.eval y)).run P w = .ok () w' → (execOp a.eval ⟨none, .store t x y, ty, pos, after, guard⟩).run P w = .ok .skip w' := fun {w'} h => by simp [execOp, h]
      cases v with
      | box b p =>
        obtain ⟨i, s', cs, ρ', β', g0, g1, g2, g3, g4, g5⟩ := cellsK_ok hT hr h (hr.opnd y)
        obtain ⟨old, hold, g1⟩ := Option.bind_eq_some_iff.1 g1
        cases hl : decide (p + cs.length ≤ old.length) with
        | false => rw [hl] at g1; cases g1
        | true =>
          rw [hl] at g1
          obtain ⟨w', m1, m2⟩ := store_box g2 hold (by simpa using hl) (hT t i g0) (ua := a.eval x) ho g3 g4 g5
          exact wp_skip_op rfl (fin m1) (hn _ _ _ _ g1 m2)
      | elp tk i p =>
        obtain ⟨kd, hk, h⟩ := Option.bind_eq_some_iff.1 h
        obtain ⟨ti, _, hti, rfl⟩ := kindOf_spec hT hk
        obtain ⟨p1, h1, e1⟩ := hr.shareV (s.opnd y)
        obtain ⟨q, hq, h⟩ := Option.bind_eq_some_iff.1 h
        obtain ⟨y1, hy1, h⟩ := Option.bind_eq_some_iff.1 h
        cases hb : (q.wr && p == 0 && ti.size == q.sz && ti.kind.agg == decide (1 < ti.size) && decide (i < q.xs.length)) with
        | false => rw [hb] at h; cases h
        | true =>
          rw [hb] at h
          simp only [Bool.and_eq_true, beq_iff_eq, decide_eq_true_eq] at hb
          obtain ⟨⟨⟨⟨b1, b2⟩, b3⟩, b4⟩, b5⟩ := hb
          obtain ⟨y2, hy2, hfin⟩ := Option.bind_eq_some_iff.1 h
          subst b2
          have hrep := h1.asD (h1.opnd y) hy1
          have hfit : y2 = y1 ∧ y1.fit q.sz = true := by
            cases hag : ti.kind.agg with
            | true =>
              rw [hag] at hy2
              simp only [cond_true] at hy2
              obtain ⟨ds, hds, rfl⟩ := Option.map_eq_some_iff.1 hy2
              obtain ⟨rfl, hl⟩ := aggN_spec hds
              rw [explicit_eq hl]
              exact ⟨rfl, by simpa [D.fit, b3] using hl⟩
            | false =>
              rw [hag] at hy2
              simp only [cond_false] at hy2
              cases h1' : y1.one with
              | false => rw [h1'] at hy2; cases hy2
              | true =>
                rw [h1'] at hy2
                simp only [cond_true, Option.some.injEq] at hy2
                refine ⟨hy2.symm, ?_⟩
                have hs1 : ti.size = 1 := by
                  obtain ⟨f, z, _, _, _, _, _, _, _, h7, _⟩ := hti.info
                  exact (h7 hag).1
                rw [← b3, hs1]
                cases y1 <;> first | rfl | (simp [D.one] at h1'; done)
          obtain ⟨rfl, hfit⟩ := hfit
          have ho' := RepV.ext (E' := { E with p := p1 }) e1 rfl rfl ho
          obtain ⟨w', m1, m2⟩ := store_elp h1 hq b1 b5 hti b3 (ua := a.eval x) ho' hrep hfit
          exact wp_skip_op rfl (fin m1) (hn _ _ _ _ hfin m2)
      | _ => cases h
  | buildSlice t len parts =>
    cases dst with
    | none => exact gen _ h
    | some d =>
      obtain ⟨p1, h1, e1⟩ := hr.shareVs (coerced T s (.buildSlice t len parts))
      obtain ⟨i, hi, h⟩ := Option.bind_eq_some_iff.1 h
      cases hb : decide (len * i.size ≤ 16777216) with
      | false => rw [hb] at h; cases h
      | true =>
        rw [hb] at h
        obtain ⟨xs, arr, e, g1, g2, g3⟩ := buildSlice_ok h1 hT hi (by simpa using hb) h
        have hbl := below_alloc w (.cells arr e)
        obtain ⟨m1, m2⟩ := h1.grow hbl (p' := p1) (fun _ _ h => h) (fun _ _ h => .inl h)
        refine wp_value (exec_v g2) (hn _ _ _ _ g1 ((m1.newTok d (g3 w0.heap.size hr.size) (fun q hq _ g hg hβ => ?_) (fun q hq g hg hσ => ?_)).put (some d) ⟨i.size, upd_same _ _ _⟩))
        · cases hg
          exact absurd (h1.tokOld hq hβ) (Nat.lt_irrefl _)
        · cases hg
          exact absurd (h1.boxOld hq hσ) (Nat.lt_irrefl _)
  | makeFunc f first caps =>
    cases dst with
    | none => cases f <;> cases h
    | some d =>
      cases f <;> try (cases h; done)
      rename_i g
      simp only [evOp] at h
      cases hb : first.isEmpty with
      | false => rw [hb] at h; cases h
      | true =>
        rw [hb] at h
        obtain ⟨s', env, E', k1, k2, k3⟩ := caps_ok caps.toList (env := []) (vs := #[]) h hr ⟨rfl, by simp⟩
        have hfirst : first = #[] := by simpa using hb
        subst hfirst
        have hc : #[] ++ (caps.toList.map a.eval).toArray = caps.map a.eval := by cases caps; simp
        rw [hc] at k3
        exact wp_value (w' := w) (u := .func (.func g) #[] (caps.map a.eval)) (by simp [execOp, Instr.makeFunc]) (hn _ _ _ _ k1 (k2.put (some d) (.clo g env _ k3.1 k3.2)))
  | call c =>
    obtain ⟨callee, args, ts⟩ := c
    cases callee with
    | invoke => exact gen [] h
    | value f =>
      cases f with
      | func f =>
        simp only [evOp] at h
        split at h
        · rename_i sz F d hcf
          obtain ⟨p1, h1, e1⟩ := hr.shareVs (args.toList.map s.opnd)
          obtain ⟨ds, hds, h⟩ := Option.bind_eq_some_iff.1 h
          obtain ⟨xs, hxs, h⟩ := Option.bind_eq_some_iff.1 h
          have hok : OkOwn P f sz F := hC f _ hcf
          refine wp_enter (run_call_static hok.1) ((hok.2 w p1 ds _ xs hr.inv hxs (h1.args hds) h1.pin).mono fun e w' hw => ?_)
          obtain ⟨v, β, rfl, n1, n2⟩ := hw
          obtain ⟨E', m1, m2⟩ := h1.gotRow n1 n2 d
          exact ⟨v, rfl, hn _ _ _ _ h (m1.put (some d) m2)⟩
        · rename_i sz F d hcf
          obtain ⟨p1, h1, e1⟩ := hr.shareVs (args.toList.map s.opnd)
          obtain ⟨ds, hds, h⟩ := Option.bind_eq_some_iff.1 h
          obtain ⟨xs, hxs, h⟩ := Option.bind_eq_some_iff.1 h
          have hok : OkOwn P f sz F := hC f _ hcf
          have hargs : Reps w p1 ds (args.map a.eval) := by
            have := h1.asDNs hds
            rwa [show (args.toList.map a.eval).toArray = args.map a.eval from Array.ext' (by simp)] at this
          refine wp_enter (run_call_static hok.1) ((hok.2 w p1 ds _ xs hr.inv hxs hargs h1.pin).mono fun e w' hw => ?_)
          obtain ⟨v, β, rfl, n1, n2⟩ := hw
          obtain ⟨E', m1, m2⟩ := h1.gotRow n1 n2 d
          exact ⟨v, rfl, hn _ _ _ _ h (m1.put (some d) m2)⟩
        · exact gen _ h
      | _ => exact gen (args.toList.map s.opnd) h
    | builtin b =>
      cases b <;> try (exact gen [] h)
      case append =>
        cases dst with
        | none => exact gen [] h
        | some d =>
          simp only [evOp] at h
          split at h
          · rename_i x y t t' hargs hts
            have hargs : args = #[x, y] := by cases args; simp_all
            have hts : ts = #[t, t'] := by cases ts; simp_all
            subst hargs hts
            cases htt : t == t' with
            | false => rw [htt] at h; cases h
            | true =>
              rw [htt] at h
              have htt : t = t' := by simpa using htt
              subst htt
              simp only [cond_true] at h
              obtain ⟨i, hi, h⟩ := Option.bind_eq_some_iff.1 h
              obtain ⟨e, ht, hti⟩ := elemOf_spec hT hi
              obtain ⟨p1, h1, e1⟩ := hr.shareV (s.opnd y)
              obtain ⟨ys, hys, h⟩ := Option.bind_eq_some_iff.1 h
              cases hb : (D.chk i.size ys && decide (0 < i.size)) with
              | false => rw [hb] at h; cases h
              | true =>
                rw [hb] at h
                simp only [Bool.and_eq_true, decide_eq_true_eq] at hb
                have hys' : Rep w p1 (.sl ys) (a.eval y) := by
                  obtain ⟨z, hz, hys⟩ := Option.bind_eq_some_iff.1 hys
                  have := h1.asD (h1.opnd y) hz
                  cases z <;> try (cases hys; done)
                  cases hys
                  exact this
                have ho := h1.opnd x
                simp only [cond_true] at h
                have fin : ∀ {v' w'}, (Builtin.append_ #[t, t] ty #[a.eval x, a.eval y]).run P w = .ok v' w' → (execOp a.eval ⟨some d, .call ⟨.builtin .append, #[x, y], #[t, t]⟩, ty, pos, after, guard⟩).run P w = .ok (.value v') w' := fun {v' w'} h => by
                  simp [execOp, resolve, invoke, builtin, h]
                split at h
                · rename_i hx
                  rw [hx] at ho
                  cases hb2 : decide (ys.length * i.bytes ≤ 140737488355328) with
                  | false => rw [hb2] at h; cases h
                  | true =>
                    rw [hb2] at h
                    have hb2 : ys.length * i.bytes ≤ 140737488355328 := by simpa using hb2
                    obtain ⟨v', w', E', m1, m2, m3⟩ := append_ok h1 ht hti (wr := true) (xs := []) (nil_row hti.pos true) hys' hb.1 (by simpa using hb2) hti.bpos (by simp) (by simp) d ty
                    rw [← show a.eval x = .slice none 0 0 from ho] at m1
                    exact wp_value (fin m1) (hn _ _ _ _ h (m2.put (some d) m3))
                · rename_i tk hx
                  rw [hx] at ho
                  obtain ⟨q, hq, h⟩ := Option.bind_eq_some_iff.1 h
                  obtain ⟨n1, n2, n3, n4⟩ := h1.tok hq ho
                  cases hb2 : (q.sz == i.size && decide ((q.xs.length + ys.length) * i.bytes ≤ 140737488355328)) with
                  | false => rw [hb2] at h; cases h
                  | true =>
                    rw [hb2] at h
                    simp only [Bool.and_eq_true, beq_iff_eq, decide_eq_true_eq] at hb2
                    rw [hb2.1] at n2
                    obtain ⟨v', w', E', m1, m2, m3⟩ := append_ok (h1.dropTok tk) ht hti n2 hys' hb.1 hb2.2 hti.bpos (fun q' hq' g hg => by
                      simp only [St.dropTok, List.mem_filter] at hq'
                      have hne : q'.id ≠ tk := by simpa using hq'.2
                      rw [← n4] at hg
                      exact h1.tapart q n3 q' hq'.1 (by rw [n4]; exact fun e => hne e.symm) g hg) (fun q' hq' g hg => by
                      rw [← n4] at hg
                      exact h1.tbox q n3 q' hq' g hg) d ty
                    exact wp_value (fin m1) (hn _ _ _ _ h (m2.put (some d) m3))
                · cases h
          · cases h
  | go c => cases dst <;> cases h
  | defer c => cases dst <;> cases h
  | _ => first | exact gen [] h | exact gen _ h
end
end Go.Proofs.Ytcnedmkfcbcjkaa.Ra
