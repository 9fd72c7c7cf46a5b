/- CODE; FUNCTIONS. -/
import Derived.Test.YtcnedmkfcbcjkaaRb1
set_option linter.unusedVariables false
set_option linter.unusedSimpArgs false
namespace Go.Proofs.Ytcnedmkfcbcjkaa.Ra
open Go Go.RowKit
set_option linter.unusedVariables false
set_option linter.unusedSimpArgs false
variable {w0 : World} {p0 : Base} {E : Env} {s : St} {a : Act} {w : World} {P : Program}

theorem quietLen_le : ∀ l : List Oper, quietLen l ≤ l.length
  | [] => Nat.le_refl _
  | o :: l => by
    unfold quietLen
    cases quietOp o.op with
    | true => simp only [cond_true, List.length_cons]; have := quietLen_le l; omega
    | false => exact Nat.zero_le _
open Classical in
theorem evLoop_iter {f : St → Option (X × St)} {s : St} {r : X × St} (h : evLoop f s = some r) : ∃ n, iter f n s = some r := by
  unfold evLoop at h
  split at h
  · rename_i hh
    cases h
    exact ⟨hh.choose, hh.choose_spec.choose_spec⟩
  · cases h
section
variable {T : TE} {CV : Nat → Nat → Option Conv} {C : CT} {A : Nat → Hd}
theorem letsOut_then {Q : Exit → Act → World → Prop} {K : Act → World → Prop} (h : ¬ LetsOut Q) : ¬ LetsOut (Exit.then K Q) := fun ⟨a, w, hh⟩ => h ⟨a, w, hh⟩
theorem letsOut_block {Q : Exit → Act → World → Prop} {id : Nat} (h : ¬ LetsOut Q) : ¬ LetsOut (Exit.inBlock id Q) := fun ⟨a, w, hh⟩ => h ⟨a, w, hh⟩
theorem quiet_nodefer {o : Oper} (h : quietOp o.op = true) : ∀ c, o.op ≠ .defer c := by
  intro c hc
  rw [hc] at h
  cases h
theorem ev_soundIn (hm : P.follows .mixedOrders = true) (hT : TOk P T) (hV : CVOk P CV) (hC : COk P C) : ∀ (c : Code) (F : Fence) (p0 : Base) (i : Nat) (R : Type) (k : Kont R) (r : R) (Q : Exit → Act → World → Prop), Wide F → (F = Fence.wide ∨ Plain c) → Free p0.fix c → ¬ LetsOut Q → KOk w0 p0 k r Q →
    ∀ {s : St} {a : Act} {w : World} {E : Env}, ev T CV C A c i R k s = some r → Rel w0 p0 E s a w → c.wpIn F 0 P Q a w := by
  intro c
  induction c with
  | skip => intro F p0 i R k r Q hF hP hfr hQ hk s a w E h hr; exact wpIn_skip (hk.n _ _ _ _ h hr)
  | region id ops draws =>
    intro F p0 i R k r Q hF hP hfr hQ hk s a w E h hr
    cases draws with
    | false => exact wpIn_region_list (evOps_soundIn hF hT hV hC hk.n _ (fun o ho d hd => by
        obtain ⟨j, hj⟩ := List.getElem?_of_mem ho
        exact hfr j o (by simpa using hj) d hd) h hr)
    | true =>
      simp only [ev] at h
      cases hq : (quietAll (ops.toList.take (quietLen ops.toList)) && tailOk ops (quietLen ops.toList)) with
      | false => rw [hq] at h; cases h
      | true =>
        rw [hq] at h
        simp only [Bool.and_eq_true] at hq
        refine wpIn_region_any hm (hF.any hQ (fun j o ho => ?_) _ _ _ _ (evQ_sound hT hV hC hk.n (by simpa using quietLen_le ops.toList) hq.1 hq.2 hfr h hr))
        rcases Nat.lt_or_ge j (quietLen ops.toList) with hlt | hge
        · exact quiet_nodefer (quietAll_spec hq.1 ho hlt).quiet
        · have h1 := hq.2
          unfold tailOk at h1
          rw [List.all_eq_true] at h1
          have h2 := h1 j (List.mem_range.2 (Array.getElem?_eq_some_iff.1 ho).1)
          rw [ho] at h2
          have h0 : decide (j < quietLen ops.toList) = false := by simp; omega
          simp only [h0, Bool.false_or, Bool.and_eq_true] at h2
          intro c hc
          have h3 := h2.2.2
          rw [hc] at h3
          cases h3
  | seq x y hx hy =>
    intro F p0 i R k r Q hF hP hfr hQ hk s a w E h hr
    have hP1 : F = Fence.wide ∨ Plain x := hP.imp id fun h => h.1
    have hP2 : F = Fence.wide ∨ Plain y := hP.imp id fun h => h.2
    refine wpIn_seq (hx F p0 i R { k with n := ev T CV C A y i R k } r (Exit.then (y.wpIn F 0 P Q) Q) hF hP1 hfr.1 (letsOut_then hQ) ⟨fun s' a' w' E' h1 h2 => ?_, hk.e, hk.r⟩ h hr)
    exact hy F p0 i R k r Q hF hP2 hfr.2 hQ hk h1 h2
  | cond c x y hx hy =>
    intro F p0 i R k r Q hF hP hfr hQ hk s a w E h hr
    have hP1 : F = Fence.wide ∨ Plain x := hP.imp id fun h => h.1
    have hP2 : F = Fence.wide ∨ Plain y := hP.imp id fun h => h.2
    obtain ⟨b, hb, h⟩ := Option.bind_eq_some_iff.1 h
    have hc := asB_spec (hr.opnd c) hb
    cases b with
    | true => exact wpIn_cond_true hc (hx F p0 i R k r Q hF hP1 hfr.1 hQ hk h (hr.setB hc))
    | false => exact wpIn_cond_false hc (hy F p0 i R k r Q hF hP2 hfr.2 hQ hk h (hr.setB hc))
  | block id c hc =>
    intro F p0 i R k r Q hF hP hfr hQ hk s a w E h hr
    refine wpIn_block (hc F p0 id R { k with e := fun j s' => cond (j == id) (k.n s') (k.e j s') } r (Exit.inBlock id Q) hF hP hfr (letsOut_block hQ) ⟨hk.n, fun j s' a' w' E' h1 h2 => ?_, hk.r⟩ h hr)
    show Exit.inBlock id Q (.exit j) a' w'
    cases e : j == id with
    | true =>
      simp only [e] at h1
      have e : j = id := by simpa using e
      simp only [Exit.inBlock, if_pos e]
      exact hk.n _ _ _ _ h1 h2
    | false =>
      simp only [e] at h1
      have e : j ≠ id := by simpa using e
      simp only [Exit.inBlock, if_neg e]
      exact hk.e _ _ _ _ _ h1 h2
  | loop c hc =>
    intro F p0 i R k r Q hF hP hfr hQ hk s a w E h hr
    obtain ⟨res, hl, hd⟩ := Option.bind_eq_some_iff.1 h
    obtain ⟨n, hn⟩ := evLoop_iter hl
    refine wpIn_loop_rounds n ?_
    obtain ⟨E0, hr0⟩ := hr.head (A i)
    clear hr hl h
    generalize s.head (A i) = s at hn hr0
    have hQn : ∀ n, ¬ LetsOut (Exit.then (Code.roundsIn F 0 P c Q n) Q) := fun n => letsOut_then hQ
    induction n generalizing s a w E0 with
    | zero => cases hn
    | succ n ih =>
      rw [roundsIn_succ]
      unfold iter at hn
      cases hf : ev T CV C A c i (X × St) .end s with
      | none => rw [hf] at hn; cases hn
      | some xs =>
        obtain ⟨x, s1⟩ := xs
        rw [hf] at hn
        refine hc F p0 i (X × St) .end (x, s1) (Exit.then (Code.roundsIn F 0 P c Q n) Q) hF hP hfr (hQn n) ⟨fun s' a' w' E' g1 g2 => ?_, fun j s' a' w' E' g1 g2 => ?_, fun s' a' w' E' g1 g2 => ?_⟩ hf hr0
        · simp only [Kont.end, Option.some.injEq, Prod.mk.injEq] at g1
          obtain ⟨rfl, rfl⟩ := g1
          obtain ⟨E2, g3⟩ := g2.head (A i)
          first | exact ih E2 _ hn g3 | exact ih E2 _ g3 hn
        · simp only [Kont.end, Option.some.injEq, Prod.mk.injEq] at g1
          obtain ⟨rfl, rfl⟩ := g1
          simp only [Option.map_some, headN, Option.some.injEq] at hn
          subst hn
          exact hk.e _ _ _ _ _ hd g2
        · simp only [Kont.end, Option.some.injEq, Prod.mk.injEq] at g1
          obtain ⟨rfl, rfl⟩ := g1
          simp only [Option.map_some, headN, Option.some.injEq] at hn
          subst hn
          exact hk.r _ _ _ _ hd g2
  | exit j => intro F p0 i R k r Q hF hP hfr hQ hk s a w E h hr; exact wpIn_exit (hk.e _ _ _ _ _ h hr)
  | ret => intro F p0 i R k r Q hF hP hfr hQ hk s a w E h hr; exact wpIn_ret (hk.r _ _ _ _ h hr)
  | rangeFunc g ps assign body ha hb =>
    intro F p0 i R k r Q hF hP hfr hQ hk s a w E h hr
    rcases hP with rfl | hP
    · exact range_sound hC hk hfr (fun l B k Q h1 h2 h3 h4 => fun h5 h6 => ha _ B 0 R k r Q (.inr ⟨l, rfl⟩) (.inr h1) h2 h3 h4 h5 h6) (fun l B k Q h1 h2 h3 h4 => fun h5 h6 => hb _ B 0 R k r Q (.inr ⟨l, rfl⟩) (.inr h1) h2 h3 h4 h5 h6) h hr
    · exact hP.elim
  | _ => intro F p0 i R k r Q hF hP hfr hQ hk s a w E h hr; cases h
/-- A frame leaves: the marks are met, one by one. -/
theorem leaves_marks {fn : Func} {tmps : Array Value} {Rr : Ending → World → Prop} (Pw : World → Prop) (hstep : ∀ (w : World) (D : Nat), Pw w → w0.heap.size ≤ D → w.heap[D]? = some (.deferred (some [])) → Pw (w.putObj D (.deferred none)))
    (hfin : ∀ w, Pw w → ∃ v, (results fn tmps).run P w = .ok v w ∧ Rr (.returned v) w) : ∀ (ds : List Deferred) (w : World), (∀ d ∈ ds, Mark w0 w d) → ds.Nodup → Pw w → LeavesInM Fence.wide 0 P fn tmps Rr ds .returning w := by
  intro ds
  induction ds with
  | nil => intro w _ _ h; exact hfin w h
  | cons d ds ih =>
    intro w hm hn h
    obtain ⟨D, rfl, hD, hw⟩ := hm d List.mem_cons_self
    rw [List.nodup_cons] at hn
    refine ⟨by simp, .inl ⟨D, _, rfl, run_takeDeferred hw, ih _ (fun d' hd' => ?_) hn.2 (hstep w D h hD hw)⟩⟩
    obtain ⟨D', rfl, hD', hw'⟩ := hm d' (List.mem_cons_of_mem _ hd')
    refine ⟨D', rfl, hD', (World.putObj_heap_other ?_).trans hw'⟩
    rintro rfl
    exact hn.1 hd'
/-- The relation at a function's end, without its marks. -/
theorem Rel.bare (h : Rel w0 p0 E s a w) : Rel w0 { p0 with om := fun _ => none } E s { a with defers := [] } w :=
  h.with (B := { p0 with om := fun _ => none }) (a' := { a with defers := [] }) (tm := s.tmps) (fun _ _ h => h) ⟨h.more.inv, fun d hd => (by cases hd), List.nodup_nil, h.more.fix, h.more.kept, fun k o ho => (by cases ho)⟩ h.tsz h.tmps (fun _ h => h) (fun _ h => h)
theorem Rel.shut (h : Rel w0 { p0 with om := fun _ => none } E s { a with defers := [] } w) {D : Nat} (hD : w0.heap.size ≤ D) (hw : w.heap[D]? = some (.deferred (some []))) : Rel w0 { p0 with om := fun _ => none } E s { a with defers := [] } (w.putObj D (.deferred none)) :=
  h.turn (B := { p0 with om := fun _ => none }) hw rfl rfl hD (fun _ _ h => h) rfl ⟨h.more.inv, fun d hd => (by cases hd), List.nodup_nil, h.more.fix, h.more.kept.trans (ext_putObj hw rfl rfl _), fun k o ho => (by cases ho)⟩

/-- A result. -/
def resOf (tmps : Array Value) : ResultVar → Sem Value
  | .tmp t => pure (tmps.getD t undef)
  | .cell b t => do loadVar t (← asAddr (tmps.getD b undef))
theorem results_eq (fn : Func) (tmps : Array Value) : results fn tmps = (do
    let vs ← fn.results.mapM (resOf tmps)
    pure (if h : vs.size = 1 then vs[0] else .tuple vs)) := by
  unfold results
  congr 1
/-- The results, as data. -/
theorem resD_list (hT : TOk P T) (hr : Rel w0 p0 E s a w) : ∀ (l : List ResultVar) {ds : List D}, resD T s l = some ds → ∃ vs : List Value, (l.mapM (resOf a.tmps)).run P w = .ok vs w ∧
    vs.length = ds.length ∧ ∀ (j : Nat) (d : D) (v : Value), ds[j]? = some d → vs[j]? = some v → Rep w E.p d v := by
  intro l
  induction l with
  | nil => intro ds h; cases h; exact ⟨[], by simp, rfl, by simp⟩
  | cons x l ih =>
    intro ds h
    have fin : ∀ {y : D} {ys : List D} {u : Value} {f : Sem Value}, f.run P w = .ok u w → Rep w E.p y u → resD T s l = some ys → ∃ vs : List Value, (do let v ← f; let vs ← (l.mapM (resOf a.tmps)); pure (v :: vs)).run P w = .ok vs w ∧
        vs.length = (y :: ys).length ∧ ∀ (j : Nat) (d : D) (v : Value), (y :: ys)[j]? = some d → vs[j]? = some v → Rep w E.p d v := by
      intro y ys u f h1 h2 h3
      obtain ⟨vs, g1, g2, g3⟩ := ih h3
      refine ⟨u :: vs, by simp [h1, g1], by simp [g2], fun j d v hd hv => ?_⟩
      cases j with
      | zero => simp at hd hv; subst hd hv; exact h2
      | succ j => exact g3 j d v (by simpa using hd) (by simpa using hv)
    rw [List.mapM_cons]
    cases x with
    | tmp t =>
      obtain ⟨y, hy, h⟩ := Option.bind_eq_some_iff.1 h
      obtain ⟨ys, hys, h⟩ := Option.bind_eq_some_iff.1 h
      cases h
      exact fin (u := a.tmps.getD t undef) (by simp only [resOf, Sem.run_pure]) (hr.asD (hr.get t) hy) hys
    | cell b t =>
      simp only [resD] at h
      obtain ⟨kd, hk, h⟩ := Option.bind_eq_some_iff.1 h
      obtain ⟨i, _, hi, rfl⟩ := kindOf_spec hT hk
      have ho := hr.get b
      generalize s.get b = v at h ho
      cases v with
      | box b' o =>
        obtain ⟨cs, hb, h⟩ := Option.bind_eq_some_iff.1 h
        obtain ⟨y, hy, h⟩ := Option.bind_eq_some_iff.1 h
        obtain ⟨ys, hys, h⟩ := Option.bind_eq_some_iff.1 h
        cases h
        obtain ⟨l1, l2⟩ := load_box hr hi hb ho
        have hload : ∃ u', (Instr.loadAt t (a.tmps.getD b undef)).run P w = .ok u' w ∧ Rep w E.p y u' := by
          cases hag : i.kind.agg with
          | true =>
            simp only [hag, cond_true] at hy
            cases hd : decide (o + i.size ≤ cs.length) with
            | false => rw [hd] at hy; cases hy
            | true =>
              rw [hd] at hy
              obtain ⟨ds, hds, rfl⟩ := Option.map_eq_some_iff.1 hy
              exact l1 hag ds (by simpa using hd) hds
          | false =>
            simp only [hag, cond_false] at hy
            obtain ⟨v, hv, hy⟩ := Option.bind_eq_some_iff.1 hy
            obtain ⟨u', m1, m2⟩ := l2 hag v hv
            exact ⟨u', m1, hr.asD m2 hy⟩
        obtain ⟨u', m1, m2⟩ := hload
        refine fin (u := u') ?_ m2 hys
        obtain ⟨g, _, hg⟩ := ho
        show (do loadVar t (← asAddr (a.tmps.getD b undef)) : Sem Value).run P w = _
        rw [hg] at m1 ⊢
        exact m1
      | _ => cases h
theorem res_pure (hT : TOk P T) (hr : Rel w0 p0 E s a w) {fn : Func} {r : D} (h : (resD T s.shareAll fn.results.toList).map tupOf = some r) : ∃ v p', (results fn a.tmps).run P w = .ok v w ∧ Rel w0 p0 { E with p := p' } s.shareAll a w ∧ Rep w p' r v := by
  obtain ⟨ds, hds, rfl⟩ := Option.map_eq_some_iff.1 h
  have h1 := (hr.shareIf fun _ => true).1
  rw [← St.shareAll_eq] at h1
  obtain ⟨vs, g1, g2, g3⟩ := resD_list hT h1 _ hds
  have hm : (fn.results.mapM (resOf a.tmps)).run P w = .ok vs.toArray w := by
    rw [Array.mapM_eq_mapM_toList]
    simp [g1]
  have hrun : (results fn a.tmps).run P w = .ok (if h : vs.toArray.size = 1 then vs.toArray[0] else .tuple vs.toArray) w := by
    rw [results_eq, Sem.run_bind, hm]
    simp
  refine ⟨_, _, hrun, h1, ?_⟩
  match ds, vs, g2, g3 with
  | [x], [v], _, g3 => exact g3 0 x v rfl rfl
  | [], [], _, _ => exact .tup [] #[] rfl (by simp)
  | x :: y :: ds, u :: v :: vs, g2, g3 =>
    refine .tup _ _ (by simpa using g2) fun j d v hd hv => g3 j d v hd (by simpa using hv)
def base0 (w : World) (p : Nat → Nat → Prop) : Base := ⟨p, fun _ => none, w, fun _ _ => False, fun _ => none⟩
theorem start_rel {fn : Func} {p : Nat → Nat → Prop} {ds : List D} {vs : Array Value} (hi : Inv w) (hp : ∀ b o, p b o → b < w.heap.size) (hr : Reps w p ds vs) :
    Rel w (base0 w p) ⟨p, fun _ => none, fun _ => none, fun _ => none⟩ (start fn ds) { tmps := vs ++ Array.replicate (fn.ntmps - vs.size) undef, defers := [] } w := by
  obtain ⟨h1, h2⟩ := hr
  refine { more := ⟨hi, fun d hd => (by cases hd), List.nodup_nil, fun b g hb => (by cases hb), fun b o hb => hb.elim, fun k o ho => (by cases ho)⟩, below := Below.refl _ w, tsz := by simp [start, h1], tmps := ?_, pold := fun b o _ h => h, pin := hp, boxes := by simp [start], bapart := by simp [start], toks := by simp [start], tapart := by simp [start], tbox := by simp [start] }
  intro i v u hi hu
  simp only [start] at hi
  simp only at hu
  rw [List.getElem?_append] at hi
  rw [Array.getElem?_append] at hu
  simp only [List.length_map] at hi
  split at hi
  · rename_i hlt
    rw [if_pos (by omega)] at hu
    simp only [List.getElem?_map, Option.map_eq_some_iff] at hi
    obtain ⟨d, hd, rfl⟩ := hi
    have hd2 := h2 i d u hd hu
    cases d <;> first | exact hd2 | (cases hd2; rfl)
  · rename_i hge
    rw [if_neg (by omega)] at hu
    have e1 := List.mem_of_getElem? hi
    have e2 := Array.mem_of_getElem? hu
    simp at e1 e2
    rw [e1.2]
    exact e2.2
theorem fnAt_nil {fn : Func} {c : Code} (hb : fn.body = some c) : fnAt fn [] = c := by
  unfold fnAt
  rw [hb]
  cases c <;> rfl
/-- A function's contract out of what its body is read to. -/
theorem calls_of_ev (hm : P.follows .mixedOrders = true) (hT : TOk P T) (hV : CVOk P CV) (hC : COk P C) {f : Nat} {fn : Func} {c : Code} (hf : P.funcs[f]? = some fn) (hb : fn.body = some c) {R : Type} {k : Kont R} {r : R} {w : World} {p : Nat → Nat → Prop} {ds : List D} {vs : Array Value} {Rr : Value → World → Prop}
    (he : ∀ j s, k.e j s ≠ some r) (fin : ∀ s' a' w' E', (k.n s' = some r ∨ k.r s' = some r) → Rel w { base0 w p with om := fun _ => none } E' s' a' w' → ∃ v, (results fn a'.tmps).run P w' = .ok v w' ∧ Rr v w')
    (h : ev T CV C A c 0 R k (start fn ds) = some r) (hi : Inv w) (hr : Reps w p ds vs) (hp : ∀ b o, p b o → b < w.heap.size) : Calls P f vs w fun e w' => ∃ v, e = .returned v ∧ Rr v w' := by
  refine (callsIn_wide (n := 0)).1 (callsIn_of_wp_marks hf hb trivial ?_ rfl)
  have done : ∀ s' a' w' E', (k.n s' = some r ∨ k.r s' = some r) → Rel w (base0 w p) E' s' a' w' → LeavesInM Fence.wide 0 P fn a'.tmps (fun e w' => ∃ v, e = .returned v ∧ Rr v w') a'.defers .returning w' := fun s' a' w' E' hk h2 => by
    refine leaves_marks (w0 := w) (fun W => Rel w { base0 w p with om := fun _ => none } E' s' { a' with defers := [] } W) (fun W D hW hD hw => hW.shut hD hw) (fun W hW => ?_) a'.defers w' h2.more.marks h2.more.nod h2.bare
    obtain ⟨v, h3, h4⟩ := fin s' _ W E' hk hW
    exact ⟨v, h3, v, rfl, h4⟩
  have hk : KOk w (base0 w p) k r (bodyPostM Fence.wide 0 P fn fun e w' => ∃ v, e = .returned v ∧ Rr v w') :=
    { n := fun s' a' w' E' h1 h2 => done s' a' w' E' (.inl h1) h2, e := fun j s' a' w' E' h1 _ => absurd h1 (he j s'), r := fun s' a' w' E' h1 h2 => done s' a' w' E' (.inr h1) h2 }
  exact ev_soundIn hm hT hV hC c Fence.wide (base0 w p) 0 R k r _ (.inl rfl) (.inl rfl) (Free.none c) (by
    rintro ⟨a', w', hh⟩
    obtain ⟨v, hv, _⟩ : ∃ v, Ending.outgrown = .returned v ∧ Rr v w' := hh
    cases hv) hk h (start_rel hi hp hr)
theorem okPure (hm : P.follows .mixedOrders = true) (hT : TOk P T) (hV : CVOk P CV) (hC : COk P C) {f : Nat} {fn : Func} {c : Code} (hf : P.funcs[f]? = some fn) (hb : fn.body = some c) (hname : (fn.name == "runtime.NumGoroutine") = false) : OkPure P f (evPure T CV C A fn) := by
  refine ⟨enters_of hf hname hb, fun w p ds vs r hi hF hr hp => ?_⟩
  unfold evPure at hF
  rw [fnAt_nil hb] at hF
  refine (calls_of_ev hm hT hV hC hf hb (k := kPure T fn) (Rr := fun v w' => Below w.heap.size w w' ∧ Rep w' (fun b o => p b o ∨ w.heap.size ≤ b ∧ b < w'.heap.size) r v) (fun j s h => by cases h) (fun s' a' w' E' h1 h2 => ?_) hF hi hr hp).mono fun e w' ⟨v, h1, h2, h3⟩ => ⟨v, h1, h2, h3⟩
  obtain ⟨v, p', g1, g2, g3⟩ := res_pure hT h2 (show (resD T s'.shareAll fn.results.toList).map tupOf = some r from h1.elim id id)
  refine ⟨v, g1, h2.below, g3.mono fun b o hb => ?_⟩
  rcases Nat.lt_or_ge b w.heap.size with hlt | hge
  · exact .inl (g2.pold b o hlt hb)
  · exact .inr ⟨hge, g2.pin b o hb⟩
theorem okOwn (hm : P.follows .mixedOrders = true) (hT : TOk P T) (hV : CVOk P CV) (hC : COk P C) {f : Nat} {fn : Func} {c : Code} (sz : Nat) (hf : P.funcs[f]? = some fn) (hb : fn.body = some c) (hname : (fn.name == "runtime.NumGoroutine") = false) : OkOwn P f sz (evOwn T CV C A sz fn) := by
  refine ⟨enters_of hf hname hb, fun w p ds vs xs hi hF hr hp => ?_⟩
  unfold evOwn at hF
  rw [fnAt_nil hb] at hF
  refine (calls_of_ev hm hT hV hC hf hb (k := kOwn sz fn) (Rr := fun v w' => ∃ β, Below w.heap.size w w' ∧ RowOk w.heap.size w' (fun b o => p b o ∨ w.heap.size ≤ b ∧ b < w'.heap.size ∧ β ≠ some b) true sz xs v β) (fun j s h => by cases h) (fun s' a' w' E' h1 h2 => ?_) hF hi hr hp).mono fun e w' ⟨v, h1, β, h2, h3⟩ => ⟨v, β, h1, h2, h3⟩
  replace h1 : resOwn s' sz fn.results.toList = some xs := h1.elim id id
  unfold resOwn at h1
  split at h1
  · rename_i t hres
    have ho := h2.get t
    generalize s'.get t = v at h1 ho
    cases v <;> try (cases h1; done)
    rename_i tk
    obtain ⟨q, hq, h1⟩ := Option.bind_eq_some_iff.1 h1
    cases hb : (q.wr && q.sz == sz) with
    | false => rw [hb] at h1; cases h1
    | true =>
      rw [hb] at h1
      cases h1
      simp only [Bool.and_eq_true, beq_iff_eq] at hb
      obtain ⟨b1, rfl⟩ := hb
      obtain ⟨k1, k2, k3, k4⟩ := h2.tok hq ho
      rw [b1] at k2
      have hres' : fn.results = #[.tmp t] := by
        have := congrArg List.toArray hres
        simpa using this
      refine ⟨_, results_tmp hres' _ _ _, E'.β tk, h2.below, ?_⟩
      obtain ⟨hz, A, c, vs, hv, g1, g2, g3, g4, g5⟩ := k2
      have hsub : Ext w' E'.p w' (fun b o => p b o ∨ w.heap.size ≤ b ∧ b < w'.heap.size ∧ E'.β tk ≠ some b) := fun b o hbo => by
        refine ⟨?_, rfl⟩
        rcases Nat.lt_or_ge b w.heap.size with hlt | hge
        · exact .inl (h2.pold b o hlt hbo)
        · refine .inr ⟨hge, h2.pin b o hbo, fun hβ => ?_⟩
          rcases g5 with g5 | ⟨g, cur, e, m1, m2, m3, m4, m5, m6⟩
          · rw [g5.1] at hβ; cases hβ
          · rw [m1] at hβ
            cases hβ
            have := (m6 o hbo).1
            cases this
      refine ⟨hz, A, c, vs, hv, g1, g2, fun o ho => ?_, fun i x j d hx hd => (g4 i x j d hx hd).ext hsub, ?_⟩
      · obtain ⟨ad, e1, e2, e3, _⟩ := g3 o ho
        exact ⟨ad, e1, e2, e3, fun h => by cases h⟩
      · rcases g5 with g5 | ⟨g, cur, e, m1, m2, m3, m4, m5, m6⟩
        · exact .inl g5
        · refine .inr ⟨g, cur, e, m1, m2, m3, m4, m5, ?_⟩
          rintro o (ho | ⟨_, _, ho⟩)
          · have := hp g o ho; omega
          · exact absurd m1 ho
  · cases h1
end
end Go.Proofs.Ytcnedmkfcbcjkaa.Ra
