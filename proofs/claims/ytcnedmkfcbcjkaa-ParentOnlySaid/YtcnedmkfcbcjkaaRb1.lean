/- A RANGE OVER A FUNCTION: the closure hands on things one by one; each round is read as any code. -/
import Derived.Test.YtcnedmkfcbcjkaaRb0
import Derived.RangeFuncLeaves
import Derived.RangeFuncBound
set_option linter.unusedVariables false
set_option linter.unusedSimpArgs false
namespace Go.Proofs.Ytcnedmkfcbcjkaa.Ra
open Go Go.RowKit
set_option linter.unusedVariables false
set_option linter.unusedSimpArgs false
variable {w0 : World} {p0 : Base} {E : Env} {s : St} {a : Act} {w : World} {P : Program}

structure KOk (w0 : World) (p0 : Base) {R : Type} (k : Kont R) (r : R) (Q : Exit → Act → World → Prop) : Prop where
  n : ∀ s' a' w' E', k.n s' = some r → Rel w0 p0 E' s' a' w' → Q .normal a' w'
  e : ∀ i s' a' w' E', k.e i s' = some r → Rel w0 p0 E' s' a' w' → Q (.exit i) a' w'
  r : ∀ s' a' w' E', k.r s' = some r → Rel w0 p0 E' s' a' w' → Q .ret a' w'
theorem setPs_size (l : List (Nat × D)) : ∀ (tm : List V), (setPs tm l).length = tm.length := by
  induction l with
  | nil => intro tm; rfl
  | cons q l ih => intro tm; simp [setPs, ih]
theorem foldl_size (l : List (Nat × Value)) : ∀ (tm : Array Value), (l.foldl (fun t (q : Nat × Value) => t.setIfInBounds q.1 q.2) tm).size = tm.size := by
  induction l with
  | nil => intro tm; rfl
  | cons q l ih => intro tm; simp [ih]
theorem setPs_rep : ∀ (ps : List Nat) (item : List D) (vs : List Value) (tm : List V) (tv : Array Value), item.length = vs.length →
    (∀ (j : Nat) (d : D) (v : Value), item[j]? = some d → vs[j]? = some v → Rep w E.p d v) → (∀ (i : Nat) (v : V) (u : Value), tm[i]? = some v → tv[i]? = some u → RepV w E v u) →
    ∀ (i : Nat) (v : V) (u : Value), (setPs tm (ps.zip item))[i]? = some v → ((ps.zip vs).foldl (fun t (q : Nat × Value) => t.setIfInBounds q.1 q.2) tv)[i]? = some u → RepV w E v u := by
  intro ps
  induction ps with
  | nil => intro item vs tm tv _ _ h i v u hi hu; exact h i v u hi hu
  | cons t ps ih =>
    intro item vs tm tv hl hr h
    match item, vs, hl with
    | [], [], _ => exact h
    | d :: item, x :: vs, hl =>
      refine ih item vs (tm.set t (.d d)) (tv.setIfInBounds t x) (by simpa using hl) (fun j d' v' hj hv => hr (j + 1) d' v' (by simpa using hj) (by simpa using hv)) fun i v u hi hu => ?_
      rw [List.getElem?_set] at hi
      rw [Array.getElem?_setIfInBounds] at hu
      by_cases e : t = i
      · subst e
        rw [if_pos rfl] at hi hu
        split at hi
        · split at hu
          · cases hi; cases hu; exact hr 0 d x rfl rfl
          · cases hu
        · cases hi
      · rw [if_neg e] at hi hu
        exact h i v u hi hu
section
variable {T : TE} {CV : Nat → Nat → Option Conv} {C : CT} {A : Nat → Hd}
open Classical in
theorem range_sound (hC : COk P C) {g : Operand} {ps : Array Tmp} {assign body : Code} {R : Type} {k : Kont R} {r : R} {Q : Exit → Act → World → Prop} (hk : KOk w0 p0 k r Q) (hfix : ∀ b, p0.fix b = none)
    (HA : ∀ (l : Nat) (B : Base) (k : Kont R) (Q : Exit → Act → World → Prop), Plain assign → Free B.fix assign → ¬ LetsOut Q → KOk w0 B k r Q → ∀ {s : St} {a : Act} {w : World} {E : Env}, ev T CV C A assign 0 R k s = some r → Rel w0 B E s a w → assign.wpIn (Fence.wide.inRound l) 0 P Q a w)
    (HB : ∀ (l : Nat) (B : Base) (k : Kont R) (Q : Exit → Act → World → Prop), Plain body → Free B.fix body → ¬ LetsOut Q → KOk w0 B k r Q → ∀ {s : St} {a : Act} {w : World} {E : Env}, ev T CV C A body 0 R k s = some r → Rel w0 B E s a w → body.wpIn (Fence.wide.inRound l) 0 P Q a w)
    {i : Nat} (h : ev T CV C A (.rangeFunc g ps assign body) i R k s = some r) (hr : Rel w0 p0 E s a w) : (Code.rangeFunc g ps assign body).wpIn Fence.wide 0 P Q a w := by
  simp only [ev] at h
  have hgr := hr.opnd g
  generalize s.opnd g = gv at h hgr
  match gv, h, hgr with
  | .d (.clo gf env), h, hgr =>
  simp only at h
  generalize hgu : a.eval g = gu at hgr
  replace hgr : Rep w E.p (.clo gf env) gu := hgr
  cases hgr with
  | clo _ _ vs hvn hvr =>
  cases hcf : C gf with
  | none => rw [hcf] at h; cases h
  | some en =>
  rw [hcf] at h
  cases en with
  | pure F => cases h
  | own sz F => cases h
  | nown sz F => cases h
  | seq F =>
  have hseq : OkSeq P gf F := hC gf _ hcf
  obtain ⟨items, hF, h⟩ := Option.bind_eq_some_iff.1 h
  cases hfree : (layFree (s.boxes.map (·.1)) assign && layFree (s.boxes.map (·.1)) body) with
  | false => rw [hfree] at h; cases h
  | true =>
  rw [hfree] at h
  simp only [cond_true] at h
  simp only [Bool.and_eq_true] at hfree
  obtain ⟨encs, henc, hiter⟩ := hseq.2 w E.p env vs items hr.inv hF ⟨hvn, hvr⟩ hr.pin
  refine wpIn_rangeFunc ?_
  intro fn _
  obtain ⟨ids, hids⟩ : ∃ ids, ids = s.boxes.map (·.1) := ⟨_, rfl⟩
  obtain ⟨tks, htks⟩ : ∃ tks, tks = s.toks.map (·.id) := ⟨_, rfl⟩
  rw [← hids, ← htks] at h
  rw [← hids] at hfree
  obtain ⟨sv, hsv⟩ : ∃ sv, sv = s.tmps.map (V.clean ids) := ⟨_, rfl⟩
  rw [← hsv] at h
  obtain ⟨l, hl⟩ : ∃ l, l = w.heap.size + 1 := ⟨_, rfl⟩
  obtain ⟨D0, hD0⟩ : ∃ D0, D0 = w.heap.size := ⟨_, rfl⟩
  obtain ⟨rec, hrec⟩ : ∃ rec : LoopState → Option Code → Loop, rec = fun st pe => { state := st, pending := pe, fn, tmps := a.tmps, params := ps, assign, body, defers := w.heap.size } := ⟨_, rfl⟩
  obtain ⟨W1, hW1⟩ : ∃ W1, W1 = (w.alloc (.deferred (some []))).alloc (.loop (rec .ready none)) := ⟨_, rfl⟩
  have hL1 : W1.heap[l]? = some (.loop (rec .ready none)) := by
    rw [hW1, hl]
    have := World.alloc_heap_new (w.alloc (.deferred (some []))) (.loop (rec .ready none))
    rwa [World.size_alloc] at this
  have hK1 : W1.heap[D0]? = some (.deferred (some [])) := by
    rw [hW1, hD0]
    exact (Below.heap_alloc _ _ _ (by simp)).trans (World.alloc_heap_new w _)
  have hb1 : Below w.heap.size w W1 := by
    rw [hW1]
    exact ((Below.refl _ w).alloc (Nat.le_refl _) _).alloc (by simp) _
  have hsz := hr.size
  have hround : Fence.wide.round = none := rfl
  refine ⟨l, [{ target := .collected w.heap.size, args := #[] }], W1, { target := .fn (.func gf) vs, args := #[.func (.yield l) #[] #[]] }, W1, gf, #[.func (.yield l) #[] #[]] ++ vs, W1, ?_, ?_, fun _ _ => trivial, ?_, fun hh => (by cases hh), ?_⟩
  · rw [hround, hW1, hl, hrec]; exact run_enterLoop_outer _ _ _ _ _
  · simp only [resolve, rangeCall, hgu]
    simp [go_sem]
  · have eg : ∀ (args : Array Value) (w : World), (callFunc gf args).run P w = .ok (.enter gf args) w := hseq.1
    simp [invoke, go_sem, eg]
  obtain ⟨mk, hmk⟩ : ∃ mk : Nat → Prop, mk = fun q => q = D0 ∨ ∃ d ∈ a.defers, d = { target := .collected q, args := #[] } := ⟨_, rfl⟩
  -- what stands between two rounds
  obtain ⟨Held, hHeld⟩ : ∃ Held : Env → World → Prop, Held = fun E' W => (∀ b, ids.contains b = true → E'.σ b = E.σ b) ∧ Ext w E.p W E'.p ∧ ∀ q, mk q → W.heap[q]? = some (.deferred (some [])) := ⟨_, rfl⟩
  have hmarks : ∀ d ∈ a.defers, ∃ q, d = { target := .collected q, args := #[] } ∧ w0.heap.size ≤ q ∧ q < w.heap.size ∧ w.heap[q]? = some (.deferred (some [])) := fun d hd => by
    obtain ⟨q, h1, h2, h3⟩ := hr.more.marks d hd
    exact ⟨q, h1, h2, heap_lt h3, h3⟩
  have hmkl : ∀ q, mk q → q ≠ l := by
    rw [hmk]
    rintro q (rfl | ⟨d, hd, rfl⟩)
    · omega
    · obtain ⟨q', h1, _, h2, _⟩ := hmarks _ hd
      simp only [Deferred.mk.injEq, Target.collected.injEq, and_true] at h1
      omega
  have more_of : ∀ {E' : Env} {W : World}, Held E' W → More w0 p0 E'.σ E'.p a.defers W → More w0 p0 E'.σ E'.p a.defers W := fun _ h => h
  have out : ∀ {E' : Env} {W : World} {s' : St} {a' : Act} {B : Base} {bs : List (Nat × List V)} {tk : List Tok}, Rel w0 B E' s' a' W → (∀ b o, B.old b o → p0.old b o) → Held E' W → (∀ q ∈ bs, q ∈ s'.boxes) → (∀ q ∈ tk, q ∈ s'.toks) → (∀ (k : Nat) (o : Obj), p0.om k = some o → W.heap[k]? = some o) →
      Rel w0 p0 E' ⟨sv, bs, tk⟩ a W := fun {E' W s' a' B bs tk} hR hold hH hb ht hom => by
    rw [hHeld] at hH
    obtain ⟨hσ, hext, hd⟩ := hH
    refine hR.with hold ⟨hr.more.inv, fun d hd' => ?_, hr.more.nod, fun b g hb => (by rw [hfix b] at hb; cases hb), hr.more.kept.trans hext, fun k o ho => ⟨(hr.more.others k o ho).1, hom k o ho⟩⟩ (by rw [hsv, List.length_map]; exact hr.tsz) (fun i v u hi hu => ?_) hb ht
    · obtain ⟨q, h1, h2, h3, h4⟩ := hmarks d hd'
      exact ⟨q, h1, h2, hd q (by rw [hmk]; exact .inr ⟨d, hd', h1⟩)⟩
    · rw [hsv] at hi
      simp only [List.getElem?_map, Option.map_eq_some_iff] at hi
      obtain ⟨v0, hv0, rfl⟩ := hi
      exact (hr.tmps i v0 u hv0 hu).clean hext hσ
  have omKeep : ∀ {W W' : World}, (∀ (k : Nat) (o : Obj), p0.om k = some o → W.heap[k]? = some o) → Others W W' → ∀ (k : Nat) (o : Obj), p0.om k = some o → W'.heap[k]? = some o := fun h ho k o hk => ho k o (h k o hk) (hr.more.others k o hk).1
  have om0 : ∀ (k : Nat) (o : Obj), p0.om k = some o → w.heap[k]? = some o := fun k o hk => (hr.more.others k o hk).2
  have omlt : ∀ (k : Nat) (o : Obj), p0.om k = some o → k < w.heap.size := fun k o hk => heap_lt (om0 k o hk)
  obtain ⟨rnd, hrnd⟩ : ∃ rnd : St → (St → Option R) → (Nat → St → Option R) → (St → Option R) → Option R, rnd = fun s' kn ke kr => ev T CV C A assign 0 R ⟨fun s1 => ev T CV C A body 0 R ⟨kn, ke, kr⟩ s1, fun _ _ => none, fun _ => none⟩ s' := ⟨_, rfl⟩
  rw [← hrnd] at h
  have heldGrow : ∀ {E' : Env} {W W' : World}, (∀ b o, E'.p b o → b < W.heap.size) → Held E' W → Below W.heap.size W W' → Held E' W' := fun {E' W W'} hpin hH hb => by
    rw [hHeld] at hH ⊢
    exact ⟨hH.1, hH.2.1.trans (ext_below hb hpin fun _ _ h => h), fun q hq => (hb.block q (heap_lt (hH.2.2 q hq))).trans (hH.2.2 q hq)⟩
  refine (Wide.calls (.inl rfl) ((hiter l
    (fun k' W => ∃ bx tk E', itemsK rnd (bodyId body) ps.toList sv ids tks k (items.drop k') bx tk = some r ∧ Rel w0 p0 E' ⟨sv, bx, tk⟩ a W ∧ Held E' W ∧ W.heap[l]? = some (.loop (rec .ready none)))
    (fun k' W => ∃ c bx tk E', (c = Code.ret ∧ k.r ⟨sv, bx, tk⟩ = some r ∨ ∃ j, c = Code.exit j ∧ k.e j ⟨sv, bx, tk⟩ = some r) ∧ Rel w0 p0 E' ⟨sv, bx, tk⟩ a W ∧ Held E' W ∧ W.heap[l]? = some (.loop (rec .done (some c))))
    W1 (ext_below hb1 hr.pin fun _ _ h => h) hb1.size (hr.inv.below hb1) ?_ ?_ ?_ ?_).mono ?_))
  · rintro k' W W' ⟨bx, tk, E', h1, h2, h3, h4⟩ hb
    exact ⟨bx, tk, E', h1, (h2.grow hb (p' := E'.p) (fun _ _ h => h) (fun _ _ h => .inl h)).1, heldGrow h2.pin h3 hb, (hb.block l (heap_lt h4)).trans h4⟩
  · rintro k' W W' ⟨c, bx, tk, E', h1, h2, h3, h4⟩ hb
    exact ⟨c, bx, tk, E', h1, (h2.grow hb (p' := E'.p) (fun _ _ h => h) (fun _ _ h => .inl h)).1, heldGrow h2.pin h3 hb, (hb.block l (heap_lt h4)).trans h4⟩
  · -- ONE ROUND
    rintro k' W ⟨bx, tk, E', h1, h2, hH, hL⟩ hlt
    have hH' := hH
    rw [hHeld] at hH
    obtain ⟨hσ, hext, hd⟩ := hH
    rw [List.drop_eq_getElem_cons hlt] at h1
    unfold itemsK at h1
    cases hlen : items[k'].length == ps.toList.length with
    | false => rw [hlen] at h1; cases h1
    | true =>
    rw [hlen] at h1
    simp only [cond_true] at h1
    have hlen' : items[k'].length = ps.size := by simpa using hlen
    have hit := henc k' items[k'] (List.getElem?_eq_getElem hlt)
    have hitW : Reps W E'.p items[k'] (encs k') := hit.ext hext
    have hes : (encs k').size = ps.size := hit.1.trans hlen'
    have hy := run_yield (P := P) (args := encs k') hL (by rw [hrec]; exact hes)
    rw [hrec] at hy
    have hlW : l < W.heap.size := heap_lt hL
    -- what the assignment's code and the body's are held to
    obtain ⟨B, hB⟩ : ∃ B : World → Base, B = fun V => { old := p0.old, fix := fun b => if ids.contains b = true then E.σ b else none, kw := w, kp := E.p, om := fun q => if q = l ∨ mk q ∨ p0.om q ≠ none then V.heap[q]? else none } := ⟨_, rfl⟩
    have hBfree : ∀ V d, ids.contains d = false → (B V).fix d = none := fun V d hd => by rw [hB]; exact if_neg (by rw [hd]; decide)
    have omB : ∀ (V : World) (q : Nat), (q = l ∨ mk q ∨ p0.om q ≠ none) → (B V).om q = V.heap[q]? := fun V q hq => by rw [hB]; exact if_pos hq
    have omNot : ∀ (q : Nat) (V : World) (o : Obj), (∃ lp, V.heap[l]? = some (.loop lp)) → (∀ q, mk q → V.heap[q]? = some (.deferred (some []))) → (∀ (k : Nat) (o : Obj), p0.om k = some o → V.heap[k]? = some o) → (B V).om q = some o → o.isCells = false ∧ V.heap[q]? = some o := by
      intro q V o hl' hd' ho' h
      rw [hB] at h
      simp only at h
      split at h
      · rename_i hc
        refine ⟨?_, h⟩
        rcases hc with rfl | hc | hc
        · obtain ⟨lp, hlp⟩ := hl'
          rw [hlp] at h
          cases h
          rfl
        · rw [hd' q hc] at h
          cases h
          rfl
        · cases hq : p0.om q with
          | none => exact absurd hq hc
          | some x =>
            rw [ho' q x hq] at h
            cases h
            exact (hr.more.others q o hq).1
      · cases h
    have omW : ∀ (k : Nat) (o : Obj), p0.om k = some o → W.heap[k]? = some o := fun k o hk => (h2.more.others k o hk).2
    have hrel0 : Rel w0 (B W) E' ⟨setPs sv (ps.toList.zip items[k']), bx, tk⟩ { tmps := (ps.zip (encs k')).foldl (fun t (q : Nat × Value) => t.setIfInBounds q.1 q.2) a.tmps, defers := [] } W := by
      refine h2.with (fun b o hb => by rw [hB]; exact hb) ⟨hr.more.inv, fun d hd => (by cases hd), List.nodup_nil, fun b g hb => ?_, by rw [hB]; exact hext, fun q o ho => omNot q W o ⟨_, hL⟩ hd omW ho⟩ ?_ ?_ (fun q hq => hq) (fun q hq => hq)
      · rw [hB] at hb
        simp only at hb
        split at hb
        · rename_i hc
          exact (hσ b hc).trans hb
        · cases hb
      · rw [← Array.foldl_toList, foldl_size, setPs_size]
        exact h2.tsz
      · intro i v u hi hu
        rw [← Array.foldl_toList, Array.toList_zip] at hu
        exact setPs_rep ps.toList items[k'] (encs k').toList sv a.tmps (by simpa using hitW.1.symm) (fun j d v hj hv => hitW.2 j d v hj (by simpa using hv)) h2.tmps i v u hi hu
    refine ⟨fn, _, assign, body, hy, roundIn_of_wpIn trivial ?_⟩
    rw [hrnd] at h1
    refine HA l (B W) _ _ (layFree_plain hfree.1) (layFree_free (hBfree W) hfree.1) (fun ⟨a', w', hh⟩ => hh) ⟨fun s' a' w' E'' k1 k2 => ?_, fun j s' a' w' E'' k1 k2 => (nomatch k1), fun s' a' w' E'' k1 k2 => (nomatch k1)⟩ h1 hrel0
    -- the assignment is done
    have hLa : w'.heap[l]? = some (.loop (rec .ready none)) := (k2.more.others l _ ((omB W l (.inl rfl)).trans hL)).2
    have hda : ∀ q, mk q → w'.heap[q]? = some (.deferred (some [])) := fun q hq => (k2.more.others q _ ((omB W q (.inr (.inl hq))).trans (hd q hq))).2
    have homa : ∀ (k : Nat) (o : Obj), p0.om k = some o → w'.heap[k]? = some o := fun k o hk => (k2.more.others k _ ((omB W k (.inr (.inr (by rw [hk]; simp)))).trans (omW k o hk))).2
    refine ⟨_, run_beginRound hLa (by rw [hrec]), ?_⟩
    obtain ⟨W2, hW2⟩ : ∃ W2, W2 = w'.putObj l (.loop { rec .ready none with state := .busy }) := ⟨_, rfl⟩
    rw [← hW2]
    have hL2 : W2.heap[l]? = some (.loop { rec .ready none with state := .busy }) := by rw [hW2]; exact World.putObj_heap_same (heap_lt hLa)
    have oth2 : ∀ (q : Nat), q ≠ l → W2.heap[q]? = w'.heap[q]? := fun q hq => by rw [hW2]; exact World.putObj_heap_other hq
    have hd2 : ∀ q, mk q → W2.heap[q]? = some (.deferred (some [])) := fun q hq => (oth2 q (hmkl q hq)).trans (hda q hq)
    have hom2 : ∀ (k : Nat) (o : Obj), p0.om k = some o → W2.heap[k]? = some o := fun k o hk => (oth2 k (by have := omlt k o hk; omega)).trans (homa k o hk)
    have hext2 : Ext w E.p W2 E''.p := by
      have := k2.more.kept
      rw [hB] at this
      rw [hW2]
      exact this.trans (ext_putObj hLa rfl rfl _)
    have hfix2 : ∀ b g, (B W).fix b = some g → E''.σ b = some g := k2.more.fix
    have hrel2 : Rel w0 (B W2) E'' s' a' W2 := by
      rw [hW2]
      refine k2.turn hLa rfl rfl (by omega) (fun b o hb => by rw [hB] at hb ⊢; exact hb) rfl ?_
      rw [← hW2]
      refine ⟨hr.more.inv, fun d hd' => ?_, k2.more.nod, fun b g hb => hfix2 b g (by rw [hB] at hb ⊢; exact hb), (by rw [hB]; exact hext2), fun q o ho => omNot q W2 o ⟨_, hL2⟩ hd2 hom2 ho⟩
      obtain ⟨q, e1, e2, e3⟩ := k2.more.marks d hd'
      refine ⟨q, e1, e2, (oth2 q ?_).trans e3⟩
      rintro rfl
      rw [hLa] at e3
      cases e3
    -- a round's end
    have fin : ∀ (jump : Option Code) {s3 : St} {a3 : Act} {W3 : World} {E3 : Env}, Rel w0 (B W2) E3 s3 a3 W3 → ∃ W4, (Instr.endRound l jump).run P W3 = .ok (.bool jump.isNone) W4 ∧ W4.heap[l]? = some (.loop (rec (if jump.isNone then .ready else .done) jump)) ∧
        Held E3 W4 ∧ Ext W E.p W4 E.p ∧ ∀ {bs : List (Nat × List V)} {tk : List Tok}, (∀ q ∈ bs, q ∈ s3.boxes) → (∀ q ∈ tk, q ∈ s3.toks) → Rel w0 p0 E3 ⟨sv, bs, tk⟩ a W4 := by
      intro jump s3 a3 W3 E3 k3
      have hL3 : W3.heap[l]? = some (.loop { rec .ready none with state := .busy }) := (k3.more.others l _ ((omB W2 l (.inl rfl)).trans hL2)).2
      have hd3 : ∀ q, mk q → W3.heap[q]? = some (.deferred (some [])) := fun q hq => (k3.more.others q _ ((omB W2 q (.inr (.inl hq))).trans (hd2 q hq))).2
      have hom3 : ∀ (k : Nat) (o : Obj), p0.om k = some o → W3.heap[k]? = some o := fun k o hk => (k3.more.others k _ ((omB W2 k (.inr (.inr (by rw [hk]; simp)))).trans (hom2 k o hk))).2
      have hend := run_endRound (P := P) jump hL3
      obtain ⟨W4, hW4⟩ : ∃ W4, W4 = W3.putObj l (.loop (rec (if jump.isNone then .ready else .done) jump)) := ⟨_, rfl⟩
      have oth4 : ∀ (q : Nat), q ≠ l → W4.heap[q]? = W3.heap[q]? := fun q hq => by rw [hW4]; exact World.putObj_heap_other hq
      have hext3 : Ext w E.p W3 E3.p := by
        have := k3.more.kept
        rw [hB] at this
        exact this
      have hH4 : Held E3 W4 := by
        rw [hHeld]
        refine ⟨fun b hb => ?_, ?_, fun q hq => (oth4 q (hmkl q hq)).trans (hd3 q hq)⟩
        · cases hs : E.σ b with
          | none =>
            -- a box that stays has its place
            have hmem : ∃ q ∈ s.boxes, q.1 = b := by
              rw [hids] at hb
              simpa using hb
            obtain ⟨q, hq, rfl⟩ := hmem
            obtain ⟨gq, _, _, e1, _⟩ := hr.boxes q hq
            rw [hs] at e1
            cases e1
          | some gq => exact k3.more.fix b gq (by rw [hB]; simp only; rw [if_pos hb]; exact hs)
        · rw [hW4]
          exact hext3.trans (ext_putObj hL3 rfl rfl _)
      have hom4 : ∀ (k : Nat) (o : Obj), p0.om k = some o → W4.heap[k]? = some o := fun k o hk => (oth4 k (by have := omlt k o hk; omega)).trans (hom3 k o hk)
      refine ⟨W4, ?_, by rw [hW4]; exact World.putObj_heap_same (heap_lt hL3), hH4, ?_, fun {bs tk} hb ht => ?_⟩
      · rw [hW4]
        rw [hrec] at hend ⊢
        exact hend
      · intro b o hbo
        have e1 := hext b o hbo
        have e2 := hext3 b o hbo
        refine ⟨hbo, ?_⟩
        rw [hW4, putObj_cell hL3 rfl rfl, e2.2, e1.2]
      · have hR4 : Rel w0 { (B W2) with om := fun _ => none } E3 s3 a3 W4 := by
          rw [hW4]
          refine k3.turn (B := { (B W2) with om := fun _ => none }) hL3 rfl rfl (by omega) (fun b o hb => hb) rfl ⟨hr.more.inv, fun d hd' => ?_, k3.more.nod, fun b g hb => k3.more.fix b g hb, k3.more.kept.trans (ext_putObj (o' := .loop (rec (if jump.isNone then .ready else .done) jump)) hL3 rfl rfl _), fun q o ho => (by cases ho)⟩
          obtain ⟨q, e1, e2, e3⟩ := k3.more.marks d hd'
          refine ⟨q, e1, e2, (World.putObj_heap_other ?_).trans e3⟩
          rintro rfl
          rw [hL3] at e3
          cases e3
        exact out hR4 (fun b o hb => by rw [hB] at hb; exact hb) hH4 hb ht hom4
    refine HB l (B W2) _ _ (layFree_plain hfree.2) (layFree_free (hBfree W2) hfree.2) (fun ⟨a', w', hh⟩ => hh) ⟨fun s3 a3 W3 E3 g1 g2 => ?_, fun j s3 a3 W3 E3 g1 g2 => ?_, fun s3 a3 W3 E3 g1 g2 => ?_⟩ k1 hrel2
    · obtain ⟨W4, e1, e2, e3, e4, e6⟩ := fin none g2
      exact ⟨_, W4, e1, .inl ⟨rfl, ⟨_, _, E3, (by rw [hrnd]; exact g1), e6 (fun q hq => pickBoxes_mem hq) (fun q hq => pickToks_mem hq), e3, e2⟩, e4⟩⟩
    · obtain ⟨W4, e1, e2, e3, e4, e6⟩ := fin (some (.exit j)) g2
      exact ⟨_, W4, e1, .inr ⟨rfl, ⟨.exit j, _, _, E3, .inr ⟨j, rfl, g1⟩, e6 (fun q hq => hq) (fun q hq => hq), e3, e2⟩⟩⟩
    · obtain ⟨W4, e1, e2, e3, e4, e6⟩ := fin (some .ret) g2
      exact ⟨_, W4, e1, .inr ⟨rfl, ⟨.ret, _, _, E3, .inl ⟨rfl, g1⟩, e6 (fun q hq => hq) (fun q hq => hq), e3, e2⟩⟩⟩
  · -- AT THE START
    refine ⟨s.boxes, s.toks, E, h, ?_, ?_, hL1⟩
    · refine out (hr.grow hb1 (p' := E.p) (fun _ _ h => h) (fun _ _ h => .inl h)).1 (fun _ _ h => h) ?_ (fun q hq => hq) (fun q hq => hq) (fun k o hk => (hb1.block k (omlt k o hk)).trans (om0 k o hk))
      rw [hHeld]
      refine ⟨fun _ _ => rfl, ext_below hb1 hr.pin fun _ _ h => h, fun q hq => ?_⟩
      rw [hmk] at hq
      rcases hq with rfl | ⟨d, hd, rfl⟩
      · exact hK1
      · obtain ⟨q', e1, _, e2, e3⟩ := hmarks _ hd
        simp only [Deferred.mk.injEq, Target.collected.injEq, and_true] at e1
        subst e1
        exact (hb1.block q e2).trans e3
    · rw [hHeld]
      refine ⟨fun _ _ => rfl, ext_below hb1 hr.pin fun _ _ h => h, fun q hq => ?_⟩
      rw [hmk] at hq
      rcases hq with rfl | ⟨d, hd, rfl⟩
      · exact hK1
      · obtain ⟨q', e1, _, e2, e3⟩ := hmarks _ hd
        simp only [Deferred.mk.injEq, Target.collected.injEq, and_true] at e1
        subst e1
        exact (hb1.block q e2).trans e3
  · -- BEHIND THE CLOSURE
    have last : ∀ {E' : Env} {W : World} {bx : List (Nat × List V)} {tk : List Tok} {lp lp' : Loop}, Rel w0 p0 E' ⟨sv, bx, tk⟩ a W → Held E' W → W.heap[l]? = some (.loop lp) → Rel w0 p0 E' ⟨sv, bx, tk⟩ { a with defers := [{ target := .collected w.heap.size, args := #[] }] ++ a.defers } (W.putObj l (.loop lp')) := by
      intro E' W bx tk lp lp' h2 hH hL
      rw [hHeld] at hH
      obtain ⟨hσ, hext, hd⟩ := hH
      refine h2.turn hL rfl rfl (by omega) (fun _ _ h => h) rfl ⟨hr.more.inv, fun d hd' => ?_, ?_, fun b g hb => (by rw [hfix b] at hb; cases hb), h2.more.kept.trans (ext_putObj hL rfl rfl _), fun k o hk => ⟨(hr.more.others k o hk).1, (World.putObj_heap_other (by have := omlt k o hk; omega)).trans (h2.more.others k o hk).2⟩⟩
      · simp only [List.singleton_append, List.mem_cons] at hd'
        rcases hd' with rfl | hd'
        · exact ⟨w.heap.size, rfl, hsz, (World.putObj_heap_other (by omega)).trans (hd w.heap.size (by rw [hmk]; exact .inl hD0.symm))⟩
        · obtain ⟨q, e1, e2, e3, e4⟩ := hmarks d hd'
          exact ⟨q, e1, e2, (World.putObj_heap_other (by omega)).trans (hd q (by rw [hmk]; exact .inr ⟨d, hd', e1⟩))⟩
      · simp only [List.singleton_append, List.nodup_cons]
        refine ⟨fun hm => ?_, hr.more.nod⟩
        obtain ⟨q, e1, _, e2, _⟩ := hmarks _ hm
        simp only [Deferred.mk.injEq, Target.collected.injEq, and_true] at e1
        omega
    rintro e W2 ⟨⟨v, rfl⟩, (⟨bx, tk, E', h1, h2, hH, hL⟩ | ⟨k', _, c, bx, tk, E', h1, h2, hH, hL⟩)⟩
    · rw [List.drop_length] at h1
      refine ⟨none, _, by have := run_endLoop (P := P) hL (by rw [hrec]; simp); rw [hrec] at this; exact this, ?_⟩
      exact hk.n _ _ _ E' h1 (last h2 hH hL)
    · refine ⟨some c, _, by have := run_endLoop (P := P) hL (by rw [hrec]; simp); rw [hrec] at this; exact this, ?_⟩
      rcases h1 with ⟨rfl, h1⟩ | ⟨j, rfl, h1⟩
      · exact wpIn_ret (hk.r _ _ _ E' h1 (last h2 hH hL))
      · exact wpIn_exit (hk.e j _ _ _ E' h1 (last h2 hH hL))
end
end Go.Proofs.Ytcnedmkfcbcjkaa.Ra
