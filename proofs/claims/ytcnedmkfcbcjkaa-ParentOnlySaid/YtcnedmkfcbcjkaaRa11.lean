/- BOXES, AND ROWS UNDER OTHER NUMBERS. -/
import Derived.Test.YtcnedmkfcbcjkaaRa10
set_option linter.unusedVariables false
set_option linter.unusedSimpArgs false
namespace Go.Proofs.Ytcnedmkfcbcjkaa.Ra
open Go Go.RowKit
set_option linter.unusedVariables false
set_option linter.unusedSimpArgs false
variable {w0 : World} {p0 : Base} {E : Env} {s : St} {a : Act} {w : World} {P : Program}

theorem Rel.shareV (h : Rel w0 p0 E s a w) (v : V) : ∃ p', Rel w0 p0 { E with p := p' } (s.shareV v) a w ∧ Ext w E.p w p' := by
  cases v with
  | own t => rw [show s.shareV (.own t) = s.shareIf (· == t) from rfl]; exact ⟨_, h.shareIf _⟩
  | _ => exact ⟨E.p, h, Ext.refl _ _⟩
theorem Rel.shareVs : ∀ (l : List V) {E : Env} {s : St}, Rel w0 p0 E s a w → ∃ p', Rel w0 p0 { E with p := p' } (s.shareVs l) a w ∧ Ext w E.p w p' := by
  intro l
  induction l with
  | nil => intro E s h; exact ⟨E.p, h, Ext.refl _ _⟩
  | cons v l ih =>
    intro E s h
    obtain ⟨p1, h1, e1⟩ := h.shareV v
    obtain ⟨p2, h2, e2⟩ := ih h1
    exact ⟨p2, h2, e1.trans e2⟩
theorem nil_row {base : Nat} {p : Nat → Nat → Prop} {sz : Nat} (hz : 0 < sz) (wr : Bool) : RowOk base w p wr sz [] (.slice none 0 0) none :=
  ⟨hz, none, 0, fun _ => undef, rfl, Nat.le_refl _, by simp, by simp, by simp, .inl ⟨rfl, rfl, fun _ => rfl⟩⟩
theorem Rel.newNil (h : Rel w0 p0 E s a w) (t : Nat) {sz : Nat} (hz : 0 < sz) : Rel w0 p0 { E with ρ := upd E.ρ t (some (.slice none 0 0, sz)), β := upd E.β t none } (s.newTok t true sz []) a w :=
  h.newTok t (nil_row hz true) (by simp) (by simp)
theorem Rel.transfer (h : Rel w0 p0 E s a w) {t d : Nat} {s' : St} (hs : s.transfer t d = some s') {u : Value} (hu : RepV w E (.own t) u) :
    ∃ ρ' β', Rel w0 p0 { E with ρ := ρ', β := β' } s' a w ∧ RepV w { E with ρ := ρ', β := β' } (.own d) u ∧ u.oneCell' = true := by
  unfold St.transfer at hs
  obtain ⟨q, hq, hs⟩ := Option.map_eq_some_iff.1 hs
  obtain ⟨k1, k2, k3, k4⟩ := h.tok hq hu
  have hone : u.oneCell' = true := by
    obtain ⟨_, A, c, vs, rfl, _⟩ := k2
    rfl
  cases e : t == d with
  | true =>
    rw [e] at hs
    cases hs
    have e : t = d := by simpa using e
    subst e
    exact ⟨E.ρ, E.β, h, hu, hone⟩
  | false =>
    rw [e] at hs
    cases hs
    refine ⟨_, _, (h.dropTok t).newTok d k2 (fun q' hq' hne g hg => ?_) (fun q' hq' g hg => ?_), ⟨q.sz, upd_same _ _ _⟩, hone⟩
    · simp only [St.dropTok, List.mem_filter] at hq'
      have hn : q'.id ≠ t := by simpa using hq'.2
      rw [← k4] at hg
      exact h.tapart q k3 q' hq'.1 (by rw [k4]; exact fun e => hn e.symm) g hg
    · rw [← k4] at hg
      exact h.tbox q k3 q' hq' g hg

/-- A new box. -/
theorem Rel.newBox (h : Rel w0 p0 E s a w) (b : Nat) (hfx : p0.fix b = none) {cs : List V} {cur : Array Value} {e : Nat} (hn : cur.size = cs.length) (hc : ∀ (j : Nat) (x : V) (u : Value), cs[j]? = some x → cur[j]? = some u → u.oneCell' = true ∧ RepV w E x u) :
    Rel w0 p0 { E with σ := upd E.σ b (some w.heap.size) } (s.newBox b cs) a (w.alloc (.cells cur e)) := by
  have hsz := h.size
  have hext : Ext w E.p (w.alloc (.cells cur e)) E.p := ext_below (below_alloc w _) h.pin fun _ _ h => h
  have hv : ∀ (v : V) (u : Value), RepV w E v u → RepV (w.alloc (.cells cur e)) { E with σ := upd E.σ b (some w.heap.size) } (v.killBox b) u := by
    intro v u hvu
    have h1 : RepV (w.alloc (.cells cur e)) E v u := RepV.ext hext rfl rfl hvu
    cases v with
    | box b' o =>
      show RepV _ _ (bif b' == b then .d .any else .box b' o) u
      cases e' : b' == b with
      | true => exact Rep.any u
      | false =>
        have hne : b' ≠ b := by simpa using e'
        obtain ⟨g, k1, k2⟩ := h1
        exact ⟨g, (upd_ne _ _ hne).trans k1, k2⟩
    | undef => exact h1
    | d x => exact h1
    | nil => exact h1
    | own t => exact h1
    | elp t i o => exact h1
    | agg cs => exact h1
  have h1 := (h.grow (below_alloc w (.cells cur e)) (p' := E.p) (fun _ _ h => h) (fun _ _ h => .inl h)).1
  refine { more := h1.more.step (Ext.refl _ _) (Others.refl _) (fun c g hc k => (upd_ne _ _ (fun e => by subst e; rw [hfx] at hc; cases hc)).trans k), below := h1.below, tsz := ?_, tmps := ?_, pold := h.pold, pin := h1.pin, boxes := ?_, bapart := ?_, toks := h1.toks, tapart := h.tapart, tbox := ?_ }
  · simpa [St.newBox, St.mapV, St.dropBox] using h.tsz
  · intro i v u hi hu
    simp only [St.newBox, St.dropBox, St.mapV, List.getElem?_map, Option.map_eq_some_iff] at hi
    obtain ⟨v0, h0, rfl⟩ := hi
    exact hv _ _ (h.tmps i v0 u h0 hu)
  · intro q hq
    simp only [St.newBox, St.dropBox, St.mapV, List.mem_cons, List.mem_filter, List.mem_map] at hq
    rcases hq with rfl | ⟨⟨r, hr, rfl⟩, hne⟩
    · refine ⟨w.heap.size, cur, e, upd_same _ _ _, hsz, heap_alloc_new w _, by simpa using hn, fun o ho => absurd (h.pin _ _ ho) (by omega), fun j x u hj hu => ?_⟩
      simp only [List.getElem?_map, Option.map_eq_some_iff] at hj
      obtain ⟨v0, h0, rfl⟩ := hj
      exact ⟨(hc j v0 u h0 hu).1, hv _ _ (hc j v0 u h0 hu).2⟩
    · have hne : r.1 ≠ b := by simpa using hne
      obtain ⟨g, cur', e', k1, k2, k3, k4, k5, k6⟩ := h.boxes r hr
      refine ⟨g, cur', e', (upd_ne _ _ hne).trans k1, k2, (Below.heap_alloc w _ g (heap_lt k3)).trans k3, by simpa using k4, k5, fun j x u hj hu => ?_⟩
      simp only [List.getElem?_map, Option.map_eq_some_iff] at hj
      obtain ⟨v0, h0, rfl⟩ := hj
      exact ⟨(k6 j v0 u h0 hu).1, hv _ _ (k6 j v0 u h0 hu).2⟩
  · intro q hq q' hq' hne
    simp only [St.newBox, St.dropBox, St.mapV, List.mem_cons, List.mem_filter, List.mem_map] at hq hq'
    have hold : ∀ r ∈ s.boxes, E.σ r.1 ≠ some w.heap.size := by
      intro r hr hs
      obtain ⟨g, cur', e', k1, k2, k3, _⟩ := h.boxes r hr
      rw [k1] at hs
      cases hs
      have := heap_lt k3
      omega
    rcases hq with rfl | ⟨⟨r, hr, rfl⟩, hn1⟩ <;> rcases hq' with rfl | ⟨⟨r', hr', rfl⟩, hn2⟩
    · exact absurd rfl hne
    · have hn2 : r'.1 ≠ b := by simpa using hn2
      show upd E.σ b _ b ≠ upd E.σ b _ r'.1
      rw [upd_same, upd_ne _ _ hn2]
      exact fun k => hold r' hr' k.symm
    · have hn1 : r.1 ≠ b := by simpa using hn1
      show upd E.σ b _ r.1 ≠ upd E.σ b _ b
      rw [upd_same, upd_ne _ _ hn1]
      exact hold r hr
    · have hn1 : r.1 ≠ b := by simpa using hn1
      have hn2 : r'.1 ≠ b := by simpa using hn2
      show upd E.σ b _ r.1 ≠ upd E.σ b _ r'.1
      rw [upd_ne _ _ hn1, upd_ne _ _ hn2]
      exact h.bapart r hr r' hr' hne
  · intro q hq q' hq' g hg
    simp only [St.newBox, St.dropBox, St.mapV, List.mem_cons, List.mem_filter, List.mem_map] at hq hq'
    rcases hq' with rfl | ⟨⟨r', hr', rfl⟩, hn2⟩
    · show upd E.σ b _ b ≠ some g
      rw [upd_same]
      intro k
      cases k
      obtain ⟨v, _, _, A, c, vs, _, _, _, _, _, k | ⟨g', cur', e', k1, _, _, k4, _⟩⟩ := h.toks q hq
      · rw [k.1] at hg; cases hg
      · rw [k1] at hg
        cases hg
        have := heap_lt k4
        omega
    · have hn2 : r'.1 ≠ b := by simpa using hn2
      show upd E.σ b _ r'.1 ≠ some g
      rw [upd_ne _ _ hn2]
      exact h.tbox q hq r' hr' g hg

/-- Cells of a zero value, or of a struct that was built, for a box. -/
theorem cellsZ_ok (b : Nat) : ∀ (zs : List Z) (o : Nat) {E : Env} {s : St}, Rel w0 p0 E s a w → ∀ (us : List Value), us.length = zs.length → (∀ (j : Nat) (c : Z) (u : Value), zs[j]? = some c → us[j]? = some u → RepZ w E.p c u) →
    ∃ ρ' β', Rel w0 p0 { E with ρ := ρ', β := β' } (s.cellsZ b o zs).1 a w ∧ (s.cellsZ b o zs).2.length = zs.length ∧ (∀ i, i < ctok b o → ρ' i = E.ρ i) ∧
      ∀ (j : Nat) (x : V) (u : Value), (s.cellsZ b o zs).2[j]? = some x → us[j]? = some u → RepV w { E with ρ := ρ', β := β' } x u := by
  intro zs
  induction zs with
  | nil =>
    intro o E s h us hl hu
    exact ⟨E.ρ, E.β, h, rfl, fun _ _ => rfl, by simp [St.cellsZ]⟩
  | cons z zs ih =>
    intro o E s h us hl hu
    cases us with
    | nil => simp at hl
    | cons u us =>
      cases z with
      | d x =>
        obtain ⟨ρ', β', k1, k2, k3, k4⟩ := ih (o + 1) h us (by simpa using hl) (fun j c v hc hv => hu (j + 1) c v (by simpa using hc) (by simpa using hv))
        refine ⟨ρ', β', k1, by simpa [St.cellsZ] using k2, fun i hi => k3 i (by unfold ctok at *; omega), fun j y v hy hv => ?_⟩
        cases j with
        | zero =>
          simp only [St.cellsZ, List.getElem?_cons_zero, Option.some.injEq] at hy hv
          subst hy hv
          exact hu 0 (.d x) u rfl rfl
        | succ j => exact k4 j y v (by simpa [St.cellsZ] using hy) (by simpa using hv)
      | nl n =>
        have h0 : RepZ w E.p (.nl n) u := hu 0 (.nl n) u rfl rfl
        obtain ⟨hz, rfl⟩ := h0
        have h1 := h.newNil (ctok b o) hz
        obtain ⟨ρ', β', k1, k2, k3, k4⟩ := ih (o + 1) h1 us (by simpa using hl) (fun j c v hc hv => hu (j + 1) c v (by simpa using hc) (by simpa using hv))
        refine ⟨ρ', β', k1, by simpa [St.cellsZ] using k2, fun i hi => ?_, fun j y v hy hv => ?_⟩
        · rw [k3 i (by unfold ctok at *; omega)]
          exact upd_ne _ _ (by omega)
        · cases j with
          | zero =>
            simp only [St.cellsZ, List.getElem?_cons_zero, Option.some.injEq] at hy hv
            subst hy hv
            refine ⟨n, ?_⟩
            show ρ' (ctok b o) = _
            rw [k3 (ctok b o) (by unfold ctok; omega)]
            exact upd_same _ _ _
          | succ j => exact k4 j y v (by simpa [St.cellsZ] using hy) (by simpa using hv)
/-- A value's cells, for a box. -/
theorem cellsK_ok {T : TE} (hT : TOk P T) (h : Rel w0 p0 E s a w) {R : Type} {b o t : Nat} {v : V} {k : St → List V → Option R} {r : R} (hk : cellsK T s b o t v k = some r) {u : Value} (hv : RepV w E v u) :
    ∃ i s' cs ρ' β', T t = some i ∧ k s' cs = some r ∧ Rel w0 p0 { E with ρ := ρ', β := β' } s' a w ∧ u.cells.size = cs.length ∧ cs.length = i.size ∧
      ∀ (j : Nat) (x : V) (c : Value), cs[j]? = some x → u.cells[j]? = some c → c.oneCell' = true ∧ RepV w { E with ρ := ρ', β := β' } x c := by
  unfold cellsK at hk
  obtain ⟨i, hi, hk⟩ := Option.bind_eq_some_iff.1 hk
  have hti := hT t i hi
  cases hag : i.kind.agg with
  | true =>
    rw [hag] at hk
    simp only [cond_true] at hk
    cases v with
    | agg cs =>
      simp only at hk
      cases hl : cs.length == i.size with
      | false => rw [hl] at hk; cases hk
      | true =>
        rw [hl] at hk
        have hl : cs.length = i.size := by simpa using hl
        obtain ⟨vs, rfl, h1, h2, h3⟩ := hv
        obtain ⟨ρ', β', k1, k2, k3, k4⟩ := cellsZ_ok b cs o h vs.toList (by simpa using h1) (fun j c u hc hu => h3 j c u hc (by simpa using hu))
        exact ⟨i, _, _, ρ', β', hi, hk, k1, by rw [k2]; exact h1, k2.trans hl, fun j x c hx hc => ⟨h2 j c hc, k4 j x c hx (by simpa [Value.cells] using hc)⟩⟩
    | d x =>
      obtain ⟨ds, hds, hk2⟩ := Option.bind_eq_some_iff.1 hk
      obtain ⟨rfl, hl⟩ := aggN_spec hds
      rw [explicit_eq hl] at hk2
      have hv : Rep w E.p (.agg ds) u := hv
      cases hv with
      | agg _ vs hn h1 hr =>
        refine ⟨i, s, _, E.ρ, E.β, hi, hk2, h, by simpa [Value.cells] using hn, by simpa using hl, fun j x c hx hc => ⟨h1 j c hc, ?_⟩⟩
        simp only [List.getElem?_map, Option.map_eq_some_iff] at hx
        obtain ⟨d, hd, rfl⟩ := hx
        exact hr j d c hd hc
    | _ => cases hk
  | false =>
    rw [hag] at hk
    simp only [cond_false] at hk
    have hsz : i.size = 1 := by
      obtain ⟨f, z, _, _, _, _, _, _, _, h7, _⟩ := hti.info
      exact (h7 hag).1
    have one : ∀ {E' : Env} (v' : V), u.oneCell' = true → RepV w E' v' u → u.cells.size = [v'].length ∧ [v'].length = i.size ∧ ∀ (j : Nat) (x : V) (c : Value), [v'][j]? = some x → u.cells[j]? = some c → c.oneCell' = true ∧ RepV w E' x c := by
      intro E' v' h1 h2
      have hc : u.cells = #[u] := by cases u <;> first | rfl | (simp [Value.oneCell'] at h1; done)
      refine ⟨by rw [hc]; rfl, by simp [hsz], fun j x c hx hcc => ?_⟩
      rw [hc] at hcc
      cases j with
      | zero => simp at hx hcc; subst hx hcc; exact ⟨h1, h2⟩
      | succ j => simp at hx
    cases v with
    | d x =>
      simp only at hk
      cases h1 : x.one with
      | false => rw [h1] at hk; cases hk
      | true =>
        rw [h1] at hk
        obtain ⟨m1, _⟩ := (show Rep w E.p x u from hv).one h1
        obtain ⟨n1, n2, n3⟩ := one (E' := E) (.d x) m1 hv
        exact ⟨i, s, _, E.ρ, E.β, hi, hk, h, n1, n2, n3⟩
    | nil =>
      obtain ⟨e, he, hk⟩ := Option.bind_eq_some_iff.1 hk
      obtain ⟨_, _, he'⟩ := elemOf_spec hT he
      cases (show u = .slice none 0 0 from hv)
      obtain ⟨n1, n2, n3⟩ := one (E' := { E with ρ := upd E.ρ (ctok b o) (some (.slice none 0 0, e.size)), β := upd E.β (ctok b o) none }) (.own (ctok b o)) rfl ⟨e.size, upd_same _ _ _⟩
      exact ⟨i, _, _, _, _, hi, hk, h.newNil (ctok b o) he'.pos, n1, n2, n3⟩
    | own tk =>
      obtain ⟨s', hs', hk⟩ := Option.bind_eq_some_iff.1 hk
      obtain ⟨ρ', β', k1, k2, hone⟩ := h.transfer hs' hv
      obtain ⟨n1, n2, n3⟩ := one (.own (ctok b o)) hone k2
      exact ⟨i, _, _, _, _, hi, hk, k1, n1, n2, n3⟩
    | box b' o' =>
      obtain ⟨g, h1, rfl⟩ := hv
      obtain ⟨n1, n2, n3⟩ := one (E' := E) (.box b' o') rfl ⟨g, h1, rfl⟩
      exact ⟨i, s, _, E.ρ, E.β, hi, hk, h, n1, n2, n3⟩
    | _ => cases hk
end Go.Proofs.Ytcnedmkfcbcjkaa.Ra
