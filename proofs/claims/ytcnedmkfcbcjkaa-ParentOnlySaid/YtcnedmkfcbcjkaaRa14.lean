/- EVERY OPERATION. -/
import Derived.Test.YtcnedmkfcbcjkaaRa13
set_option linter.unusedVariables false
set_option linter.unusedSimpArgs false
namespace Go.Proofs.Ytcnedmkfcbcjkaa.Ra
open Go Go.RowKit
set_option linter.unusedVariables false
set_option linter.unusedSimpArgs false
variable {w0 : World} {p0 : Base} {E : Env} {s : St} {a : Act} {w : World} {P : Program}

theorem RowOk.block {base : Nat} {p : Nat → Nat → Prop} {wr : Bool} {sz : Nat} {xs : List D} {v : Value} {β : Option Nat} (h : RowOk base w p wr sz xs v β) {g : Nat} (hg : β = some g) : base ≤ g ∧ g < w.heap.size := by
  obtain ⟨_, A, c, vs, _, _, _, _, _, k | ⟨g', cur, e, k1, _, k3, k4, _⟩⟩ := h
  · rw [k.1] at hg; cases hg
  · rw [k1] at hg
    cases hg
    exact ⟨k3, heap_lt k4⟩
theorem Rel.tokOld (h : Rel w0 p0 E s a w) {q : Tok} (hq : q ∈ s.toks) {g : Nat} (hg : E.β q.id = some g) : g < w.heap.size := by
  obtain ⟨v, _, k⟩ := h.toks q hq
  exact (k.block hg).2
theorem Rel.boxOld (h : Rel w0 p0 E s a w) {q : Nat × List V} (hq : q ∈ s.boxes) {g : Nat} (hg : E.σ q.1 = some g) : g < w.heap.size := by
  obtain ⟨g', cur', e', k1, k2, k3, _⟩ := h.boxes q hq
  rw [k1] at hg
  cases hg
  exact heap_lt k3
theorem RowOk.base {base base' : Nat} (hb : base' ≤ base) {p : Nat → Nat → Prop} {wr : Bool} {sz : Nat} {xs : List D} {v : Value} {β : Option Nat} (h : RowOk base w p wr sz xs v β) : RowOk base' w p wr sz xs v β := by
  obtain ⟨hz, A, c, vs, rfl, h1, h3, h4, h5, k | ⟨g', cur, e, k1, k2, k3, k4⟩⟩ := h
  · exact ⟨hz, A, c, vs, rfl, h1, h3, h4, h5, .inl k⟩
  · exact ⟨hz, A, c, vs, rfl, h1, h3, h4, h5, .inr ⟨g', cur, e, k1, k2, by omega, k4⟩⟩
/-- A new row, out of a call. -/
theorem Rel.gotRow (h : Rel w0 p0 E s a w) {w' : World} (hb : Below w.heap.size w w') {sz : Nat} {xs : List D} {v : Value} {β : Option Nat}
    (hr : RowOk w.heap.size w' (fun b o => E.p b o ∨ w.heap.size ≤ b ∧ b < w'.heap.size ∧ β ≠ some b) true sz xs v β) (d : Nat) :
    ∃ E', Rel w0 p0 E' (s.newTok d true sz xs) a w' ∧ RepV w' E' (.own d) v := by
  obtain ⟨h1, he⟩ := h.grow hb (p' := fun b o => E.p b o ∨ w.heap.size ≤ b ∧ b < w'.heap.size ∧ β ≠ some b) (fun b o h => .inl h) (fun b o h => h.imp id fun k => ⟨k.1, k.2.1⟩)
  refine ⟨_, h1.newTok d (hr.base h.size) (fun q hq _ g hg hβ => ?_) (fun q hq g hg hσ => ?_), ⟨sz, upd_same _ _ _⟩⟩
  · have := (hr.block hg).1
    have := h.tokOld hq hβ
    omega
  · have := (hr.block hg).1
    have := h.boxOld hq hσ
    omega
theorem asDs_get {l : List V} : ∀ {ds : List D}, s.asDs l = some ds → ds.length = l.length ∧ ∀ (j : Nat) (v : V) (d : D), l[j]? = some v → ds[j]? = some d → s.asD v = some d := by
  induction l with
  | nil => intro ds h; cases h; exact ⟨rfl, by simp⟩
  | cons v l ih =>
    intro ds h
    simp only [St.asDs, Option.bind_eq_some_iff] at h
    obtain ⟨x, hx, xs, hxs, h⟩ := h
    cases h
    obtain ⟨h1, h2⟩ := ih hxs
    refine ⟨by simp [h1], fun j u d hu hd => ?_⟩
    cases j with
    | zero => simp at hu hd; subst hu hd; exact hx
    | succ j => exact h2 j u d (by simpa using hu) (by simpa using hd)
theorem shareV_boxes (s : St) (v : V) : (s.shareV v).boxes = s.boxes := by cases v <;> rfl
theorem shareVs_boxes : ∀ (l : List V) (s : St), (s.shareVs l).boxes = s.boxes := by
  intro l
  induction l with
  | nil => intro s; rfl
  | cons v l ih => intro s; exact (ih _).trans (shareV_boxes s v)
/-- A box that nobody turns any more. -/
theorem freeze_ok (h : Rel w0 p0 E s a w) {b : Nat} {cs : List V} (hb : lookBox b s.boxes = some cs) {ds : List D} (hd : s.asDs cs = some ds) {u : Value} (hu : RepV w E (.box b 0) u) :
    ∃ p', Rel w0 p0 { E with p := p' } ((s.mapV (V.freezeBox b ds)).dropBox b) a w ∧ Ext w E.p w p' ∧ Rep w p' (.ro ds) u := by
  obtain ⟨g', hg', rfl⟩ := hu
  obtain ⟨g, cur, e, m1, m2, m3, m4, m5, m6⟩ := h.boxes _ (lookBox_mem hb)
  replace m1 : E.σ b = some g := m1
  rw [m1] at hg'
  have hgg : g = g' := by simpa using hg'
  subst hgg
  replace m4 : cur.size = cs.length := m4
  obtain ⟨d1, d2⟩ := asDs_get hd
  have hap : ∀ q ∈ (s.dropBox b).boxes, ∀ g', some g = some g' → E.σ q.1 ≠ some g' := by
    intro q hq g' hg' hσ
    cases hg'
    simp only [St.dropBox, List.mem_filter] at hq
    have hne : q.1 ≠ b := by simpa using hq.2
    exact h.bapart q hq.1 _ (lookBox_mem hb) hne (hσ.trans m1.symm)
  obtain ⟨h1, he⟩ := (h.dropBox b).keepRow false (β := some g) ds.length (fun g' hg' => by cases hg'; exact ⟨m2, heap_lt m3⟩) (fun q hq g' hg' hβ => by cases hg'; exact h.tbox q hq _ (lookBox_mem hb) g hβ m1) hap
  have hcell : ∀ o, o < ds.length → w.cell? ⟨g, o, none⟩ = some (cur.getD o undef) ∧ (cur.getD o undef).oneCell' = true ∧ pRow E.p false (some g) ds.length g o := by
    intro o ho
    have hlt : o < cur.size := by omega
    have hg : cur[o]? = some (cur.getD o undef) := by rw [Array.getD_eq_getD_getElem?, Array.getElem?_eq_getElem hlt]; rfl
    have ho' : o < cs.length := by omega
    obtain ⟨n1, n2⟩ := m6 o (cs[o]'ho') _ (List.getElem?_eq_getElem ho') hg
    exact ⟨by rw [cell_in m3]; exact hg, n1, .inr ⟨rfl, rfl, ho⟩⟩
  have hrep : ∀ (j : Nat) (d : D), ds[j]? = some d → Rep w (pRow E.p false (some g) ds.length) d (cur.getD j undef) := by
    intro j d hj
    have hlt : j < cur.size := by have := (List.getElem?_eq_some_iff.1 hj).1; omega
    have hg : cur[j]? = some (cur.getD j undef) := by rw [Array.getD_eq_getD_getElem?, Array.getElem?_eq_getElem hlt]; rfl
    have hc : cs[j]? = some (cs[j]'(by omega)) := List.getElem?_eq_getElem (by omega)
    obtain ⟨n1, n2⟩ := m6 j _ _ hc hg
    exact (h.asD n2 (d2 j _ d hc hj)).ext he
  have hro : ∀ o, Rep w (pRow E.p false (some g) ds.length) (.ro (ds.drop o)) (.pointer (some ⟨g, o, none⟩)) := by
    intro o
    refine .ro _ ⟨g, o, none⟩ (fun j => cur.getD (o + j) undef) rfl (fun j hj => ?_) fun j d hj => ?_
    · simp only [List.length_drop] at hj
      exact hcell (o + j) (by omega)
    · rw [List.getElem?_drop] at hj
      exact hrep (o + j) d hj
  refine ⟨_, ?_, he, hro 0⟩
  have hs : (s.mapV (V.freezeBox b ds)).dropBox b = (s.dropBox b).mapV (V.freezeBox b ds) := by
    simp only [St.mapV, St.dropBox, List.filter_map]
    rfl
  rw [hs]
  refine h1.mapV _ fun v u hv => ?_
  cases v with
  | box b' o =>
    show RepV w _ (bif b' == b then .d (.ro (ds.drop o)) else .box b' o) u
    cases e' : b' == b with
    | false => exact hv
    | true =>
      have e' : b' = b := by simpa using e'
      subst e'
      obtain ⟨g', k1, rfl⟩ := hv
      replace k1 : E.σ b' = some g' := k1
      rw [m1] at k1
      cases k1
      exact hro o
  | _ => exact hv
theorem caps_ok {R : Type} {k : St → List D → Option R} {r : R} : ∀ (l : List Operand) {E : Env} {s : St} {env : List D} {vs : Array Value}, evOp.capK s l env k = some r → Rel w0 p0 E s a w → Reps w E.p env vs →
    ∃ s' env' E', k s' env' = some r ∧ Rel w0 p0 E' s' a w ∧ Reps w E'.p env' (vs ++ (l.map a.eval).toArray) := by
  intro l
  induction l with
  | nil => intro E s env vs h hr hv; exact ⟨s, env, E, h, hr, by simpa using hv⟩
  | cons x l ih =>
    intro E s env vs h hr hv
    unfold evOp.capK at h
    have ho := hr.opnd x
    have step : ∀ {E' : Env} {s' : St} {ds : List D}, evOp.capK s' l (env ++ [.ro ds]) k = some r → Rel w0 p0 E' s' a w → Ext w E.p w E'.p → Rep w E'.p (.ro ds) (a.eval x) →
        ∃ s' env' E', k s' env' = some r ∧ Rel w0 p0 E' s' a w ∧ Reps w E'.p env' (vs ++ ((x :: l).map a.eval).toArray) := by
      intro E' s' ds h1 h2 h3 h4
      obtain ⟨s2, env2, E2, k1, k2, k3⟩ := ih (vs := vs ++ #[a.eval x]) h1 h2 ((hv.ext h3).append ⟨rfl, fun j d v hd hvv => by
        cases j with
        | zero => simp at hd hvv; subst hd hvv; exact h4
        | succ j => simp at hd⟩)
      refine ⟨s2, env2, E2, k1, k2, ?_⟩
      have : vs ++ #[a.eval x] ++ (l.map a.eval).toArray = vs ++ ((x :: l).map a.eval).toArray := by simp
      rwa [this] at k3
    split at h
    · rename_i b hx
      rw [hx] at ho
      obtain ⟨cs, hb, h⟩ := Option.bind_eq_some_iff.1 h
      obtain ⟨p1, h1, e1⟩ := hr.shareVs cs
      obtain ⟨ds, hds, h⟩ := Option.bind_eq_some_iff.1 h
      obtain ⟨p2, h2, e2, h3⟩ := freeze_ok h1 (by rw [shareVs_boxes]; exact hb) hds (RepV.ext (E' := { E with p := _ }) e1 rfl rfl ho)
      exact step h h2 (e1.trans e2) h3
    · rename_i ds hx
      rw [hx] at ho
      exact step h hr (Ext.refl _ _) ho
    · cases h
end Go.Proofs.Ytcnedmkfcbcjkaa.Ra
