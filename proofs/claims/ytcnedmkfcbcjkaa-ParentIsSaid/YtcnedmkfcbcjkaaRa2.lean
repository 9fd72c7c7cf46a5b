/- HOW THE RELATION LIVES ON: behind a new answer, a world that has grown, a row that is shared, named anew, dropped. -/
import Derived.Test.YtcnedmkfcbcjkaaRa1
set_option linter.unusedVariables false
set_option linter.unusedSimpArgs false
namespace Go.Proofs.Ytcnedmkfcbcjkaa.Ra
open Go Go.RowKit
set_option linter.unusedVariables false
variable {w0 : World} {p0 : Base} {E : Env} {s : St} {a : Act} {w : World}

theorem Act.put_tmps (a : Act) (d : Nat) (u : Value) : (a.put (some d) u).tmps = a.tmps.setIfInBounds d u := rfl
theorem Rel.put (h : Rel w0 p0 E s a w) (dst : Option Nat) {v : V} {u : Value} (hv : RepV w E v u) : Rel w0 p0 E (s.put dst v) (a.put dst u) w := by
  cases dst with
  | none => exact h
  | some d =>
    refine { h with tsz := ?_, tmps := ?_, more := h.more }
    · simp [St.put, Act.put, h.tsz]
    · intro i v' u' hi hu
      simp only [St.put, List.getElem?_set] at hi
      simp only [Act.put, Array.getElem?_setIfInBounds] at hu
      by_cases e : d = i
      · subst e
        rw [if_pos rfl] at hi hu
        split at hi
        · split at hu
          · cases hi; cases hu; exact hv
          · cases hu
        · cases hi
      · rw [if_neg e] at hi hu
        exact h.tmps i v' u' hi hu
theorem Rel.get (h : Rel w0 p0 E s a w) (t : Nat) : RepV w E (s.get t) (a.tmps.getD t undef) := by
  unfold St.get
  rw [List.getD_eq_getElem?_getD, Array.getD_eq_getD_getElem?]
  cases hs : s.tmps[t]? with
  | none =>
    have : a.tmps[t]? = none := by
      rw [Array.getElem?_eq_none_iff]
      rw [List.getElem?_eq_none_iff] at hs
      have := h.tsz
      omega
    rw [this]
    rfl
  | some v =>
    have hlt : t < a.tmps.size := by
      have := (List.getElem?_eq_some_iff.1 hs).1
      have := h.tsz
      omega
    rw [Array.getElem?_eq_getElem hlt]
    exact h.tmps t v _ hs (Array.getElem?_eq_getElem hlt)

/-- A world that has grown, the old blocks as they were; more is kept, of what is new alone. -/
theorem ext_below {w' : World} {p p' : Nat → Nat → Prop} (hb : Below w.heap.size w w') (hin : ∀ b o, p b o → b < w.heap.size) (hp : ∀ b o, p b o → p' b o) : Ext w p w' p' := by
  intro b o hbo
  exact ⟨hp b o hbo, World.cell?_of_block (a := ⟨b, o, none⟩) (hb.block b (hin b o hbo))⟩
theorem heap_lt {g : Nat} {o : Obj} (h : w.heap[g]? = some o) : g < w.heap.size := (Array.getElem?_eq_some_iff.1 h).1
theorem RowOk.grow {w' : World} {p p' : Nat → Nat → Prop} {base : Nat} {wr : Bool} {sz : Nat} {xs : List D} {v : Value} {β : Option Nat} (h : RowOk base w p wr sz xs v β)
    (hb : Below w.heap.size w w') (hin : ∀ b o, p b o → b < w.heap.size) (hp : ∀ b o, p b o → p' b o) (hnew : ∀ b o, b < w.heap.size → p' b o → p b o) : RowOk base w' p' wr sz xs v β := by
  obtain ⟨hz, A, c, vs, rfl, h1, h3, h4, h5, h6⟩ := h
  have he := ext_below hb hin hp
  refine ⟨hz, A, c, vs, rfl, h1, h3, fun o ho => ?_, fun i x j d hi hj => (h5 i x j d hi hj).ext he, ?_⟩
  · obtain ⟨ad, ha, k1, k2, k3⟩ := h4 o ho
    exact ⟨ad, ha, (hb.cell (World.block_lt_of_cell? w _ k1)).trans k1, k2, fun e => hp _ _ (k3 e)⟩
  · rcases h6 with h6 | ⟨g, cur, e, k1, k2, k3, k4, k5, k6⟩
    · exact .inl h6
    · exact .inr ⟨g, cur, e, k1, k2, k3, (hb.block g (heap_lt k4)).trans k4, k5, fun o ho => k6 o (hnew g o (heap_lt k4) ho)⟩
theorem others_below {w' : World} (hb : Below w.heap.size w w') : Others w w' := fun k o h _ => (hb.block k (heap_lt h)).trans h
theorem Rel.grow (h : Rel w0 p0 E s a w) {w' : World} (hb : Below w.heap.size w w') {p' : Nat → Nat → Prop} (hp : ∀ b o, E.p b o → p' b o)
    (hnew : ∀ b o, p' b o → E.p b o ∨ w.heap.size ≤ b ∧ b < w'.heap.size) : Rel w0 p0 { E with p := p' } s a w' ∧ Ext w E.p w' p' := by
  have he : Ext w E.p w' p' := ext_below hb h.pin hp
  have hold : ∀ b o, b < w.heap.size → p' b o → E.p b o := fun b o hbs hbo => (hnew b o hbo).resolve_right fun k => by omega
  have hsz := h.size
  refine ⟨{ h with more := h.more.step he (others_below hb) (fun _ _ _ k => k), below := ?_, tmps := ?_, pold := ?_, pin := ?_, boxes := ?_, toks := ?_ }, he⟩
  · exact h.below.trans ⟨hb.os, hb.tape, hb.output, hb.size, fun k hk => hb.block k (by omega)⟩
  · exact fun i v u hi hu => RepV.ext (E' := { E with p := _ }) he rfl rfl (h.tmps i v u hi hu)
  · exact fun b o hbs hbo => h.pold b o hbs (hold b o (by omega) hbo)
  · intro b o hbo
    rcases hnew b o hbo with k | k
    · have := h.pin b o k
      have := hb.size
      omega
    · exact k.2
  · intro q hq
    obtain ⟨g, cur, e, k1, k2, k3, k4, k5, k6⟩ := h.boxes q hq
    have hg := heap_lt k3
    exact ⟨g, cur, e, k1, k2, (hb.block g hg).trans k3, k4, fun o ho => k5 o (hold g o hg ho), fun j x u hj hu => ⟨(k6 j x u hj hu).1, RepV.ext (E' := { E with p := _ }) he rfl rfl (k6 j x u hj hu).2⟩⟩
  · intro q hq
    obtain ⟨v, k1, k2⟩ := h.toks q hq
    exact ⟨v, k1, k2.grow hb h.pin hp hold⟩

/-- Some rows are shared: their elements are kept. -/
def St.shareIf (s : St) (f : Nat → Bool) : St := { s with toks := s.toks.map fun q => bif f q.id then { q with wr := false } else q }
theorem St.share_eq (s : St) (t : Nat) : s.share t = s.shareIf (· == t) := rfl
theorem St.shareAll_eq (s : St) : s.shareAll = s.shareIf (fun _ => true) := rfl
def pShare (E : Env) (s : St) (f : Nat → Bool) (b o : Nat) : Prop := E.p b o ∨ ∃ q ∈ s.toks, f q.id = true ∧ q.wr = true ∧ E.β q.id = some b ∧ o < q.xs.length * q.sz
theorem Rel.same (h : Rel w0 p0 E s a w) {q q' : Tok} (hq : q ∈ s.toks) (hq' : q' ∈ s.toks) (e : q.id = q'.id) : q.xs.length = q'.xs.length ∧ q.sz = q'.sz := by
  obtain ⟨v, h1, _, A, c, vs, h3, _⟩ := h.toks q hq
  obtain ⟨v', k1, _, A', c', vs', k3, _⟩ := h.toks q' hq'
  rw [e, k1] at h1
  simp only [Option.some.injEq, Prod.mk.injEq] at h1
  obtain ⟨rfl, h2⟩ := h1
  rw [k3] at h3
  simp only [Value.slice.injEq] at h3
  exact ⟨h3.2.1.symm, h2.symm⟩
theorem Rel.shareIf (h : Rel w0 p0 E s a w) (f : Nat → Bool) : Rel w0 p0 { E with p := pShare E s f } (s.shareIf f) a w ∧ Ext w E.p w (pShare E s f) := by
  have he : Ext w E.p w (pShare E s f) := fun b o hb => ⟨.inl hb, rfl⟩
  refine ⟨{ h with more := h.more.step he (Others.refl _) (fun _ _ _ k => k), tmps := ?_, pold := ?_, pin := ?_, boxes := ?_, toks := ?_, tapart := ?_, tbox := ?_ }, he⟩
  · exact fun i v u hi hu => RepV.ext (E' := { E with p := _ }) he rfl rfl (h.tmps i v u hi hu)
  · rintro b o hb (hp | ⟨q, hq, _, _, hβ, _⟩)
    · exact h.pold b o hb hp
    · obtain ⟨v, _, _, A, c, vs, _, _, _, _, _, k | ⟨g, cur, e, k1, _, k3, _⟩⟩ := h.toks q hq
      · rw [k.1] at hβ; cases hβ
      · rw [k1] at hβ; cases hβ; omega
  · rintro b o (hp | ⟨q, hq, _, _, hβ, _⟩)
    · exact h.pin b o hp
    · obtain ⟨v, _, _, A, c, vs, _, _, _, _, _, k | ⟨g, cur, e, k1, _, _, k4, _⟩⟩ := h.toks q hq
      · rw [k.1] at hβ; cases hβ
      · rw [k1] at hβ; cases hβ; exact heap_lt k4
  · intro q hq
    obtain ⟨g, cur, e, k1, k2, k3, k4, k5, k6⟩ := h.boxes q hq
    refine ⟨g, cur, e, k1, k2, k3, k4, ?_, fun j x u hj hu => ⟨(k6 j x u hj hu).1, RepV.ext (E' := { E with p := _ }) he rfl rfl (k6 j x u hj hu).2⟩⟩
    rintro o (hp | ⟨q', hq', _, _, hβ, _⟩)
    · exact k5 o hp
    · exact h.tbox q' hq' q hq g hβ k1
  · intro q' hq'
    simp only [St.shareIf, List.mem_map] at hq'
    obtain ⟨q, hq, rfl⟩ := hq'
    obtain ⟨v, h1, h0, A, c, vs, rfl, h2, h4, h5, h6, h7⟩ := h.toks q hq
    have hid : (bif f q.id then { q with wr := false } else q).id = q.id := by cases f q.id <;> rfl
    have hsz : (bif f q.id then { q with wr := false } else q).sz = q.sz := by cases f q.id <;> rfl
    have hxs : (bif f q.id then { q with wr := false } else q).xs = q.xs := by cases f q.id <;> rfl
    refine ⟨_, by rw [hid, hsz]; exact h1, ?_⟩
    rw [hid, hsz, hxs]
    refine ⟨h0, A, c, vs, rfl, h2, h4, fun o ho => ?_, fun i x j d hi hj => (h6 i x j d hi hj).ext he, ?_⟩
    · obtain ⟨ad, ha, k1, k2, k3⟩ := h5 o ho
      refine ⟨ad, ha, k1, k2, fun hw => ?_⟩
      cases hf : f q.id with
      | false => rw [hf] at hw; exact .inl (k3 hw)
      | true =>
        cases hqw : q.wr with
        | false => exact .inl (k3 hqw)
        | true =>
          rcases h7 with ⟨_, _, k⟩ | ⟨g, cur, e, kβ, kA, _⟩
          · rw [k hqw] at ho; simp at ho
          · rw [ha] at kA
            cases kA
            exact .inr ⟨q, hq, hf, hqw, kβ, by simpa using ho⟩
    · rcases h7 with ⟨k1, k2, k3⟩ | ⟨g, cur, e, kβ, kA, kb, kh, kc, kp⟩
      · refine .inl ⟨k1, k2, fun hw => k3 ?_⟩
        cases hf : f q.id with
        | false => rwa [hf] at hw
        | true => rw [hf] at hw; cases hw
      · refine .inr ⟨g, cur, e, kβ, kA, kb, kh, kc, ?_⟩
        rintro o (hp | ⟨q2, hq2, hf2, hw2, hβ2, ho2⟩)
        · obtain ⟨k1, k2⟩ := kp o hp
          refine ⟨?_, k2⟩
          cases f q.id with
          | false => exact k1
          | true => rfl
        · have hii : q2.id = q.id := by
            refine Classical.byContradiction fun hne => ?_
            exact h.tapart q2 hq2 q hq hne g hβ2 kβ
          rw [hii] at hf2
          rw [hf2]
          have := h.same hq2 hq hii
          rw [this.1, this.2] at ho2
          exact ⟨rfl, ho2⟩
  · intro q hq q' hq' hne
    simp only [St.shareIf, List.mem_map] at hq hq'
    obtain ⟨r, hr, rfl⟩ := hq
    obtain ⟨r', hr', rfl⟩ := hq'
    have hid : ∀ q : Tok, (bif f q.id then { q with wr := false } else q).id = q.id := fun q => by cases f q.id <;> rfl
    rw [hid, hid] at *
    exact h.tapart r hr r' hr' hne
  · intro q hq q' hq' g
    simp only [St.shareIf, List.mem_map] at hq
    obtain ⟨r, hr, rfl⟩ := hq
    have hid : ∀ q : Tok, (bif f q.id then { q with wr := false } else q).id = q.id := fun q => by cases f q.id <;> rfl
    rw [hid]
    exact h.tbox r hr q' hq' g

/-- Less may be held. -/
theorem Rel.fewer (h : Rel w0 p0 E s a w) {l : List Tok} (hl : ∀ q ∈ l, q ∈ s.toks) {bs : List (Nat × List V)} (hb : ∀ q ∈ bs, q ∈ s.boxes) : Rel w0 p0 E { s with toks := l, boxes := bs } a w :=
  { h with
    boxes := fun q hq => h.boxes q (hb q hq), bapart := fun q hq q' hq' => h.bapart q (hb q hq) q' (hb q' hq')
    toks := fun q hq => h.toks q (hl q hq), tapart := fun q hq q' hq' => h.tapart q (hl q hq) q' (hl q' hq'), tbox := fun q hq q' hq' => h.tbox q (hl q hq) q' (hb q' hq') }
theorem Rel.dropTok (h : Rel w0 p0 E s a w) (t : Nat) : Rel w0 p0 E (s.dropTok t) a w :=
  h.fewer (fun q hq => (List.mem_filter.1 hq).1) (fun q hq => hq)
theorem Rel.dropBox (h : Rel w0 p0 E s a w) (t : Nat) : Rel w0 p0 E (s.dropBox t) a w :=
  h.fewer (fun q hq => hq) (fun q hq => (List.mem_filter.1 hq).1)
/-- What is held is told less well. -/
theorem Rel.mapV (h : Rel w0 p0 E s a w) (f : V → V) (hf : ∀ v u, RepV w E v u → RepV w E (f v) u) : Rel w0 p0 E (s.mapV f) a w := by
  refine { h with tsz := ?_, tmps := ?_, boxes := ?_, bapart := ?_, tbox := ?_ }
  · simpa [St.mapV] using h.tsz
  · intro i v u hi hu
    simp only [St.mapV, List.getElem?_map, Option.map_eq_some_iff] at hi
    obtain ⟨v0, h0, rfl⟩ := hi
    exact hf _ _ (h.tmps i v0 u h0 hu)
  · intro q hq
    simp only [St.mapV, List.mem_map] at hq
    obtain ⟨r, hr, rfl⟩ := hq
    obtain ⟨g, cur, e, k1, k2, k3, k4, k5, k6⟩ := h.boxes r hr
    refine ⟨g, cur, e, k1, k2, k3, by simpa using k4, k5, fun j x u hj hu => ?_⟩
    simp only [List.getElem?_map, Option.map_eq_some_iff] at hj
    obtain ⟨v0, h0, rfl⟩ := hj
    exact ⟨(k6 j v0 u h0 hu).1, hf _ _ (k6 j v0 u h0 hu).2⟩
  · intro q hq q' hq'
    simp only [St.mapV, List.mem_map] at hq hq'
    obtain ⟨r, hr, rfl⟩ := hq
    obtain ⟨r', hr', rfl⟩ := hq'
    exact h.bapart r hr r' hr'
  · intro q hq q' hq'
    simp only [St.mapV, List.mem_map] at hq'
    obtain ⟨r', hr', rfl⟩ := hq'
    exact h.tbox q hq r' hr'
theorem RepV.killOwn {t : Nat} {v : V} {u : Value} (h : RepV w E v u) : RepV w E (v.killOwn t) u := by
  cases v with
  | own t' =>
    show RepV w E (bif t' == t then .d .any else .own t') u
    cases t' == t
    · exact h
    · exact Rep.any u
  | elp t' i o =>
    show RepV w E (bif t' == t then .d .any else .elp t' i o) u
    cases t' == t
    · exact h
    · exact Rep.any u
  | _ => exact h
theorem RepV.killBox {t : Nat} {v : V} {u : Value} (h : RepV w E v u) : RepV w E (v.killBox t) u := by
  cases v with
  | box b o =>
    show RepV w E (bif b == t then .d .any else .box b o) u
    cases b == t
    · exact h
    · exact Rep.any u
  | _ => exact h
def upd {α : Type} (f : Nat → Option α) (t : Nat) (x : Option α) (i : Nat) : Option α := if i = t then x else f i
theorem upd_same {α : Type} (f : Nat → Option α) (t : Nat) (x : Option α) : upd f t x t = x := if_pos rfl
theorem upd_ne {α : Type} (f : Nat → Option α) {t i : Nat} (x : Option α) (h : i ≠ t) : upd f t x i = f i := if_neg h
/-- Nobody who is not of that number hangs on what the number says. -/
theorem RepV.newTok {t : Nat} {x : Option (Value × Nat)} {y : Option Nat} {v : V} {u : Value} (h : RepV w E v u) : RepV w { E with ρ := upd E.ρ t x, β := upd E.β t y } (v.killOwn t) u := by
  cases v with
  | own t' =>
    show RepV w _ (bif t' == t then .d .any else .own t') u
    cases e : t' == t
    · have hne : t' ≠ t := by simpa using e
      obtain ⟨sz, h⟩ := h
      exact ⟨sz, (upd_ne _ _ hne).trans h⟩
    · exact Rep.any u
  | elp t' i o =>
    show RepV w _ (bif t' == t then .d .any else .elp t' i o) u
    cases e : t' == t
    · have hne : t' ≠ t := by simpa using e
      obtain ⟨ad, n, c, sz, h, h2⟩ := h
      exact ⟨ad, n, c, sz, (upd_ne _ _ hne).trans h, h2⟩
    · exact Rep.any u
  | undef => exact h
  | d x => exact h
  | nil => exact h
  | box b o => exact h
  | agg cs => exact h
theorem Rel.newTok (h : Rel w0 p0 E s a w) (t : Nat) {wr : Bool} {sz : Nat} {xs : List D} {v : Value} {β : Option Nat} (hr : RowOk w0.heap.size w E.p wr sz xs v β)
    (ha : ∀ q ∈ s.toks, q.id ≠ t → ∀ g, β = some g → E.β q.id ≠ some g) (hb : ∀ q ∈ s.boxes, ∀ g, β = some g → E.σ q.1 ≠ some g) :
    Rel w0 p0 { E with ρ := upd E.ρ t (some (v, sz)), β := upd E.β t β } (s.newTok t wr sz xs) a w := by
  refine { more := h.more, below := h.below, tsz := ?_, tmps := ?_, pold := h.pold, pin := h.pin, boxes := ?_, bapart := ?_, toks := ?_, tapart := ?_, tbox := ?_ }
  · simpa [St.newTok, St.dropTok, St.mapV] using h.tsz
  · intro i v u hi hu
    simp only [St.newTok, St.dropTok, St.mapV, List.getElem?_map, Option.map_eq_some_iff] at hi
    obtain ⟨v0, h0, rfl⟩ := hi
    exact (h.tmps i v0 u h0 hu).newTok
  · intro q hq
    simp only [St.newTok, St.dropTok, St.mapV, List.mem_map] at hq
    obtain ⟨r, hr, rfl⟩ := hq
    obtain ⟨g, cur, e, k1, k2, k3, k4, k5, k6⟩ := h.boxes r hr
    refine ⟨g, cur, e, k1, k2, k3, by simpa using k4, k5, fun j x u hj hu => ?_⟩
    simp only [List.getElem?_map, Option.map_eq_some_iff] at hj
    obtain ⟨v0, h0, rfl⟩ := hj
    exact ⟨(k6 j v0 u h0 hu).1, (k6 j v0 u h0 hu).2.newTok⟩
  · intro q hq q' hq'
    simp only [St.newTok, St.dropTok, St.mapV, List.mem_map] at hq hq'
    obtain ⟨r, hr, rfl⟩ := hq
    obtain ⟨r', hr', rfl⟩ := hq'
    exact h.bapart r hr r' hr'
  · intro q hq
    simp only [St.newTok, St.dropTok, St.mapV, List.mem_cons, List.mem_filter] at hq
    rcases hq with rfl | ⟨hq, hne⟩
    · exact ⟨v, upd_same _ _ _, by show RowOk _ _ _ _ _ _ _ (upd E.β t β t); rw [upd_same]; exact hr⟩
    · have hne : q.id ≠ t := by simpa using hne
      obtain ⟨u, k1, k2⟩ := h.toks q hq
      exact ⟨u, (upd_ne _ _ hne).trans k1, by show RowOk _ _ _ _ _ _ _ (upd E.β t β q.id); rw [upd_ne _ _ hne]; exact k2⟩
  · intro q hq q' hq' hne g hg
    simp only [St.newTok, St.dropTok, St.mapV, List.mem_cons, List.mem_filter] at hq hq'
    rcases hq with rfl | ⟨hq, hn⟩
    · rcases hq' with rfl | ⟨hq', hn'⟩
      · exact absurd rfl hne
      · have hn' : q'.id ≠ t := by simpa using hn'
        replace hg : upd E.β t β t = some g := hg
        rw [upd_same] at hg
        show upd E.β t β q'.id ≠ _
        rw [upd_ne _ _ hn']
        exact ha q' hq' hn' g hg
    · have hn : q.id ≠ t := by simpa using hn
      replace hg : upd E.β t β q.id = some g := hg
      rw [upd_ne _ _ hn] at hg
      rcases hq' with rfl | ⟨hq', hn'⟩
      · show upd E.β t β t ≠ _
        rw [upd_same]
        exact fun k => ha q hq hn g k hg
      · have hn' : q'.id ≠ t := by simpa using hn'
        show upd E.β t β q'.id ≠ _
        rw [upd_ne _ _ hn']
        exact h.tapart q hq q' hq' hne g hg
  · intro q hq q' hq' g hg
    simp only [St.newTok, St.dropTok, St.mapV, List.mem_cons, List.mem_filter, List.mem_map] at hq hq'
    obtain ⟨r', hr', rfl⟩ := hq'
    rcases hq with rfl | ⟨hq, hn⟩
    · replace hg : upd E.β t β t = some g := hg
      rw [upd_same] at hg
      exact hb r' hr' g hg
    · have hn : q.id ≠ t := by simpa using hn
      replace hg : upd E.β t β q.id = some g := hg
      rw [upd_ne _ _ hn] at hg
      exact h.tbox q hq r' hr' g hg
end Go.Proofs.Ytcnedmkfcbcjkaa.Ra
