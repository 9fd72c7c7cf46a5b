/- STRUCTS AND LITERALS THAT ARE BUILT. -/
import Derived.Test.YtcnedmkfcbcjkaaRa7
set_option linter.unusedVariables false
set_option linter.unusedSimpArgs false
namespace Go.Proofs.Ytcnedmkfcbcjkaa.Ra
open Go Go.RowKit
set_option linter.unusedVariables false
set_option linter.unusedSimpArgs false
variable {w0 : World} {p0 : Base} {E : Env} {s : St} {a : Act} {w : World} {P : Program}

/-- A part laid over cells. -/
theorem foldl_set : ∀ (l : List Value) (off j0 : Nat) (cs : Array Value), ((l.zipIdx j0).foldl (fun cs q => cs.setIfInBounds (off + q.2) q.1) cs).size = cs.size ∧
    ∀ k : Nat, ((l.zipIdx j0).foldl (fun cs q => cs.setIfInBounds (off + q.2) q.1) cs)[k]? = if off + j0 ≤ k ∧ k < off + j0 + l.length ∧ k < cs.size then l[k - (off + j0)]? else cs[k]? := by
  intro l
  induction l with
  | nil =>
    intro off j0 cs
    refine ⟨rfl, fun k => ?_⟩
    rw [if_neg (by simp; omega)]
    rfl
  | cons v l ih =>
    intro off j0 cs
    simp only [List.zipIdx_cons, List.foldl_cons]
    obtain ⟨h1, h2⟩ := ih off (j0 + 1) (cs.setIfInBounds (off + j0) v)
    refine ⟨by rw [h1]; simp, fun k => ?_⟩
    rw [h2 k]
    simp only [Array.size_setIfInBounds, Array.getElem?_setIfInBounds, List.length_cons]
    by_cases hk : k = off + j0
    · subst hk
      rw [if_neg (by omega), if_pos rfl]
      by_cases hs : off + j0 < cs.size
      · rw [if_pos hs, if_pos ⟨by omega, by omega, hs⟩]
        simp
      · rw [if_neg hs, if_neg (by omega), Array.getElem?_eq_none (by omega)]
    · rw [if_neg (show ¬ off + j0 = k from fun e => hk e.symm)]
      by_cases hc : off + (j0 + 1) ≤ k ∧ k < off + (j0 + 1) + l.length ∧ k < cs.size
      · rw [if_pos hc, if_pos (by omega)]
        rw [show k - (off + j0) = k - (off + (j0 + 1)) + 1 by omega]
        simp
      · rw [if_neg hc, if_neg (by omega)]
theorem fill_step (place : Nat → Option (Nat × Nat)) (cs : Array Value) (i : Nat) (v : Value) (l : List (Nat × Value)) {off sz : Nat} (hp : place i = some (off, sz)) (hv : v.cells.size = sz) (hb : off + sz ≤ cs.size) :
    ∃ cs', Instr.fill place cs ((i, v) :: l) = Instr.fill place cs' l ∧ cs'.size = cs.size ∧ ∀ k : Nat, cs'[k]? = if off ≤ k ∧ k < off + sz then v.cells[k - off]? else cs[k]? := by
  refine ⟨v.cells.zipIdx.foldl (fun cs (c, j) => cs.setIfInBounds (off + j) c) cs, ?_, ?_⟩
  · simp [Instr.fill, hp, hv, show ¬ cs.size < off + sz by omega]
  · have h := foldl_set v.cells.toList off 0 cs
    rw [← Array.foldl_toList, Array.toList_zipIdx]
    refine ⟨h.1, fun k => ?_⟩
    have h2 := h.2 k
    have hl : v.cells.toList.length = sz := by simpa using hv
    simp only [Nat.add_zero, hl] at h2
    refine h2.trans ?_
    by_cases hc : off ≤ k ∧ k < off + sz
    · rw [if_pos hc, if_pos ⟨hc.1, hc.2, by omega⟩]
      simp
    · rw [if_neg hc, if_neg (by omega)]
/-- Cells so far. -/
def ZArr (w : World) (p : Nat → Nat → Prop) (cs : List Z) (arr : Array Value) : Prop := arr.size = cs.length ∧ (∀ (j : Nat) (v : Value), arr[j]? = some v → v.oneCell' = true) ∧ ∀ (j : Nat) (c : Z) (v : Value), cs[j]? = some c → arr[j]? = some v → RepZ w p c v
theorem explicit_eq {n : Nat} {ds : List D} (h : ds.length = n) : explicit n ds = ds := by
  subst h
  apply List.ext_getElem?
  intro i
  simp only [explicit, List.getElem?_map]
  by_cases hi : i < ds.length
  · rw [List.getElem?_range hi]
    simp [List.getElem?_eq_getElem hi]
  · rw [List.getElem?_eq_none (by simpa using hi), List.getElem?_eq_none (by omega)]
    rfl
theorem aggN_spec {x : D} {n : Nat} {ds : List D} (h : x.aggN n = some ds) : x = .agg ds ∧ ds.length = n := by
  cases x with
  | agg es =>
    simp only [D.aggN] at h
    split at h
    · cases h; exact ⟨rfl, by assumption⟩
    · cases h
  | _ => cases h
theorem buildK_ok (h : Rel w0 p0 E s a w) {R : Type} {fs : List (Nat × Bool × Nat)} {place : Nat → Option (Nat × Nat)} (hpl : ∀ i x, fs[i]? = some x → place i = some (x.1, x.2.2)) :
    ∀ {l : List (Nat × Operand)} {cs : List Z} {arr : Array Value} {k : List Z → Option R} {r : R}, buildK s fs l cs k = some r → ZArr w E.p cs arr →
      ∃ cs' arr', k cs' = some r ∧ Instr.fill place arr (l.map fun q => (q.1, a.eval q.2)) = some arr' ∧ ZArr w E.p cs' arr' := by
  intro l
  induction l with
  | nil => intro cs arr k r hk hz; exact ⟨cs, arr, hk, rfl, hz⟩
  | cons q l ih =>
    obtain ⟨f, x⟩ := q
    intro cs arr k r hk hz
    simp only [buildK, Option.bind_eq_some_iff] at hk
    obtain ⟨hd, h1, y, h2, hk⟩ := hk
    have hrep := h.asD (h.opnd x) h2
    cases hb : decide (hd.1 + hd.2.2 ≤ cs.length) with
    | false => rw [hb] at hk; cases hk
    | true =>
      rw [hb] at hk
      simp only [cond_true] at hk
      have hb : hd.1 + hd.2.2 ≤ cs.length := by simpa using hb
      have hsz := hz.1
      cases hag : hd.2.1 with
      | true =>
        rw [hag] at hk
        simp only [cond_true, Option.bind_eq_some_iff] at hk
        obtain ⟨ds, hds, hk⟩ := hk
        obtain ⟨rfl, hl⟩ := aggN_spec hds
        generalize hu : a.eval x = u at hrep
        cases hrep with
        | agg _ vs hn h1' hr =>
          obtain ⟨arr', e1, e2, e3⟩ := fill_step place arr f (.agg vs) (l.map fun q => (q.1, a.eval q.2)) (hpl f hd h1) (by show vs.size = _; omega) (by omega)
          have hz' : ZArr w E.p (cs.take hd.1 ++ (explicit hd.2.2 ds).map Z.d ++ cs.drop (hd.1 + hd.2.2)) arr' := by
            rw [explicit_eq hl]
            refine ⟨by simp; omega, fun j v hv => ?_, fun j c v hc hv => ?_⟩
            · rw [e3] at hv
              split at hv
              · exact h1' _ v hv
              · exact hz.2.1 j v hv
            · rw [e3] at hv
              rw [List.append_assoc] at hc
              split at hv
              · rename_i hin
                rw [List.getElem?_append_right (by simp; omega), List.getElem?_append_left (by simp; omega)] at hc
                simp only [List.length_take, List.getElem?_map, Option.map_eq_some_iff] at hc
                obtain ⟨d, hd', rfl⟩ := hc
                rw [show j - min hd.1 cs.length = j - hd.1 by omega] at hd'
                exact hr _ d v hd' hv
              · rename_i hin
                refine hz.2.2 j c v ?_ hv
                by_cases hj : j < hd.1
                · rw [List.getElem?_append_left (by simp; omega), List.getElem?_take, if_pos hj] at hc
                  exact hc
                · rw [List.getElem?_append_right (by simp; omega), List.getElem?_append_right (by simp; omega), List.getElem?_drop] at hc
                  rw [← hc]
                  congr 1
                  simp
                  omega
          obtain ⟨cs', arr2, m1, m2, m3⟩ := ih hk hz'
          exact ⟨cs', arr2, m1, by simp only [List.map_cons, hu]; rw [e1]; exact m2, m3⟩
      | false =>
        rw [hag] at hk
        simp only [cond_false] at hk
        cases ho : (y.one && hd.2.2 == 1) with
        | false => rw [ho] at hk; cases hk
        | true =>
          rw [ho] at hk
          simp only [cond_true] at hk
          simp only [Bool.and_eq_true, beq_iff_eq] at ho
          obtain ⟨o1, o2, _⟩ := hrep.one ho.1
          obtain ⟨arr', e1, e2, e3⟩ := fill_step place arr f (a.eval x) (l.map fun q => (q.1, a.eval q.2)) (hpl f hd h1) (by rw [o2, ho.2]; rfl) (by omega)
          have hz' : ZArr w E.p (cs.set hd.1 (.d y)) arr' := by
            refine ⟨by simp; omega, fun j v hv => ?_, fun j c v hc hv => ?_⟩
            · rw [e3] at hv
              split at hv
              · rename_i hin
                rw [o2, show j - hd.1 = 0 by omega] at hv
                cases hv
                exact o1
              · exact hz.2.1 j v hv
            · rw [e3] at hv
              rw [List.getElem?_set] at hc
              split at hv
              · rename_i hin
                rw [o2, show j - hd.1 = 0 by omega] at hv
                rw [if_pos (by omega), if_pos (by omega)] at hc
                cases hc
                cases hv
                exact hrep
              · rename_i hin
                rw [if_neg (by omega)] at hc
                exact hz.2.2 j c v hc hv
          obtain ⟨cs', arr2, m1, m2, m3⟩ := ih hk hz'
          exact ⟨cs', arr2, m1, by simp only [List.map_cons]; rw [e1]; exact m2, m3⟩
theorem zero_arr {t : Nat} {i : TI} (hi : TIok P t i) (w : World) (p : Nat → Nat → Prop) : ∃ z : Value, (zeroValue t).run P w = .ok z w ∧ ZArr w p i.zero z.cells ∧ z.cells.size = i.size ∧ (i.kind.agg = false → z.oneCell' = true) ∧ (i.kind.agg = true → z = .agg z.cells) := by
  obtain ⟨f, z, h1, h2, h3, h4, h5, h6, h7, h7', h8⟩ := hi.info
  refine ⟨z, by simp [zeroValue, typeInfo, h1, h4], ⟨by omega, fun j v hv => ?_, fun j c v hc hv => ?_⟩, h5, fun hk => (h7' hk).2, h7⟩
  · have hj := (Array.getElem?_eq_some_iff.1 hv).1
    exact (h8 j _ v (List.getElem?_eq_getElem (show j < i.zero.length by omega)) hv).1
  · have := (h8 j c v hc hv).2
    cases c with
    | d x => exact this w p
    | nl n => exact this
theorem build_ok (h : Rel w0 p0 E s a w) {T : TE} (hT : TOk P T) {t : Nat} {fs : List (Nat × Bool × Nat)} {size bytes : Nat} {z : List Z} (ht : T t = some ⟨.struct fs, size, bytes, z⟩) {parts : Array (Nat × Operand)} {R : Type} {k : List Z → Option R} {r : R}
    (hk : buildK s fs parts.toList z k = some r) : ∃ cs u, k cs = some r ∧ (Instr.build t (parts.map fun q => (q.1, a.eval q.2))).run P w = .ok u w ∧ RepV w E (.agg cs) u := by
  have hi := hT t _ ht
  obtain ⟨fields, k1, k2, k3⟩ := hi.kind
  obtain ⟨zv, z1, z2, z3, _⟩ := zero_arr hi w E.p
  have hpl : (fields.mapM fun f => (do pure (f.offset, ← sizeOf f.type) : Sem (Nat × Nat))).run P w = .ok (fs.map fun x => (x.1, x.2.2)).toArray w := by
    rw [Array.mapM_eq_mapM_toList]
    have hgen : ∀ (l : List Field) (g : List (Nat × Bool × Nat)), l.length = g.length → (∀ (j : Nat) (f : Field) (x : Nat × Bool × Nat), l[j]? = some f → g[j]? = some x → f.offset = x.1 ∧ 0 < x.2.2 ∧ ∃ fi, P.info? f.type = some fi ∧ fi.size = x.2.2) →
        (l.mapM fun f => (do pure (f.offset, ← sizeOf f.type) : Sem (Nat × Nat))).run P w = .ok (g.map fun x => (x.1, x.2.2)) w := by
      intro l
      induction l with
      | nil => intro g hl _; have : g = [] := by simpa using hl.symm
               subst this; simp
      | cons f l ih =>
        intro g hl hg
        cases g with
        | nil => simp at hl
        | cons x g =>
          obtain ⟨m1, _, fi, m2, m3⟩ := hg 0 f x rfl rfl
          have := ih g (by simpa using hl) (fun j f x a b => hg (j + 1) f x (by simpa using a) (by simpa using b))
          rw [List.mapM_cons]
          simp [sizeOf, typeInfo, m2, m3, m1] at this ⊢
          rw [this]
          simp
    have := hgen fields.toList fs (by simpa using k2) (fun j f x a b => k3 j f x (by simpa using a) b)
    simp only [Sem.run_map, this, Result.andThen_ok]
  obtain ⟨cs', arr', m1, m2, m3⟩ := buildK_ok h (fs := fs) (place := fun i => (fs.map fun x => (x.1, x.2.2)).toArray[i]?) (fun i x hx => by simp [hx]) hk z2
  refine ⟨cs', .agg arr', m1, ?_, arr', rfl, m3.1, m3.2.1, m3.2.2⟩
  simp only [Instr.build, Sem.run_bind, z1, Result.andThen_ok, run_underlying k1, hpl]
  have : (parts.map fun q => (q.1, a.eval q.2)).toList = parts.toList.map fun q => (q.1, a.eval q.2) := by simp
  rw [this, m2]
  rfl
theorem buildArr_ok (h : Rel w0 p0 E s a w) {T : TE} (hT : TOk P T) {t e len : Nat} {size bytes : Nat} {z : List Z} (ht : T t = some ⟨.array len e, size, bytes, z⟩) {ei : Bool × Nat} (hei : kindOf T e = some ei) (h1 : ei.1 = false) (h2 : ei.2 = 1)
    {parts : Array (Nat × Operand)} {R : Type} {k : List Z → Option R} {r : R}
    (hk : buildK s ((List.range len).map fun i => (i, false, 1)) parts.toList z k = some r) : ∃ cs u, k cs = some r ∧ (Instr.build t (parts.map fun q => (q.1, a.eval q.2))).run P w = .ok u w ∧ RepV w E (.agg cs) u := by
  have hi := hT t _ ht
  have k1 : P.underlying t = some (.array len e) := hi.kind
  obtain ⟨ie, _, he, rfl⟩ := kindOf_spec hT hei
  obtain ⟨zv, z1, z2, z3, _⟩ := zero_arr hi w E.p
  obtain ⟨cs', arr', m1, m2, m3⟩ := buildK_ok h (place := fun i => some (i * ie.size, ie.size)) (fun i x hx => by
    simp only [List.getElem?_map, Option.map_eq_some_iff] at hx
    obtain ⟨j, hj, rfl⟩ := hx
    obtain ⟨rfl, _⟩ := range_get hj
    have : ie.size = 1 := h2
    simp [this]) hk z2
  refine ⟨cs', .agg arr', m1, ?_, arr', rfl, m3.1, m3.2.1, m3.2.2⟩
  simp only [Instr.build, Sem.run_bind, z1, Result.andThen_ok, run_underlying k1, he.run_sizeOf]
  have : (parts.map fun q => (q.1, a.eval q.2)).toList = parts.toList.map fun q => (q.1, a.eval q.2) := by simp
  rw [this, m2]
  rfl
end Go.Proofs.Ytcnedmkfcbcjkaa.Ra
