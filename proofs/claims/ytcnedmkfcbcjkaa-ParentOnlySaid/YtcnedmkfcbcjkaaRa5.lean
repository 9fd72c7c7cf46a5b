/- EACH OPERATION THAT TURNS NOTHING, BUT CALLS AND NEW ROWS. -/
import Derived.Test.YtcnedmkfcbcjkaaRa4
import Derived.Laws.Small
import Derived.Laws.BytesArg
import Derived.Laws.Slices
set_option linter.unusedVariables false
set_option linter.unusedSimpArgs false
namespace Go.Proofs.Ytcnedmkfcbcjkaa.Ra
open Go Go.RowKit
set_option linter.unusedVariables false
set_option linter.unusedSimpArgs false
variable {w0 : World} {p0 : Base} {E : Env} {s : St} {a : Act} {w : World} {P : Program}

theorem exec_v {x : Sem Value} {u : Value} {w' : World} (h : x.run P w = .ok u w') : (do pure (Next.value (← x)) : Sem Next).run P w = .ok (.value u) w' := by simp [h]
theorem add_none {ad : Addr} (h : ad.spot = none) (o : Nat) : ad.add o = ⟨ad.block, ad.off + o, none⟩ := by
  unfold Addr.add
  split
  · rename_i h0; subst h0; cases ad; simp_all
  · rfl
theorem spot_of {ad : Addr} {v : Value} (h : w.cell? (ad.add 0) = some v) : ad.spot = none := by
  have := add_spot h
  unfold Addr.add at this
  rw [if_pos rfl] at this
  rw [this]
/-- Elements that lie in a row. -/
theorem mul_in {i n sz j : Nat} (hi : i < n) (hj : j < sz) : i * sz + j < n * sz := by
  have : (i + 1) * sz ≤ n * sz := Nat.mul_le_mul_right _ hi
  rw [Nat.add_mul] at this
  omega

theorem load_ro {t : Nat} {i : TI} (hi : TIok P t i) {x y : D} {u : Value} {p : Nat → Nat → Prop} (hx : Rep w p x u) (h : x.loadRo i.kind.agg i.size = some y) :
    ∃ u', (Instr.loadAt t u).run P w = .ok u' w ∧ Rep w p y u' := by
  cases hx with
  | ro ds ad vs hs hm hr =>
    obtain ⟨u', h1, h2⟩ := run_loadVar hi hs (fun o ho => ⟨(hm o ho).1, (hm o ho).2.1⟩) hr h
    exact ⟨u', by simp [Instr.loadAt, Instr.sureAddr, h1], h2⟩
  | _ => cases h
theorem asDs_list (h : Rel w0 p0 E s a w) : ∀ {l : List V} {us : List Value} {ds : List D}, (∀ (j : Nat) (v : V) (u : Value), l[j]? = some v → us[j]? = some u → RepV w E v u) → l.length = us.length → s.asDs l = some ds →
    ds.length = us.length ∧ ∀ (j : Nat) (d : D) (u : Value), ds[j]? = some d → us[j]? = some u → Rep w E.p d u := by
  intro l
  induction l with
  | nil =>
    intro us ds _ hl hd
    cases hd
    exact ⟨by simpa using hl, by simp⟩
  | cons v l ih =>
    intro us ds hv hl hd
    cases us with
    | nil => simp at hl
    | cons u us =>
      simp only [St.asDs, Option.bind_eq_some_iff] at hd
      obtain ⟨y, hy, ys, hys, hd⟩ := hd
      cases hd
      obtain ⟨k1, k2⟩ := ih (us := us) (fun j v u a b => hv (j + 1) v u (by simpa using a) (by simpa using b)) (by simpa using hl) hys
      refine ⟨by simpa using k1, fun j d u' hj hu => ?_⟩
      cases j with
      | zero =>
        simp only [List.getElem?_cons_zero, Option.some.injEq] at hj hu
        subst hj hu
        exact h.asD (hv 0 v _ rfl rfl) hy
      | succ j => exact k2 j d u' (by simpa using hj) (by simpa using hu)
theorem cell_in {g o : Nat} {cur : Array Value} {e : TypeId} {f : Nat × Nat} (h : w.heap[g]? = some (.cells cur e f)) : w.cell? ⟨g, o, none⟩ = cur[o]? := by simp [World.cell?, h]
theorem load_box (h : Rel w0 p0 E s a w) {t : Nat} {i : TI} (hi : TIok P t i) {b o : Nat} {cs : List V} (hb : lookBox b s.boxes = some cs) {u : Value} (hu : RepV w E (.box b o) u) :
    (i.kind.agg = true → ∀ ds, o + i.size ≤ cs.length → s.asDs ((cs.drop o).take i.size) = some ds → ∃ u', (Instr.loadAt t u).run P w = .ok u' w ∧ Rep w E.p (.agg ds) u') ∧
    (i.kind.agg = false → ∀ v, cs[o]? = some v → ∃ u', (Instr.loadAt t u).run P w = .ok u' w ∧ RepV w E v u') := by
  obtain ⟨g, cur, e, k1, k2, k3, k4, k5, k6⟩ := h.boxes _ (lookBox_mem hb)
  obtain ⟨g', hg, rfl⟩ := hu
  rw [k1] at hg
  cases hg
  replace k4 : cur.size = cs.length := k4
  refine ⟨fun ha ds hl hd => ?_, fun ha v hv => ?_⟩
  · have hlen : ((cs.drop o).take i.size).length = i.size := by simp; omega
    obtain ⟨m1, m2⟩ := asDs_list h (us := (cur.toList.drop o).take i.size) (fun j v u hv hu => by
      have hj : j < i.size := by have := (List.getElem?_eq_some_iff.1 hv).1; omega
      rw [List.getElem?_take, if_pos hj, List.getElem?_drop] at hv hu
      exact (k6 (o + j) v u hv (by simpa using hu)).2) (by simp; omega) hd
    have hcl : ((cur.toList.drop o).take i.size).length = i.size := by simp; omega
    obtain ⟨u', h1, h2⟩ := run_loadVar (w := w) (p := E.p) hi (ad := ⟨g, o, none⟩) rfl (ds := ds) (vs := fun j => cur.toList.getD (o + j) undef) (fun j hj => by
        have hlt : o + j < cur.size := by omega
        have hc : cs[o + j]? = some (cs[o + j]'(by omega)) := List.getElem?_eq_getElem _
        refine ⟨?_, ?_⟩
        · rw [cell_in k3, List.getD_eq_getElem?_getD]
          simp [Array.getElem?_eq_getElem hlt]
        · rw [List.getD_eq_getElem?_getD]
          simp only [Array.getElem?_toList, Array.getElem?_eq_getElem hlt, Option.getD_some]
          exact (k6 (o + j) _ _ hc (Array.getElem?_eq_getElem hlt)).1)
      (fun j d hj => by
        have hjl : j < ds.length := (List.getElem?_eq_some_iff.1 hj).1
        have hlt : o + j < cur.size := by omega
        refine m2 j d _ hj ?_
        rw [List.getElem?_take, if_pos (by omega), List.getElem?_drop, List.getD_eq_getElem?_getD]
        simp [Array.getElem?_eq_getElem hlt])
      (y := .agg ds) (by rw [ha]; show (if _ then _ else _) = _; rw [if_pos (by omega), List.take_of_length_le (by omega)])
    exact ⟨u', by simp [Instr.loadAt, Instr.sureAddr, h1], h2⟩
  · have hlt : o < cur.size := by have := (List.getElem?_eq_some_iff.1 hv).1; omega
    refine ⟨cur[o], ?_, (k6 o v _ hv (Array.getElem?_eq_getElem hlt)).2⟩
    have : w.cell? ⟨g, o, none⟩ = some cur[o] := by rw [cell_in k3, Array.getElem?_eq_getElem hlt]
    simp [Instr.loadAt, Instr.sureAddr, loadVar, hi.run_isAgg, ha, this]
theorem load_elp (h : Rel w0 p0 E s a w) {t : Nat} {i : TI} (hi : TIok P t i) {t' j o : Nat} {q : Tok} (hq : lookTok t' s.toks = some q) {u : Value} (hu : RepV w E (.elp t' j o) u)
    {x y : D} (hx : q.xs[j]? = some x) (hy : D.ofCells i.kind.agg i.size (x.cells.drop o) = some y) : ∃ u', (Instr.loadAt t u).run P w = .ok u' w ∧ Rep w E.p y u' := by
  obtain ⟨ad, n, c, sz, hρ, hsp, rfl⟩ := hu
  obtain ⟨h1, h2, h3, h4⟩ := h.tok hq (u := .slice (some ad) n c) ⟨sz, hρ⟩
  rw [h1] at hρ
  simp only [Option.some.injEq, Prod.mk.injEq] at hρ
  obtain ⟨_, A, c', vs, hv, _, k3, k4, k5, _⟩ := h2
  simp only [Value.slice.injEq] at hv
  obtain ⟨rfl, rfl, rfl⟩ := hv
  obtain rfl : q.sz = sz := hρ.2
  have hj : j < q.xs.length := (List.getElem?_eq_some_iff.1 hx).1
  have hxl := k3 x (List.mem_of_getElem? hx)
  obtain ⟨u', m1, m2⟩ := run_loadVar (w := w) (p := E.p) hi (ad := ⟨ad.block, ad.off + (j * q.sz + o), none⟩) rfl (ds := x.cells.drop o) (vs := fun m => vs (j * q.sz + (o + m))) (fun m hm => by
      have hm' : o + m < q.sz := by simp at hm; omega
      obtain ⟨ad', e1, e2, e3, _⟩ := k4 (j * q.sz + (o + m)) (mul_in hj hm')
      cases e1
      rw [add_none hsp] at e2
      refine ⟨?_, e3⟩
      rw [← e2]
      simp [Nat.add_assoc])
    (fun m d hm => by
      rw [List.getElem?_drop] at hm
      exact k5 j x (o + m) d hx hm) hy
  exact ⟨u', by simp [Instr.loadAt, Instr.sureAddr, m1], m2⟩
end Go.Proofs.Ytcnedmkfcbcjkaa.Ra
