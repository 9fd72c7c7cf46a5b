/- STORES, APPENDS, COPIES, MADE ROWS, CAPTURED BOXES. -/
import Derived.Test.YtcnedmkfcbcjkaaRa11
set_option linter.unusedVariables false
set_option linter.unusedSimpArgs false
namespace Go.Proofs.Ytcnedmkfcbcjkaa.Ra
open Go Go.RowKit
set_option linter.unusedVariables false
set_option linter.unusedSimpArgs false
variable {w0 : World} {p0 : Base} {E : Env} {s : St} {a : Act} {w : World} {P : Program}

theorem setRow_size (w : World) (g : Nat) (cs : Array Value) : (w.setRow g cs).heap.size = w.heap.size := by simp [World.setRow]
theorem setRow_ext {g : Nat} {cur cur' : Array Value} {e : Nat} {p : Nat → Nat → Prop} (hg : w.heap[g]? = some (.cells cur e (0, 0))) (hp : ∀ o, p g o → cur'[o]? = cur[o]?) : Ext w p (w.setRow g cur') p := by
  intro b o hb
  refine ⟨hb, ?_⟩
  by_cases e' : b = g
  · subst e'
    rw [cell_in (setRow_heap w b cur cur' e (0, 0) hg), cell_in hg]
    exact hp o hb
  · exact World.cell?_of_block (a := ⟨b, o, none⟩) (setRow_other w g b cur' e')
theorem setRow_below {g : Nat} {cur' : Array Value} {B : Nat} {w1 : World} (h : Below B w1 w) (hB : B ≤ g) : Below B w1 (w.setRow g cur') :=
  h.trans ⟨rfl, rfl, rfl, by rw [setRow_size]; exact Nat.le_refl _, fun k hk => setRow_other w g k cur' (by omega)⟩
theorem RowOk.setRow {g : Nat} {cur cur' : Array Value} {e : Nat} {p : Nat → Nat → Prop} (hg : w.heap[g]? = some (.cells cur e (0, 0))) (hp : ∀ o, p g o → cur'[o]? = cur[o]?) {base : Nat} {wr : Bool} {sz : Nat} {xs : List D} {v : Value} {β : Option Nat}
    (h : RowOk base w p wr sz xs v β) (hβ : β ≠ some g) : RowOk base (w.setRow g cur') p wr sz xs v β := by
  have he := setRow_ext (cur' := cur') hg hp
  obtain ⟨hz, A, c, vs, rfl, h1, h3, h4, h5, h6⟩ := h
  refine ⟨hz, A, c, vs, rfl, h1, h3, fun o ho => ?_, fun i x j d hi hj => (h5 i x j d hi hj).ext he, ?_⟩
  · obtain ⟨ad, ha, k1, k2, k3⟩ := h4 o ho
    refine ⟨ad, ha, ?_, k2, k3⟩
    cases hw : wr with
    | false =>
      exact (cell_ext he k1 (k3 hw)).1
    | true =>
      rcases h6 with ⟨_, _, k⟩ | ⟨g', cur2, e2, kβ, kA, _, kh, _⟩
      · rw [k hw] at ho; simp at ho
      · rw [ha] at kA
        cases kA
        have hne : g' ≠ g := fun e => hβ (e ▸ kβ)
        rw [add_none rfl] at k1 ⊢
        rw [← k1]
        exact World.cell?_of_block (setRow_other w g g' cur' hne)
  · rcases h6 with h6 | ⟨g', cur2, e2, kβ, kA, kb, kh, kc, kp⟩
    · exact .inl h6
    · have hne : g' ≠ g := fun e => hβ (e ▸ kβ)
      exact .inr ⟨g', cur2, e2, kβ, kA, kb, (setRow_other w g g' cur' hne).trans kh, kc, kp⟩
/-- A block of the call's own written: nobody's row, nobody's box. -/
theorem Rel.setRow (h : Rel w0 p0 E s a w) {g : Nat} {cur cur' : Array Value} {e : Nat} (hg : w.heap[g]? = some (.cells cur e (0, 0))) (hge : w0.heap.size ≤ g) (hp : ∀ o, E.p g o → cur'[o]? = cur[o]?) {s' : St} (hs : s'.tmps = s.tmps)
    (hbox : ∀ q' ∈ s'.boxes, (q' ∈ s.boxes ∧ E.σ q'.1 ≠ some g) ∨ (E.σ q'.1 = some g ∧ (∃ q ∈ s.boxes, q.1 = q'.1) ∧ cur'.size = q'.2.length ∧ ∀ (j : Nat) (x : V) (u : Value), q'.2[j]? = some x → cur'[j]? = some u → u.oneCell' = true ∧ RepV w E x u))
    (htok : ∀ q' ∈ s'.toks, (q' ∈ s.toks ∧ E.β q'.id ≠ some g) ∨ (∃ q ∈ s.toks, q.id = q'.id) ∧ ∃ v, E.ρ q'.id = some (v, q'.sz) ∧ RowOk w0.heap.size (w.setRow g cur') E.p q'.wr q'.sz q'.xs v (E.β q'.id)) : Rel w0 p0 E s' a (w.setRow g cur') := by
  have he := setRow_ext (cur' := cur') hg hp
  have bold : ∀ q' ∈ s'.boxes, ∃ q ∈ s.boxes, q.1 = q'.1 := fun q' hq' => (hbox q' hq').elim (fun k => ⟨q', k.1, rfl⟩) (fun k => k.2.1)
  have told : ∀ q' ∈ s'.toks, ∃ q ∈ s.toks, q.id = q'.id := fun q' hq' => (htok q' hq').elim (fun k => ⟨q', k.1, rfl⟩) (fun k => k.1)
  refine { more := h.more.step he (fun k o hk ho => (setRow_other w g k cur' (fun e => by subst e; rw [hg] at hk; cases hk; cases ho)).trans hk) (fun _ _ _ k => k), below := setRow_below h.below hge, tsz := by rw [hs]; exact h.tsz, tmps := ?_, pold := h.pold, pin := fun b o hb => by rw [setRow_size]; exact h.pin b o hb, boxes := ?_, bapart := ?_, toks := ?_, tapart := ?_, tbox := ?_ }
  · intro i v u hi hu
    rw [hs] at hi
    exact RepV.ext he rfl rfl (h.tmps i v u hi hu)
  · intro q' hq'
    rcases hbox q' hq' with ⟨k1, k2⟩ | ⟨k1, k2, k3, k4⟩
    · obtain ⟨g', cur2, e2, m1, m2, m3, m4, m5, m6⟩ := h.boxes q' k1
      have hne : g' ≠ g := fun e => k2 (e ▸ m1)
      exact ⟨g', cur2, e2, m1, m2, (setRow_other w g g' cur' hne).trans m3, m4, m5, fun j x u hj hu => ⟨(m6 j x u hj hu).1, RepV.ext he rfl rfl (m6 j x u hj hu).2⟩⟩
    · obtain ⟨q, hq, hqe⟩ := k2
      obtain ⟨g', cur2, e2, m1, m2, m3, m4, m5, m6⟩ := h.boxes q hq
      rw [hqe, k1] at m1
      cases m1
      exact ⟨g, cur', e, k1, m2, setRow_heap w g cur cur' e (0, 0) hg, k3, m5, fun j x u hj hu => ⟨(k4 j x u hj hu).1, RepV.ext he rfl rfl (k4 j x u hj hu).2⟩⟩
  · intro q hq q' hq' hne
    obtain ⟨r, hr, e1⟩ := bold q hq
    obtain ⟨r', hr', e2⟩ := bold q' hq'
    exact fun hh => h.bapart r hr r' hr' (by rw [e1, e2]; exact hne) (by rw [e1, e2]; exact hh)
  · intro q' hq'
    rcases htok q' hq' with ⟨k1, k2⟩ | ⟨k1, k2⟩
    · obtain ⟨v, m1, m2⟩ := h.toks q' k1
      exact ⟨v, m1, m2.setRow hg hp k2⟩
    · exact k2
  · intro q hq q' hq' hne g' hg'
    obtain ⟨r, hr, e1⟩ := told q hq
    obtain ⟨r', hr', e2⟩ := told q' hq'
    rw [← e1] at hg' hne
    rw [← e2] at hne ⊢
    exact h.tapart r hr r' hr' hne g' hg'
  · intro q hq q' hq' g' hg'
    obtain ⟨r, hr, e1⟩ := told q hq
    obtain ⟨r', hr', e2⟩ := bold q' hq'
    rw [← e1] at hg'
    rw [← e2]
    exact h.tbox r hr r' hr' g' hg'

/-- A store into a box. -/
theorem store_box (h : Rel w0 p0 E s a w) {b p : Nat} {old cs : List V} (hb : lookBox b s.boxes = some old) (hl : p + cs.length ≤ old.length) {t : Nat} {i : TI} (hi : TIok P t i) {ua u : Value} (hua : RepV w E (.box b p) ua) (hn : u.cells.size = cs.length) (hci : cs.length = i.size)
    (hc : ∀ (j : Nat) (x : V) (c : Value), cs[j]? = some x → u.cells[j]? = some c → c.oneCell' = true ∧ RepV w E x c) :
    ∃ w', (Instr.storeAt t ua u).run P w = .ok () w' ∧ Rel w0 p0 E (s.setBox b p cs) a w' := by
  obtain ⟨g', hg', rfl⟩ := hua
  obtain ⟨g, cur, e, m1, m2, m3, m4, m5, m6⟩ := h.boxes _ (lookBox_mem hb)
  replace m1 : E.σ b = some g := m1
  rw [m1] at hg'
  have hgg : g = g' := by simpa using hg'
  subst hgg
  replace m4 : cur.size = old.length := m4
  have hone : ∀ v ∈ u.cells.toList, v.oneCell' = true := by
    intro v hv
    obtain ⟨j, hj⟩ := List.getElem?_of_mem hv
    have hjl : j < cs.length := by
      have := (List.getElem?_eq_some_iff.1 hj).1
      simp at this
      omega
    exact (hc j _ v (List.getElem?_eq_getElem hjl) (by simpa using hj)).1
  have hst := run_storeCells_at P g p e u.cells.toList 0 cur w m3 (by simp; omega) hone
  refine ⟨w.setRow g (cur.toList.take (p + 0) ++ u.cells.toList ++ cur.toList.drop (p + 0 + u.cells.toList.length)).toArray, ?_, ?_⟩
  · have hsz : u.cells.size = i.size := hn.trans hci
    simp only [Instr.storeAt, Instr.sureAddr, storeVar, Sem.run_bind, Sem.run_pure, Result.andThen_ok, hi.run_sizeOf]
    rw [if_neg (by simpa using hsz)]
    exact hst
  have hbeq : ∀ q : Nat × List V, E.σ q.1 = some g → q ∈ s.boxes → q.1 = b := fun q hq hm => Classical.byContradiction fun hne => h.bapart q hm _ (lookBox_mem hb) hne (hq.trans m1.symm)
  refine h.setRow m3 m2 (fun o ho => absurd ho (m5 o)) rfl (fun q' hq' => ?_) fun q' hq' => .inl ⟨hq', fun k => h.tbox q' hq' _ (lookBox_mem hb) g k m1⟩
  simp only [St.setBox, List.mem_map] at hq'
  obtain ⟨q, hq, rfl⟩ := hq'
  cases hbq : q.1 == b with
  | false =>
    simp only [cond_false]
    refine .inl ⟨hq, fun k => ?_⟩
    have := hbeq q k hq
    simp [this] at hbq
  | true =>
    simp only [cond_true]
    have hqb : q.1 = b := by simpa using hbq
    obtain ⟨g2, cur2, e2, n1, n2, n3, n4, n5, n6⟩ := h.boxes q hq
    rw [hqb] at n1
    rw [m1] at n1
    have hgg : g = g2 := by simpa using n1
    subst hgg
    rw [m3] at n3
    cases n3
    refine .inr ⟨by rw [hqb]; exact m1, ⟨q, hq, rfl⟩, ?_, fun j x v hx hv => ?_⟩
    · simp
      omega
    · simp only [Nat.add_zero, List.getElem?_toArray] at hv
      have hul : u.cells.toList.length = cs.length := by simpa using hn
      rcases Nat.lt_or_ge j p with h1 | h1
      · rw [List.append_assoc, List.getElem?_append_left (by simp; omega), List.getElem?_take, if_pos h1] at hx hv
        exact n6 j x v hx (by simpa using hv)
      · rcases Nat.lt_or_ge j (p + cs.length) with h2 | h2
        · rw [List.append_assoc, List.getElem?_append_right (by simp; omega), List.getElem?_append_left (by simp; omega)] at hx hv
          simp only [List.length_take] at hx hv
          rw [show j - min p q.2.length = j - p by omega] at hx
          rw [show j - min p cur.toList.length = j - p by simp; omega] at hv
          exact hc (j - p) x v hx (by simpa using hv)
        · rw [List.append_assoc, List.getElem?_append_right (by simp; omega), List.getElem?_append_right (by simp; omega), List.getElem?_drop] at hx hv
          simp only [List.length_take] at hx hv
          rw [show p + cs.length + (j - min p q.2.length - cs.length) = j by omega] at hx
          rw [show p + u.cells.toList.length + (j - min p cur.toList.length - u.cells.toList.length) = j by simp; omega] at hv
          exact n6 j x v hx (by simpa using hv)
/-- A store of a whole element into a row of the call's own. -/
theorem store_elp (h : Rel w0 p0 E s a w) {tk i : Nat} {q : Tok} (hq : lookTok tk s.toks = some q) (hw : q.wr = true) (hil : i < q.xs.length) {t : Nat} {ti : TI} (ht : TIok P t ti) (hsz : ti.size = q.sz) {ua u : Value} (hua : RepV w E (.elp tk i 0) ua) {y : D}
    (hy : Rep w E.p y u) (hfit : y.fit q.sz = true) : ∃ w', (Instr.storeAt t ua u).run P w = .ok () w' ∧ Rel w0 p0 E (s.setTok tk (q.xs.set i y)) a w' := by
  obtain ⟨ad, n, c, sz, hρ, hsp, rfl⟩ := hua
  obtain ⟨k1, k2, k3, k4⟩ := h.tok hq (u := .slice (some ad) n c) ⟨sz, hρ⟩
  obtain ⟨hz, A, c', vs, hv, h1, h3, h4, h5, h6⟩ := id k2
  simp only [Value.slice.injEq] at hv
  obtain ⟨rfl, rfl, rfl⟩ := hv
  rw [k1] at hρ
  obtain rfl : q.sz = sz := by simpa using hρ
  obtain ⟨o1, o2, o3⟩ := hy.fit hfit
  rcases h6 with ⟨_, _, k⟩ | ⟨g, cur, e, kβ, kA, kb, kh, kc, kp⟩
  · rw [k hw] at hil; simp at hil
  · cases kA
    have hmul : i * q.sz + q.sz ≤ q.xs.length * q.sz := by
      have : (i + 1) * q.sz ≤ q.xs.length * q.sz := Nat.mul_le_mul_right _ hil
      rwa [Nat.add_mul, Nat.one_mul] at this
    have hcap : q.xs.length * q.sz ≤ c * q.sz := Nat.mul_le_mul_right _ h1
    have hone : ∀ v ∈ u.cells.toList, v.oneCell' = true := by
      intro v hv
      obtain ⟨j, hj⟩ := List.getElem?_of_mem hv
      have hjl : j < y.cells.length := by
        have := (List.getElem?_eq_some_iff.1 hj).1
        simp at this
        omega
      obtain ⟨u', m1, m2, _⟩ := o3 j _ (List.getElem?_eq_getElem hjl)
      simp only [Array.getElem?_toList] at hj
      rw [hj] at m1
      cases m1
      exact m2
    have hst := run_storeCells_at P g (i * q.sz) e u.cells.toList 0 cur w kh (by simp; omega) hone
    refine ⟨w.setRow g (cur.toList.take (i * q.sz + 0) ++ u.cells.toList ++ cur.toList.drop (i * q.sz + 0 + u.cells.toList.length)).toArray, ?_, ?_⟩
    · have hsz : u.cells.size = ti.size := o1.trans hsz.symm
      simp only [Instr.storeAt, Instr.sureAddr, storeVar, Sem.run_bind, Sem.run_pure, Result.andThen_ok, ht.run_sizeOf]
      rw [if_neg (by simpa using hsz)]
      simpa using hst
    have hul : u.cells.toList.length = q.sz := by simpa using o1
    -- the new row, cell by cell
    have hcell : ∀ o : Nat, (cur.toList.take (i * q.sz + 0) ++ u.cells.toList ++ cur.toList.drop (i * q.sz + 0 + u.cells.toList.length)).toArray[o]? = if i * q.sz ≤ o ∧ o < i * q.sz + q.sz then u.cells[o - i * q.sz]? else cur[o]? := by
      intro o
      simp only [Nat.add_zero, List.getElem?_toArray]
      have hcl : i * q.sz + q.sz ≤ cur.toList.length := by simp; omega
      rcases Nat.lt_or_ge o (i * q.sz) with g1 | g1
      · rw [List.append_assoc, List.getElem?_append_left (by simp at *; omega), List.getElem?_take, if_pos g1, if_neg (by omega)]
        simp
      · rcases Nat.lt_or_ge o (i * q.sz + q.sz) with g2 | g2
        · rw [List.append_assoc, List.getElem?_append_right (by simp at *; omega), List.getElem?_append_left (by simp at *; omega), if_pos ⟨g1, g2⟩]
          simp only [List.length_take]
          rw [show o - min (i * q.sz) cur.toList.length = o - i * q.sz by omega]
          simp
        · rw [List.append_assoc, List.getElem?_append_right (by simp at *; omega), List.getElem?_append_right (by simp at *; omega), List.getElem?_drop, if_neg (by omega)]
          simp only [List.length_take]
          rw [show i * q.sz + u.cells.toList.length + (o - min (i * q.sz) cur.toList.length - u.cells.toList.length) = o by omega]
          simp
    have hnp : ∀ o, ¬ E.p g o := fun o ho => by have := (kp o ho).1; rw [hw] at this; cases this
    refine h.setRow kh kb (fun o ho => absurd ho (hnp o)) rfl (fun q' hq' => .inl ⟨hq', fun k => h.tbox q k3 q' hq' g (by rw [k4]; exact kβ) k⟩) fun q' hq' => ?_
    simp only [St.setTok, List.mem_map] at hq'
    obtain ⟨q2, hq2, rfl⟩ := hq'
    cases hid : q2.id == tk with
    | false =>
      simp only [cond_false]
      have hne : q2.id ≠ tk := by simpa using hid
      exact .inl ⟨hq2, fun k => h.tapart q k3 q2 hq2 (by rw [k4]; exact fun e => hne e.symm) g (by rw [k4]; exact kβ) k⟩
    | true =>
      simp only [cond_true]
      have hid : q2.id = tk := by simpa using hid
      obtain ⟨hs1, hs2⟩ := h.same k3 hq2 (k4.trans hid.symm)
      refine .inr ⟨⟨q2, hq2, rfl⟩, .slice (some ⟨g, 0, none⟩) q.xs.length c, by rw [hid, ← hs2]; exact k1, ?_⟩
      rw [hid, ← hs2]
      have he := setRow_ext (p := E.p) (cur' := (cur.toList.take (i * q.sz + 0) ++ u.cells.toList ++ cur.toList.drop (i * q.sz + 0 + u.cells.toList.length)).toArray) kh (fun o ho => absurd ho (hnp o))
      have hheap := setRow_heap w g cur (cur.toList.take (i * q.sz + 0) ++ u.cells.toList ++ cur.toList.drop (i * q.sz + 0 + u.cells.toList.length)).toArray e (0, 0) kh
      refine ⟨hz, some ⟨g, 0, none⟩, c, fun o => if i * q.sz ≤ o ∧ o < i * q.sz + q.sz then u.cells.getD (o - i * q.sz) undef else vs o, by simp, by simpa using h1, fun x hx => ?_, fun o ho => ?_, fun i' x j d hx hd => ?_, .inr ⟨g, _, e, kβ, rfl, kb, hheap, ?_, fun o ho => absurd ho (hnp o)⟩⟩
      · rcases List.mem_or_eq_of_mem_set hx with hx | rfl
        · exact h3 x hx
        · exact o2
      · simp only [List.length_set] at ho
        refine ⟨_, rfl, ?_, ?_, fun hf => ?_⟩
        · rw [add_none rfl, Nat.zero_add, cell_in hheap, hcell]
          dsimp only
          by_cases hin : i * q.sz ≤ o ∧ o < i * q.sz + q.sz
          · rw [if_pos hin, if_pos hin, Array.getD_eq_getD_getElem?, Array.getElem?_eq_getElem (show o - i * q.sz < u.cells.size by omega)]
            rfl
          · rw [if_neg hin, if_neg hin]
            obtain ⟨ad, e1, e2, _⟩ := h4 o ho
            cases e1
            rw [add_none rfl, Nat.zero_add, cell_in kh] at e2
            exact e2
        · dsimp only
          by_cases hin : i * q.sz ≤ o ∧ o < i * q.sz + q.sz
          · rw [if_pos hin]
            have hlt : o - i * q.sz < u.cells.size := by omega
            rw [Array.getD_eq_getD_getElem?, Array.getElem?_eq_getElem hlt]
            exact hone _ (by simp)
          · rw [if_neg hin]
            obtain ⟨ad, e1, e2, e3, _⟩ := h4 o ho
            exact e3
        · have hw2 : q2.wr = true := by
            cases hw2 : q2.wr with
            | true => rfl
            | false =>
              exfalso
              obtain ⟨v3, t1, _, A3, c3, vs3, t3, _, _, t4, _⟩ := h.toks q2 hq2
              rw [hid, k1] at t1
              simp only [Option.some.injEq, Prod.mk.injEq] at t1
              obtain ⟨rfl, _⟩ := t1
              simp only [Value.slice.injEq] at t3
              obtain ⟨rfl, _, _⟩ := t3
              obtain ⟨ad, e1, _, _, e4⟩ := t4 0 (by rw [← hs1, ← hs2]; exact Nat.mul_pos (by omega) hz)
              cases e1
              exact hnp _ (e4 hw2)
          rw [hw2] at hf
          cases hf
      · rw [List.getElem?_set] at hx
        by_cases hii : i = i'
        · subst hii
          rw [if_pos rfl, if_pos hil] at hx
          cases hx
          have hj : j < q.sz := by have := (List.getElem?_eq_some_iff.1 hd).1; omega
          obtain ⟨u', m1, _, m3⟩ := o3 j d hd
          simp only
          rw [if_pos ⟨by omega, by omega⟩, show i * q.sz + j - i * q.sz = j by omega, Array.getD_eq_getD_getElem?, m1]
          exact m3.ext he
        · rw [if_neg hii] at hx
          have hj : j < q.sz := by
            have := (List.getElem?_eq_some_iff.1 hd).1
            have := h3 x (List.mem_of_getElem? hx)
            omega
          simp only
          rw [if_neg]
          · exact (h5 i' x j d hx hd).ext he
          · rintro ⟨g1, g2⟩
            rcases Nat.lt_or_gt_of_ne hii with hlt | hlt
            · have : (i + 1) * q.sz ≤ i' * q.sz := Nat.mul_le_mul_right _ hlt
              rw [Nat.add_mul] at this
              omega
            · have : (i' + 1) * q.sz ≤ i * q.sz := Nat.mul_le_mul_right _ hlt
              rw [Nat.add_mul] at this
              omega
      · simp
        omega
end Go.Proofs.Ytcnedmkfcbcjkaa.Ra
