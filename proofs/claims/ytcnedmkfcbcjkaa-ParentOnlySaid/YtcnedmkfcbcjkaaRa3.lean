/- WHAT THE PROGRAM's TYPES SAY, AND WHAT OPERANDS HOLD. -/
import Derived.Test.YtcnedmkfcbcjkaaRa2
set_option linter.unusedVariables false
set_option linter.unusedSimpArgs false
namespace Go.Proofs.Ytcnedmkfcbcjkaa.Ra
open Go Go.RowKit
set_option linter.unusedVariables false
set_option linter.unusedSimpArgs false
variable {w0 : World} {p0 : Base} {E : Env} {s : St} {a : Act} {w : World} {P : Program}

/-- A zero value's cell: the same in every world. -/
def ZOk (c : Z) (v : Value) : Prop := v.oneCell' = true ∧ match c with
  | .d x => ∀ w p, Rep w p x v
  | .nl n => 0 < n ∧ v = .slice none 0 0
def KindOk (P : Program) (t : Nat) : TK → Prop
  | .one => ∃ d, P.underlying t = some d ∧ (∀ fs, d ≠ .struct fs) ∧ ∀ n e, d ≠ .array n e
  | .bool => P.underlying t = some .bool
  | .slice e => P.underlying t = some (.slice e)
  | .struct fs => ∃ fields, P.underlying t = some (.struct fields) ∧ fields.size = fs.length ∧ ∀ (j : Nat) (f : Field) (h : Nat × Bool × Nat), fields[j]? = some f → fs[j]? = some h →
      f.offset = h.1 ∧ 0 < h.2.2 ∧ ∃ fi, P.info? f.type = some fi ∧ fi.size = h.2.2
  | .array n e => P.underlying t = some (.array n e)
structure TIok (P : Program) (t : Nat) (i : TI) : Prop where
  pos : 0 < i.size
  bpos : 0 < i.bytes
  kind : KindOk P t i.kind
  info : ∃ f z, P.info? t = some f ∧ f.size = i.size ∧ f.bytes = i.bytes ∧ f.zero = some z ∧ z.cells.size = i.size ∧ i.zero.length = i.size ∧ (i.kind.agg = true → z = .agg z.cells) ∧ (i.kind.agg = false → i.size = 1 ∧ z.oneCell' = true) ∧
    ∀ (j : Nat) (c : Z) (v : Value), i.zero[j]? = some c → z.cells[j]? = some v → ZOk c v
def TOk (P : Program) (T : TE) : Prop := ∀ t i, T t = some i → TIok P t i
def CVOk (P : Program) (CV : Nat → Nat → Option Conv) : Prop := ∀ t u c, CV t u = some c → match c with
  | .int k => ∃ d, P.underlying t = some d ∧ P.underlying u = some (.int k)
  | .text => ∃ e, P.underlying t = some (.slice e) ∧ P.underlying e = some (.int .u8) ∧ P.underlying u = some .string

theorem TIok.run_sizeOf {t : Nat} {i : TI} (h : TIok P t i) (w : World) : (sizeOf t).run P w = .ok i.size w := by
  obtain ⟨f, z, h1, h2, _⟩ := h.info
  simp [sizeOf, typeInfo, h1, h2]
theorem TIok.run_typeInfo {t : Nat} {i : TI} (h : TIok P t i) (w : World) : ∃ f, (typeInfo t).run P w = .ok f w ∧ f.bytes = i.bytes ∧ f.size = i.size := by
  obtain ⟨f, z, h1, h2, h3, _⟩ := h.info
  exact ⟨f, by simp [typeInfo, h1], h3, h2⟩
theorem TIok.run_isAgg {t : Nat} {i : TI} (h : TIok P t i) (w : World) : (isAgg t).run P w = .ok i.kind.agg w := by
  have hk := h.kind
  cases hi : i.kind with
  | one =>
    rw [hi] at hk
    obtain ⟨d, h1, h2, h3⟩ := hk
    simp only [isAgg, Sem.run_bind, underlying, run_program, Result.andThen_ok, h1, Sem.run_pure]
    cases d <;> first | rfl | exact absurd rfl (h2 _) | exact absurd rfl (h3 _ _)
  | bool =>
    rw [hi] at hk
    have hk : P.underlying t = some .bool := hk
    simp [isAgg, underlying, hk, TK.agg]
  | slice e =>
    rw [hi] at hk
    have hk : P.underlying t = some (.slice e) := hk
    simp [isAgg, underlying, hk, TK.agg]
  | struct fs =>
    rw [hi] at hk
    obtain ⟨fields, h1, _⟩ := hk
    simp [isAgg, underlying, h1, TK.agg]
  | array n e =>
    rw [hi] at hk
    have hk : P.underlying t = some (.array n e) := hk
    simp [isAgg, underlying, hk, TK.agg]
theorem elemOf_spec {T : TE} (hT : TOk P T) {t : Nat} {i : TI} (h : elemOf T t = some i) : ∃ e, P.underlying t = some (.slice e) ∧ TIok P e i := by
  unfold elemOf at h
  split at h
  · rename_i e _ _ _ ht
    exact ⟨e, (hT t _ ht).kind, hT e i h⟩
  · cases h
theorem kindOf_spec {T : TE} (hT : TOk P T) {t : Nat} {h : Bool × Nat} (hk : kindOf T t = some h) : ∃ i, T t = some i ∧ TIok P t i ∧ h = (i.kind.agg, i.size) := by
  unfold kindOf at hk
  obtain ⟨i, h1, h2⟩ := Option.map_eq_some_iff.1 hk
  exact ⟨i, h1, hT t i h1, h2.symm⟩

theorem lookTok_mem {t : Nat} {l : List Tok} {q : Tok} (h : lookTok t l = some q) : q ∈ l ∧ q.id = t := by
  induction l with
  | nil => cases h
  | cons r l ih =>
    unfold lookTok at h
    cases e : r.id == t with
    | true =>
      rw [e] at h
      simp only [cond_true, Option.some.injEq] at h
      subst h
      exact ⟨List.mem_cons_self, by simpa using e⟩
    | false =>
      rw [e] at h
      exact ⟨List.mem_cons_of_mem _ (ih h).1, (ih h).2⟩
theorem lookBox_mem {b : Nat} {l : List (Nat × List V)} {cs : List V} (h : lookBox b l = some cs) : (b, cs) ∈ l := by
  induction l with
  | nil => cases h
  | cons r l ih =>
    unfold lookBox at h
    cases e : r.1 == b with
    | true =>
      rw [e] at h
      simp only [cond_true, Option.some.injEq] at h
      have e : r.1 = b := by simpa using e
      subst h
      subst e
      exact List.mem_cons_self
    | false =>
      rw [e] at h
      exact List.mem_cons_of_mem _ (ih h)
theorem Rep.nil0 (w : World) (p : Nat → Nat → Prop) : Rep w p (.sl []) (.slice none 0 0) :=
  Rep.sl [] none 0 0 (fun _ => undef) (Nat.le_refl _) (by simp) (by simp) (by simp)
theorem RowOk.rep {base : Nat} {p : Nat → Nat → Prop} {sz : Nat} {xs : List D} {v : Value} {β : Option Nat} (h : RowOk base w p false sz xs v β) : Rep w p (.sl xs) v := by
  obtain ⟨_, A, c, vs, rfl, h1, h3, h4, h5, _⟩ := h
  refine .sl xs A c sz vs h1 h3 (fun o ho => ?_) h5
  obtain ⟨ad, k1, k2, k3, k4⟩ := h4 o ho
  exact ⟨ad, k1, k2, k3, k4 rfl⟩
theorem Rel.tok (h : Rel w0 p0 E s a w) {t : Nat} {q : Tok} (hq : lookTok t s.toks = some q) {u : Value} (hu : RepV w E (.own t) u) :
    E.ρ t = some (u, q.sz) ∧ RowOk w0.heap.size w E.p q.wr q.sz q.xs u (E.β t) ∧ q ∈ s.toks ∧ q.id = t := by
  obtain ⟨hm, hid⟩ := lookTok_mem hq
  obtain ⟨v, h1, h2⟩ := h.toks q hm
  obtain ⟨sz, hu⟩ := hu
  rw [hid] at h1 h2
  rw [h1] at hu
  simp only [Option.some.injEq, Prod.mk.injEq] at hu
  obtain ⟨rfl, _⟩ := hu
  exact ⟨h1, h2, hm, hid⟩
theorem Rel.asD (h : Rel w0 p0 E s a w) {v : V} {u : Value} (hv : RepV w E v u) {x : D} (hx : s.asD v = some x) : Rep w E.p x u := by
  cases v with
  | undef => cases hx
  | d y => cases hx; exact hv
  | nil => cases hx; cases (show u = .slice none 0 0 from hv); exact Rep.nil0 _ _
  | own t =>
    simp only [St.asD, Option.bind_eq_some_iff] at hx
    obtain ⟨q, hq, hx⟩ := hx
    cases hw : q.wr with
    | true => rw [hw] at hx; cases hx
    | false =>
      rw [hw] at hx
      cases hx
      have := (h.tok hq hv).2.1
      rw [hw] at this
      exact this.rep
  | box b o => cases hx
  | elp t i o => cases hx
  | agg cs =>
    simp only [St.asD, Option.some.injEq] at hx
    subst hx
    obtain ⟨vs, rfl, h1, h2, h3⟩ := hv
    refine .agg _ vs (by simpa using h1) h2 fun j d v hj hk => ?_
    simp only [List.getElem?_map, Option.map_eq_some_iff] at hj
    obtain ⟨c, hc, rfl⟩ := hj
    have := h3 j c v hc hk
    cases c with
    | d x => exact this
    | nl n => cases this.2; exact Rep.nil0 _ _
theorem Rel.opnd (h : Rel w0 p0 E s a w) (x : Operand) : RepV w E (s.opnd x) (a.eval x) := by
  cases x with
  | tmp t => exact h.get t
  | global g => exact Rep.any _
  | func f => exact Rep.clo f [] #[] rfl (by simp)
  | const v =>
    unfold St.opnd
    split
    · rename_i t e; cases e
    · rename_i k z e; cases e; exact Rep.int k z
    · rename_i b e; cases e; exact Rep.bool b
    · rename_i ba e; cases e; exact Rep.str _ ba rfl
    · rename_i e; cases e; exact rfl
    · rename_i f e; cases e
    · exact Rep.any _
theorem Rel.asDs (h : Rel w0 p0 E s a w) : ∀ {l : List Operand} {ds : List D}, s.asDs (l.map s.opnd) = some ds → Reps w E.p ds (l.map a.eval).toArray := by
  intro l
  induction l with
  | nil => intro ds hd; cases hd; exact ⟨rfl, by simp⟩
  | cons x l ih =>
    intro ds hd
    simp only [List.map_cons, St.asDs, Option.bind_eq_some_iff] at hd
    obtain ⟨y, hy, ys, hys, hd⟩ := hd
    cases hd
    obtain ⟨k1, k2⟩ := ih hys
    refine ⟨by simpa using k1, fun j d v hj hv => ?_⟩
    cases j with
    | zero =>
      simp only [List.getElem?_cons_zero, Option.some.injEq] at hj
      simp only [List.map_cons, List.getElem?_toArray, List.getElem?_cons_zero, Option.some.injEq] at hv
      subst hj hv
      exact h.asD (h.opnd x) hy
    | succ j =>
      refine k2 j d v (by simpa using hj) ?_
      simpa using hv
theorem Rel.asDN (h : Rel w0 p0 E s a w) {v : V} {u : Value} (hv : RepV w E v u) {x : D} (hx : s.asDN v = some x) : Rep w E.p x u := by
  cases v with
  | nil => cases hx; cases (show u = .slice none 0 0 from hv); exact Rep.nils
  | _ => exact h.asD hv hx
theorem Rel.asDNs (h : Rel w0 p0 E s a w) : ∀ {l : List Operand} {ds : List D}, s.asDNs (l.map s.opnd) = some ds → Reps w E.p ds (l.map a.eval).toArray := by
  intro l
  induction l with
  | nil => intro ds hd; cases hd; exact ⟨rfl, by simp⟩
  | cons x l ih =>
    intro ds hd
    simp only [List.map_cons, St.asDNs, Option.bind_eq_some_iff] at hd
    obtain ⟨y, hy, ys, hys, hd⟩ := hd
    cases hd
    obtain ⟨k1, k2⟩ := ih hys
    refine ⟨by simpa using k1, fun j d v hj hv => ?_⟩
    cases j with
    | zero =>
      simp only [List.getElem?_cons_zero, Option.some.injEq] at hj
      simp only [List.map_cons, List.getElem?_toArray, List.getElem?_cons_zero, Option.some.injEq] at hv
      subst hj hv
      exact h.asDN (h.opnd x) hy
    | succ j =>
      refine k2 j d v (by simpa using hj) ?_
      simpa using hv
theorem asB_spec {v : V} {u : Value} {b : Bool} (hv : RepV w E v u) (h : asB v = some b) : u = .bool b := by
  cases v with
  | d x =>
    cases x with
    | bool c => cases h; cases hv; rfl
    | _ => cases h
  | _ => cases h
theorem asI_spec {v : V} {u : Value} {z : IntKind × Int} (hv : RepV w E v u) (h : asI v = some z) : u = .int z.1 z.2 := by
  cases v with
  | d x =>
    cases x with
    | int k c => cases h; cases hv; rfl
    | _ => cases h
  | _ => cases h
end Go.Proofs.Ytcnedmkfcbcjkaa.Ra
