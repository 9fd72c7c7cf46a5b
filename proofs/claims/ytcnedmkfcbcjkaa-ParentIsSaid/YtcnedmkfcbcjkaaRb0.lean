/- THE SAME INSIDE A FENCE: in a round of a range over a function what was shown holds as anywhere. Worlds in which a block turns that is no cells. -/
import Derived.Test.YtcnedmkfcbcjkaaRa18
import Derived.LoopNIn
import Derived.OwnWalkIn
import Derived.OrdersIn
import Derived.TacticsIn
set_option linter.unusedVariables false
set_option linter.unusedSimpArgs false
namespace Go.Proofs.Ytcnedmkfcbcjkaa.Ra
open Go Go.RowKit
set_option linter.unusedVariables false
set_option linter.unusedSimpArgs false
variable {w0 : World} {p0 : Base} {E : Env} {s : St} {a : Act} {w : World} {P : Program} {F : Fence}

/-- A fence that shuts nothing out. -/
def Wide (F : Fence) : Prop := F = Fence.wide ∨ ∃ l, F = Fence.wide.inRound l
theorem Wide.fn (h : Wide F) (f : FuncId) : F.fn f := by
  rcases h with rfl | ⟨l, rfl⟩ <;> trivial
theorem Wide.depth (h : Wide F) : F.depth = none := by
  rcases h with rfl | ⟨l, rfl⟩ <;> rfl
theorem Wide.calls (h : Wide F) {f : FuncId} {args : Array Value} {R : Ending → World → Prop} (hc : Calls P f args w R) : CallsIn F 0 P f args w R := by
  have h1 : CallsIn Fence.wide 0 P f args w R := callsIn_wide.2 hc
  rcases h with rfl | ⟨l, rfl⟩
  · exact h1
  · exact h1
theorem Wide.rows (h : Wide F) {row : String} {args : Array Value} {R : Value → World → Prop} (hc : Rows P row args w R) : RowsIn F 0 P row args w R := by
  have h1 : RowsIn Fence.wide 0 P row args w R := fun c cs _ => by
    obtain ⟨v, w', r, st⟩ := hc c cs
    exact ⟨v, w', r, stepsIn_wide.2 st⟩
  rcases h with rfl | ⟨l, rfl⟩
  · exact h1
  · exact h1
theorem Wide.op (h : Wide F) {o : Oper} (hd : ∀ c, o.op ≠ .defer c) {K : Act → World → Prop} {Q : Exit → Act → World → Prop} (ho : o.wp P a w K Q) : o.wpIn F 0 P a w K Q := by
  refine ⟨fun f _ => h.fn f, ?_⟩
  rw [Oper.semAt_plain F _ _ hd]
  unfold Oper.wp at ho
  generalize (execOp a.eval o).run P w = r at *
  have hdep : F.depth.isSome = true → 1 ≤ 0 := fun hh => by rw [h.depth] at hh; cases hh
  cases r with
  | ok x w' =>
    cases x with
    | value v => exact ho
    | skip => exact ho
    | defer d => exact ho
    | enter f args => exact ⟨hdep, (h.calls ho).mono fun e w'' he => by cases e <;> exact he⟩
    | row row args => exact ⟨hdep, h.rows ho⟩
    | round l f tmps assign body => exact ho.elim
    | _ => exact ho.elim
  | halt x w' => cases x <;> first | exact ho | exact ho.elim
theorem Wide.any (h : Wide F) {ops : Array Oper} {Q : Exit → Act → World → Prop} (hQ : ¬ LetsOut Q) (hd : ∀ (i : Nat) (o : Oper), ops[i]? = some o → ∀ c, o.op ≠ .defer c) : ∀ (fuel : Nat) (listed : Array Bool) (a : Act) (w : World),
    wpAny P .any ops Q fuel listed a w → wpAnyIn F 0 P .any ops Q fuel listed a w := by
  intro fuel
  induction fuel with
  | zero => intro listed a w hh; exact hh
  | succ fuel ih =>
    intro listed a w hh
    refine ⟨hh.1, fun i hi => ?_⟩
    have h1 := hh.2 i hi
    unfold wpOp at h1
    unfold wpOpIn
    cases ho : ops[i]? with
    | none => rw [ho] at h1; exact ih _ _ _ h1
    | some o =>
      rw [ho] at h1
      simp only at h1 ⊢
      split
      · rename_i hw
        rw [if_pos hw] at h1
        rcases h1 with h1 | ⟨_, h1⟩
        · exact h.op (hd i o ho) (Oper.wp_mono (fun a w hk => ih _ a w hk) h1)
        · exact absurd h1 hQ
      · rename_i hw
        rw [if_neg hw] at h1
        exact ⟨fun f _ => h.fn f, ih _ _ _ h1⟩
section
variable {T : TE} {CV : Nat → Nat → Option Conv} {C : CT}
theorem evOp_nodefer {o : Oper} {R : Type} {k : St → Option R} {r : R} (h : evOp T CV C o s k = some r) : ∀ c, o.op ≠ .defer c := by
  intro c hc
  obtain ⟨dst, op, ty, pos, after, guard⟩ := o
  subst hc
  cases dst <;> cases h
theorem evOps_soundIn (hF : Wide F) (hT : TOk P T) (hV : CVOk P CV) (hC : COk P C) {ops : Array Oper} {R : Type} {k : St → Option R} {r : R} {Q : Exit → Act → World → Prop} (hn : ∀ s' a' w' E', k s' = some r → Rel w0 p0 E' s' a' w' → Q .normal a' w') :
    ∀ (l : List Oper) {s : St} {a : Act} {w : World} {E : Env}, (∀ o ∈ l, ∀ d, lays o = some d → p0.fix d = none) → evOps T CV C ops l s k = some r → Rel w0 p0 E s a w → wpListIn F 0 P ops Q l a w := by
  intro l
  induction l with
  | nil => intro s a w E _ h hr; exact hn _ _ _ _ h hr
  | cons o l ih =>
    intro s a w E hfx h hr
    have hfl : ∀ o ∈ l, ∀ d, lays o = some d → p0.fix d = none := fun o' ho' => hfx o' (List.mem_cons_of_mem _ ho')
    obtain ⟨s', run, h1, h2, h3⟩ := guard_ok h hr
    unfold wpListIn
    rw [h3]
    cases run with
    | true =>
      rw [if_pos rfl]
      have h4 : evOp T CV C o s' (fun s'' => evOps T CV C ops l s'' k) = some r := h1
      exact hF.op (evOp_nodefer h4) (evOp_sound hT hV hC h4 h2 (hfx o List.mem_cons_self) fun s' a' w' E' hk hr' => ih hfl hk hr')
    | false =>
      rw [if_neg (by simp)]
      exact ⟨fun f _ => hF.fn f, ih hfl h1 (h2.put o.dst (v := .undef) rfl)⟩
end
/-! ### Worlds in which a block turns that is no cells. -/
theorem putObj_cell {l : Nat} {o o' : Obj} (hl : w.heap[l]? = some o) (hc : o.isCells = false) (hc' : o'.isCells = false) (ad : Addr) : (w.putObj l o').cell? ad = w.cell? ad := by
  by_cases e : ad.block = l
  · have h1 : (w.putObj l o').heap[ad.block]? = some o' := by rw [e]; exact World.putObj_heap_same (heap_lt hl)
    have h2 : w.heap[ad.block]? = some o := by rw [e]; exact hl
    unfold World.cell?
    rw [h1, h2]
    cases o <;> cases o' <;> simp_all [Obj.isCells]
  · exact World.cell?_of_block (w := w) (World.putObj_heap_other e)
theorem putObj_below {B l : Nat} {o' : Obj} (h : Below B w0 w) (hl : B ≤ l) : Below B w0 (w.putObj l o') :=
  h.trans ⟨rfl, rfl, rfl, by simp, fun k hk => World.putObj_heap_other (by omega)⟩
theorem ext_putObj {l : Nat} {o o' : Obj} (hl : w.heap[l]? = some o) (hc : o.isCells = false) (hc' : o'.isCells = false) (p : Nat → Nat → Prop) : Ext w p (w.putObj l o') p := fun b q hb => ⟨hb, putObj_cell hl hc hc' _⟩
theorem putObj_cells {l g : Nat} {o o' x : Obj} (hl : w.heap[l]? = some o) (hc : o.isCells = false) (hg : w.heap[g]? = some x) (hx : x.isCells = true) : (w.putObj l o').heap[g]? = some x := by
  have hne : g ≠ l := by rintro rfl; rw [hl] at hg; cases hg; rw [hc] at hx; cases hx
  exact (World.putObj_heap_other hne).trans hg
theorem RowOk.turn {l : Nat} {o o' : Obj} (hl : w.heap[l]? = some o) (hc : o.isCells = false) (hc' : o'.isCells = false) {p : Nat → Nat → Prop} {base : Nat} {wr : Bool} {sz : Nat} {xs : List D} {v : Value} {β : Option Nat} (h : RowOk base w p wr sz xs v β) :
    RowOk base (w.putObj l o') p wr sz xs v β := by
  obtain ⟨hz, A, c, vs, rfl, h1, h3, h4, h5, h6⟩ := h
  refine ⟨hz, A, c, vs, rfl, h1, h3, fun q hq => ?_, fun i x j d hi hj => (h5 i x j d hi hj).ext (ext_putObj hl hc hc' p), ?_⟩
  · obtain ⟨ad, ha, k1, k2, k3⟩ := h4 q hq
    exact ⟨ad, ha, (putObj_cell hl hc hc' _).trans k1, k2, k3⟩
  · rcases h6 with h6 | ⟨g, cur, e, k1, k2, k3, k4, k5, k6⟩
    · exact .inl h6
    · exact .inr ⟨g, cur, e, k1, k2, k3, putObj_cells hl hc k4 rfl, k5, k6⟩
/-- The relation, where a block turns that is no cells, over whatever else is to be kept. -/
theorem Rel.turn (h : Rel w0 p0 E s a w) {l : Nat} {o o' : Obj} (hl : w.heap[l]? = some o) (hc : o.isCells = false) (hc' : o'.isCells = false) (hge : w0.heap.size ≤ l) {B : Base} (hold : ∀ b o, p0.old b o → B.old b o)
    {a' : Act} (ht : a'.tmps = a.tmps) (hm : More w0 B E.σ E.p a'.defers (w.putObj l o')) : Rel w0 B E s a' (w.putObj l o') := by
  have he := ext_putObj (o' := o') hl hc hc' E.p
  refine { more := hm, below := putObj_below h.below hge, tsz := by rw [ht]; exact h.tsz, tmps := ?_, pold := fun b o hb hp => hold _ _ (h.pold b o hb hp), pin := fun b o hb => by simpa using h.pin b o hb, boxes := ?_, bapart := h.bapart, toks := ?_, tapart := h.tapart, tbox := h.tbox }
  · intro i v u hi hu
    rw [ht] at hu
    exact RepV.ext he rfl rfl (h.tmps i v u hi hu)
  · intro q hq
    obtain ⟨g, cur, e, k1, k2, k3, k4, k5, k6⟩ := h.boxes q hq
    exact ⟨g, cur, e, k1, k2, putObj_cells hl hc k3 rfl, k4, k5, fun j x u hj hu => ⟨(k6 j x u hj hu).1, RepV.ext he rfl rfl (k6 j x u hj hu).2⟩⟩
  · intro q hq
    obtain ⟨v, k1, k2⟩ := h.toks q hq
    exact ⟨v, k1, k2.turn hl hc hc'⟩
/-- Other temporaries, another base, fewer boxes and rows. -/
theorem Rel.with (h : Rel w0 p0 E s a w) {B : Base} (hold : ∀ b o, p0.old b o → B.old b o) {a' : Act} (hm : More w0 B E.σ E.p a'.defers w) {tm : List V} (hsz : a'.tmps.size = tm.length)
    (ht : ∀ (i : Nat) (v : V) (u : Value), tm[i]? = some v → a'.tmps[i]? = some u → RepV w E v u) {bs : List (Nat × List V)} {tk : List Tok} (hb : ∀ q ∈ bs, q ∈ s.boxes) (hk : ∀ q ∈ tk, q ∈ s.toks) : Rel w0 B E ⟨tm, bs, tk⟩ a' w where
  more := hm
  below := h.below
  tsz := hsz
  tmps := ht
  pold := fun b o hb hp => hold _ _ (h.pold b o hb hp)
  pin := h.pin
  boxes := fun q hq => h.boxes q (hb q hq)
  bapart := fun q hq q' hq' => h.bapart q (hb q hq) q' (hb q' hq')
  toks := fun q hq => h.toks q (hk q hq)
  tapart := fun q hq q' hq' => h.tapart q (hk q hq) q' (hk q' hq')
  tbox := fun q hq q' hq' => h.tbox q (hk q hq) q' (hb q' hq')
/-- A temporary that is worth something in a round. -/
theorem RepV.clean {ids : List Nat} {v : V} {u : Value} {w' : World} {E' : Env} (h : RepV w E v u) (he : Ext w E.p w' E'.p) (hσ : ∀ b, ids.contains b = true → E'.σ b = E.σ b) : RepV w' E' (v.clean ids) u := by
  cases v with
  | undef => exact h
  | d x => exact Rep.ext he h
  | nil => exact h
  | own t => exact Rep.any u
  | elp t i o => exact Rep.any u
  | box b o =>
    show RepV w' E' (bif ids.contains b then .box b o else .d .any) u
    cases hb : ids.contains b with
    | false => exact Rep.any u
    | true =>
      obtain ⟨g, h1, h2⟩ := h
      exact ⟨g, (hσ b hb).trans h1, h2⟩
  | agg cs =>
    obtain ⟨vs, h1, h2, h3, h4⟩ := h
    exact ⟨vs, h1, h2, h3, fun j c v a b => (h4 j c v a b).ext he⟩
/-- Code that lays none of the boxes that stay. -/
def Free (fix : Nat → Option Nat) : Code → Prop
  | .region _ ops _ => ∀ (i : Nat) (o : Oper), ops[i]? = some o → ∀ d, lays o = some d → fix d = none
  | .seq a b => Free fix a ∧ Free fix b
  | .cond _ a b => Free fix a ∧ Free fix b
  | .block _ c => Free fix c
  | .loop c => Free fix c
  | .rangeFunc _ _ a b => (∀ d, fix d = none)
  | _ => True
theorem Free.none (c : Code) : Free (fun _ => none) c := by
  induction c with
  | region => intro i o _ d _; rfl
  | seq a b ha hb => exact ⟨ha, hb⟩
  | cond x a b ha hb => exact ⟨ha, hb⟩
  | block i c h => exact h
  | loop c h => exact h
  | rangeFunc => exact fun _ => rfl
  | _ => trivial
theorem layFree_free {ids : List Nat} {fix : Nat → Option Nat} (hf : ∀ d, ids.contains d = false → fix d = none) : ∀ {c : Code}, layFree ids c = true → Free fix c := by
  intro c
  induction c with
  | region id ops dr =>
    intro h i o ho d hd
    simp only [layFree, List.all_eq_true] at h
    have := h o (by simpa using Array.mem_of_getElem? ho)
    rw [hd] at this
    exact hf d (by simpa using this)
  | seq a b ha hb => intro h; simp only [layFree, Bool.and_eq_true] at h; exact ⟨ha h.1, hb h.2⟩
  | cond x a b ha hb => intro h; simp only [layFree, Bool.and_eq_true] at h; exact ⟨ha h.1, hb h.2⟩
  | block i c hc => intro h; exact hc h
  | loop c hc => intro h; exact hc h
  | skip => intro _; trivial
  | exit => intro _; trivial
  | ret => intro _; trivial
  | _ => intro h; cases h
/-- Code that ranges over no function. -/
def Plain : Code → Prop
  | .seq a b => Plain a ∧ Plain b
  | .cond _ a b => Plain a ∧ Plain b
  | .block _ c => Plain c
  | .loop c => Plain c
  | .rangeFunc _ _ _ _ => False
  | _ => True
theorem layFree_plain {ids : List Nat} : ∀ {c : Code}, layFree ids c = true → Plain c := by
  intro c
  induction c with
  | seq a b ha hb => intro h; simp only [layFree, Bool.and_eq_true] at h; exact ⟨ha h.1, hb h.2⟩
  | cond x a b ha hb => intro h; simp only [layFree, Bool.and_eq_true] at h; exact ⟨ha h.1, hb h.2⟩
  | block i c hc => intro h; exact hc h
  | loop c hc => intro h; exact hc h
  | rangeFunc => intro h; cases h
  | _ => intro _; trivial
end Go.Proofs.Ytcnedmkfcbcjkaa.Ra
