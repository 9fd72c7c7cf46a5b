/- WHAT THE EVALUATOR's DATA SAY OF THE MACHINE's VALUES: Rep; how long a reading lasts: Ext. -/
import Derived.Test.YtcnedmkfcbcjkaaRa0
import Derived.Below
import Derived.Laws.AppendOwn
import Derived.Laws.OwnMore
import Derived.RangeFuncOwn
import Derived.RangeFuncLeaves
set_option linter.unusedVariables false
set_option linter.unusedSimpArgs false
namespace Go.Proofs.Ytcnedmkfcbcjkaa.Ra
open Go Go.RowKit

inductive Rep (w : World) (p : Nat → Nat → Prop) : D → Value → Prop
  | any (v : Value) : Rep w p .any v
  | int (k : IntKind) (z : Int) : Rep w p (.int k z) (.int k z)
  | bool (b : Bool) : Rep w p (.bool b) (.bool b)
  | str (s : List UInt8) (ba : ByteArray) (h : ba.data.toList = s) : Rep w p (.str s) (.string ba)
  | sl (xs : List D) (A : Option Addr) (c sz : Nat) (vs : Nat → Value) (hc : xs.length ≤ c) (hs : ∀ x ∈ xs, x.cells.length = sz)
      (hm : ∀ o, o < xs.length * sz → ∃ ad, A = some ad ∧ w.cell? (ad.add o) = some (vs o) ∧ (vs o).oneCell' = true ∧ p ad.block (ad.off + o))
      (hr : ∀ (i : Nat) (x : D) (j : Nat) (d : D), xs[i]? = some x → x.cells[j]? = some d → Rep w p d (vs (i * sz + j))) : Rep w p (.sl xs) (.slice A xs.length c)
  | agg (ds : List D) (vs : Array Value) (hn : vs.size = ds.length) (h1 : ∀ (j : Nat) (v : Value), vs[j]? = some v → v.oneCell' = true) (hr : ∀ (j : Nat) (d : D) (v : Value), ds[j]? = some d → vs[j]? = some v → Rep w p d v) : Rep w p (.agg ds) (.agg vs)
  | tup (ds : List D) (vs : Array Value) (hn : vs.size = ds.length) (hr : ∀ (j : Nat) (d : D) (v : Value), ds[j]? = some d → vs[j]? = some v → Rep w p d v) : Rep w p (.tup ds) (.tuple vs)
  | ro (ds : List D) (ad : Addr) (vs : Nat → Value) (hs : ad.spot = none) (hm : ∀ o, o < ds.length → w.cell? ⟨ad.block, ad.off + o, none⟩ = some (vs o) ∧ (vs o).oneCell' = true ∧ p ad.block (ad.off + o))
      (hr : ∀ (j : Nat) (d : D), ds[j]? = some d → Rep w p d (vs j)) : Rep w p (.ro ds) (.pointer (some ad))
  | clo (g : Nat) (env : List D) (vs : Array Value) (hn : vs.size = env.length) (hr : ∀ (j : Nat) (d : D) (v : Value), env[j]? = some d → vs[j]? = some v → Rep w p d v) : Rep w p (.clo g env) (.func (.func g) #[] vs)
  | nils : Rep w p .nils (.slice none 0 0)

/-- What is kept of w is kept in w', and reads as it did. -/
def Ext (w : World) (p : Nat → Nat → Prop) (w' : World) (p' : Nat → Nat → Prop) : Prop :=
  ∀ b o, p b o → p' b o ∧ w'.cell? ⟨b, o, none⟩ = w.cell? ⟨b, o, none⟩
theorem Ext.refl (w : World) (p : Nat → Nat → Prop) : Ext w p w p := fun _ _ h => ⟨h, rfl⟩
theorem Ext.trans {w1 w2 w3 : World} {p1 p2 p3 : Nat → Nat → Prop} (h : Ext w1 p1 w2 p2) (k : Ext w2 p2 w3 p3) : Ext w1 p1 w3 p3 :=
  fun b o hp => ⟨(k b o (h b o hp).1).1, (k b o (h b o hp).1).2.trans (h b o hp).2⟩
theorem add_spot {w : World} {ad : Addr} {o : Nat} {v : Value} (h : w.cell? (ad.add o) = some v) : ad.add o = ⟨ad.block, ad.off + o, none⟩ := by
  unfold Addr.add at h ⊢
  split
  · rename_i h0
    rw [if_pos h0] at h
    have hs : ad.spot = none := by
      unfold World.cell? at h
      split at h
      · split at h
        · cases h
        · rename_i hs; simpa using hs
      · cases h
    subst h0
    cases ad; simp_all
  · rfl
theorem cell_ext {w w' : World} {p p' : Nat → Nat → Prop} (he : Ext w p w' p') {ad : Addr} {o : Nat} {v : Value} (h : w.cell? (ad.add o) = some v) (hp : p ad.block (ad.off + o)) : w'.cell? (ad.add o) = some v ∧ p' ad.block (ad.off + o) := by
  have hs := add_spot h
  rw [hs] at h ⊢
  exact ⟨(he _ _ hp).2.trans h, (he _ _ hp).1⟩
theorem Rep.ext {w w' : World} {p p' : Nat → Nat → Prop} (he : Ext w p w' p') {d : D} {v : Value} (h : Rep w p d v) : Rep w' p' d v := by
  induction h with
  | any v => exact .any v
  | int k z => exact .int k z
  | bool b => exact .bool b
  | str s ba h => exact .str s ba h
  | sl xs A c sz vs hc hs hm hr ih =>
    refine .sl xs A c sz vs hc hs (fun o ho => ?_) ih
    obtain ⟨ad, ha, h1, h2, h3⟩ := hm o ho
    obtain ⟨h4, h5⟩ := cell_ext he h1 h3
    exact ⟨ad, ha, h4, h2, h5⟩
  | agg ds vs hn h1 hr ih => exact .agg ds vs hn h1 ih
  | tup ds vs hn hr ih => exact .tup ds vs hn ih
  | ro ds ad vs hs hm hr ih =>
    refine .ro ds ad vs hs (fun o ho => ?_) ih
    obtain ⟨h1, h2, h3⟩ := hm o ho
    exact ⟨(he _ _ h3).2.trans h1, h2, (he _ _ h3).1⟩
  | clo g env vs hn hr ih => exact .clo g env vs hn ih
  | nils => exact .nils
/-- More may be kept. -/
theorem Rep.mono {w : World} {p p' : Nat → Nat → Prop} (hp : ∀ b o, p b o → p' b o) {d : D} {v : Value} (h : Rep w p d v) : Rep w p' d v :=
  h.ext fun b o hb => ⟨hp b o hb, rfl⟩

/-- What a value that may be stored holds, cell by cell. -/
theorem Rep.one {w : World} {p : Nat → Nat → Prop} {d : D} {v : Value} (h : Rep w p d v) (h1 : d.one = true) : v.oneCell' = true ∧ v.cells = #[v] ∧ d.cells = [d] := by
  cases h <;> first | (simp [D.one] at h1; done) | exact ⟨rfl, rfl, rfl⟩
theorem Rep.fit {w : World} {p : Nat → Nat → Prop} {d : D} {v : Value} (h : Rep w p d v) {sz : Nat} (h1 : d.fit sz = true) :
    v.cells.size = sz ∧ d.cells.length = sz ∧ ∀ (j : Nat) (x : D), d.cells[j]? = some x → ∃ u : Value, v.cells[j]? = some u ∧ u.oneCell' = true ∧ Rep w p x u := by
  cases h with
  | any v => simp [D.fit] at h1
  | tup ds vs hn hr => simp [D.fit] at h1
  | agg ds vs hn h2 hr =>
    simp only [D.fit, beq_iff_eq] at h1
    refine ⟨by simpa [Value.cells, h1] using hn, h1, fun j x hx => ?_⟩
    have hj : j < ds.length := by
      rcases Nat.lt_or_ge j ds.length with hj | hj
      · exact hj
      · simp [D.cells, List.getElem?_eq_none hj] at hx
    have hv : vs[j]? = some (vs[j]'(by omega)) := Array.getElem?_eq_getElem (by omega)
    exact ⟨_, hv, h2 j _ hv, hr j x _ hx hv⟩
  | int | bool | str | sl | ro | clo | nils =>
    simp only [D.fit, beq_iff_eq] at h1
    subst h1
    refine ⟨rfl, rfl, fun j x hx => ?_⟩
    cases j with
    | zero =>
      simp only [D.cells, List.getElem?_cons_zero, Option.some.injEq] at hx
      subst hx
      exact ⟨_, rfl, rfl, by constructor <;> assumption⟩
    | succ j => simp [D.cells] at hx

/-- Values one by one. -/
def Reps (w : World) (p : Nat → Nat → Prop) (ds : List D) (vs : Array Value) : Prop := vs.size = ds.length ∧ ∀ (j : Nat) (d : D) (v : Value), ds[j]? = some d → vs[j]? = some v → Rep w p d v
theorem Reps.ext {w w' : World} {p p' : Nat → Nat → Prop} (he : Ext w p w' p') {ds : List D} {vs : Array Value} (h : Reps w p ds vs) : Reps w' p' ds vs :=
  ⟨h.1, fun j d v a b => (h.2 j d v a b).ext he⟩

/-- A row of the call's own, or a slice without room behind its elements. β: its block. -/
def RowOk (base : Nat) (w : World) (p : Nat → Nat → Prop) (wr : Bool) (sz : Nat) (xs : List D) (v : Value) (β : Option Nat) : Prop :=
  0 < sz ∧ ∃ (A : Option Addr) (c : Nat) (vs : Nat → Value), v = .slice A xs.length c ∧ xs.length ≤ c ∧ (∀ x ∈ xs, x.cells.length = sz) ∧
    (∀ o, o < xs.length * sz → ∃ ad, A = some ad ∧ w.cell? (ad.add o) = some (vs o) ∧ (vs o).oneCell' = true ∧ (wr = false → p ad.block (ad.off + o))) ∧
    (∀ (i : Nat) (x : D) (j : Nat) (d : D), xs[i]? = some x → x.cells[j]? = some d → Rep w p d (vs (i * sz + j))) ∧
    ((β = none ∧ c = xs.length ∧ (wr = true → xs = [])) ∨
     ∃ g cur e, β = some g ∧ A = some ⟨g, 0, none⟩ ∧ base ≤ g ∧ w.heap[g]? = some (.cells cur e (0, 0)) ∧ cur.size = c * sz ∧ ∀ o, p g o → wr = false ∧ o < xs.length * sz)

structure Env where
  p : Nat → Nat → Prop
  σ : Nat → Option Nat
  ρ : Nat → Option (Value × Nat)
  β : Nat → Option Nat

def RepZ (w : World) (p : Nat → Nat → Prop) : Z → Value → Prop
  | .d x, v => Rep w p x v
  | .nl n, v => 0 < n ∧ v = .slice none 0 0
def RepV (w : World) (E : Env) : V → Value → Prop
  | .undef, u => u = undef
  | .d x, u => Rep w E.p x u
  | .nil, u => u = .slice none 0 0
  | .own t, u => ∃ sz, E.ρ t = some (u, sz)
  | .box b o, u => ∃ g, E.σ b = some g ∧ u = .pointer (some ⟨g, o, none⟩)
  | .elp t i o, u => ∃ ad n c sz, E.ρ t = some (.slice (some ad) n c, sz) ∧ ad.spot = none ∧ u = .pointer (some ⟨ad.block, ad.off + (i * sz + o), none⟩)
  | .agg cs, u => ∃ vs : Array Value, u = .agg vs ∧ vs.size = cs.length ∧ (∀ (j : Nat) (v : Value), vs[j]? = some v → v.oneCell' = true) ∧ ∀ (j : Nat) (c : Z) (v : Value), cs[j]? = some c → vs[j]? = some v → RepZ w E.p c v

theorem RepZ.ext {w w' : World} {p p' : Nat → Nat → Prop} (he : Ext w p w' p') {c : Z} {v : Value} (h : RepZ w p c v) : RepZ w' p' c v := by
  cases c with
  | d x => exact Rep.ext he h
  | nl n => exact h
/-- Another world, other things kept; the names stand. -/
theorem RepV.ext {w w' : World} {E E' : Env} (he : Ext w E.p w' E'.p) (hσ : E'.σ = E.σ) (hρ : E'.ρ = E.ρ) {v : V} {u : Value} (h : RepV w E v u) : RepV w' E' v u := by
  cases v with
  | undef => exact h
  | d x => exact Rep.ext he h
  | nil => exact h
  | own t => simpa only [RepV, hρ] using h
  | box b o => simpa only [RepV, hσ] using h
  | elp t i o => simpa only [RepV, hρ] using h
  | agg cs =>
    obtain ⟨vs, h1, h2, h3, h4⟩ := h
    exact ⟨vs, h1, h2, h3, fun j c v a b => (h4 j c v a b).ext he⟩

/-- What is known of the program's variables. -/
def Inv (w : World) : Prop := True
theorem Inv.below {w w' : World} (h : Inv w) (hb : Below w.heap.size w w') : Inv w' := trivial
/-- What stands fixed while code runs: what was kept before the call (old); boxes that stay where they are (fix); what has been kept since a world (kw, kp); blocks that are no cells (om). -/
structure Base where
  old : Nat → Nat → Prop
  fix : Nat → Option Nat
  kw : World
  kp : Nat → Nat → Prop
  om : Nat → Option Obj
/-- Blocks that are no cells lie as they lay. -/
def Others (w w' : World) : Prop := ∀ (k : Nat) (o : Obj), w.heap[k]? = some o → o.isCells = false → w'.heap[k]? = some o
theorem Others.refl (w : World) : Others w w := fun _ _ h _ => h
theorem Others.trans {w1 w2 w3 : World} (h : Others w1 w2) (k : Others w2 w3) : Others w1 w3 := fun b o h1 h2 => k b o (h b o h1 h2) h2
/-- A mark that a range over a function leaves. -/
def Mark (w0 w : World) (d : Deferred) : Prop := ∃ D, d = { target := .collected D, args := #[] } ∧ w0.heap.size ≤ D ∧ w.heap[D]? = some (.deferred (some []))
structure More (w0 : World) (B : Base) (σ : Nat → Option Nat) (p : Nat → Nat → Prop) (ds : List Deferred) (w : World) : Prop where
  inv : Inv w0
  marks : ∀ d ∈ ds, Mark w0 w d
  nod : ds.Nodup
  fix : ∀ b g, B.fix b = some g → σ b = some g
  kept : Ext B.kw B.kp w p
  others : ∀ (k : Nat) (o : Obj), B.om k = some o → o.isCells = false ∧ w.heap[k]? = some o
theorem More.step {w0 : World} {B : Base} {σ σ' : Nat → Option Nat} {p p' : Nat → Nat → Prop} {ds : List Deferred} {w w' : World} (h : More w0 B σ p ds w) (he : Ext w p w' p') (ho : Others w w')
    (hσ : ∀ b g, B.fix b = some g → σ b = some g → σ' b = some g) : More w0 B σ' p' ds w' :=
  ⟨h.inv, fun d hd => by obtain ⟨D, h1, h2, h3⟩ := h.marks d hd; exact ⟨D, h1, h2, ho D _ h3 rfl⟩, h.nod, fun b g hb => hσ b g hb (h.fix b g hb), h.kept.trans he,
    fun k o hk => ⟨(h.others k o hk).1, ho k o (h.others k o hk).2 (h.others k o hk).1⟩⟩
structure Rel (w0 : World) (p0 : Base) (E : Env) (s : St) (a : Act) (w : World) : Prop where
  more : More w0 p0 E.σ E.p a.defers w
  below : Below w0.heap.size w0 w
  tsz : a.tmps.size = s.tmps.length
  tmps : ∀ (i : Nat) (v : V) (u : Value), s.tmps[i]? = some v → a.tmps[i]? = some u → RepV w E v u
  pold : ∀ b o, b < w0.heap.size → E.p b o → p0.old b o
  pin : ∀ b o, E.p b o → b < w.heap.size
  boxes : ∀ q ∈ s.boxes, ∃ g cur e, E.σ q.1 = some g ∧ w0.heap.size ≤ g ∧ w.heap[g]? = some (.cells cur e (0, 0)) ∧ cur.size = q.2.length ∧ (∀ o, ¬ E.p g o) ∧
    ∀ (j : Nat) (x : V) (u : Value), q.2[j]? = some x → cur[j]? = some u → u.oneCell' = true ∧ RepV w E x u
  bapart : ∀ q ∈ s.boxes, ∀ q' ∈ s.boxes, q.1 ≠ q'.1 → E.σ q.1 ≠ E.σ q'.1
  toks : ∀ q ∈ s.toks, ∃ v, E.ρ q.id = some (v, q.sz) ∧ RowOk w0.heap.size w E.p q.wr q.sz q.xs v (E.β q.id)
  tapart : ∀ q ∈ s.toks, ∀ q' ∈ s.toks, q.id ≠ q'.id → ∀ g, E.β q.id = some g → E.β q'.id ≠ some g
  tbox : ∀ q ∈ s.toks, ∀ q' ∈ s.boxes, ∀ g, E.β q.id = some g → E.σ q'.1 ≠ some g
theorem Rel.size {w0 : World} {p0 : Base} {E : Env} {s : St} {a : Act} {w : World} (h : Rel w0 p0 E s a w) : w0.heap.size ≤ w.heap.size := h.below.size
theorem Rel.inv {w0 : World} {p0 : Base} {E : Env} {s : St} {a : Act} {w : World} (h : Rel w0 p0 E s a w) : Inv w := h.more.inv.below h.below
end Go.Proofs.Ytcnedmkfcbcjkaa.Ra
