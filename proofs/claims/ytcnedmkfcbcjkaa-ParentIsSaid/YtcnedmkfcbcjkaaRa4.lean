/- WHAT AN OPERATION THAT TURNS NOTHING GIVES: the evaluator's answer is the machine's. -/
import Derived.Test.YtcnedmkfcbcjkaaRa3
import Derived.Laws.Cells
import Derived.Shelf.Abstract
set_option linter.unusedVariables false
set_option linter.unusedSimpArgs false
namespace Go.Proofs.Ytcnedmkfcbcjkaa.Ra
open Go Go.RowKit
set_option linter.unusedVariables false
set_option linter.unusedSimpArgs false
variable {w0 : World} {p0 : Base} {E : Env} {s : St} {a : Act} {w : World} {P : Program}

/-- What a call of a function hands back: data that are what F says. -/
def OkPure (P : Program) (f : Nat) (F : List D → Option D) : Prop :=
  Enters P f ∧ ∀ (w : World) (p : Nat → Nat → Prop) (ds : List D) (vs : Array Value) (r : D), Inv w → F ds = some r → Reps w p ds vs → (∀ b o, p b o → b < w.heap.size) →
    Calls P f vs w fun e w' => ∃ v, e = .returned v ∧ Below w.heap.size w w' ∧ Rep w' (fun b o => p b o ∨ w.heap.size ≤ b ∧ b < w'.heap.size) r v
/-- .. a new row. -/
def OkOwn (P : Program) (f : Nat) (sz : Nat) (F : List D → Option (List D)) : Prop :=
  Enters P f ∧ ∀ (w : World) (p : Nat → Nat → Prop) (ds : List D) (vs : Array Value) (xs : List D), Inv w → F ds = some xs → Reps w p ds vs → (∀ b o, p b o → b < w.heap.size) →
    Calls P f vs w fun e w' => ∃ v β, e = .returned v ∧ Below w.heap.size w w' ∧ RowOk w.heap.size w' (fun b o => p b o ∨ w.heap.size ≤ b ∧ b < w'.heap.size ∧ β ≠ some b) true sz xs v β
/-- .. a closure that hands on things: whatever the rounds keep, they come one by one, in order; a round may say 'no more'. -/
def OkSeq (P : Program) (f : Nat) (F : List D → Option (List (List D))) : Prop :=
  Enters P f ∧ ∀ (w : World) (p : Nat → Nat → Prop) (ds : List D) (vs : Array Value) (items : List (List D)), Inv w → F ds = some items → Reps w p ds vs → (∀ b o, p b o → b < w.heap.size) →
    ∃ encs : Nat → Array Value, (∀ k item, items[k]? = some item → Reps w p item (encs k)) ∧
    ∀ (l : Nat) (J Jx : Nat → World → Prop) (W0 : World), Ext w p W0 p → w.heap.size ≤ W0.heap.size → Inv W0 →
      (∀ k W W', J k W → Below W.heap.size W W' → J k W') → (∀ k W W', Jx k W → Below W.heap.size W W' → Jx k W') →
      (∀ k W, J k W → k < items.length → YieldAt Fence.wide 0 P l (encs k) W fun e W' => (e = .returned (.bool true) ∧ J (k + 1) W' ∧ Ext W p W' p) ∨ (e = .returned (.bool false) ∧ Jx (k + 1) W')) →
      J 0 W0 → Calls P f (#[.func (.yield l) #[] #[]] ++ vs) W0 fun e W' => (∃ v, e = .returned v) ∧ (J items.length W' ∨ ∃ k, k ≤ items.length ∧ Jx k W')
def COk (P : Program) (C : CT) : Prop := ∀ f e, C f = some e → match e with
  | .pure F => OkPure P f F
  | .own sz F => OkOwn P f sz F
  | .nown sz F => OkOwn P f sz F
  | .seq F => OkSeq P f F

theorem shareRow {p : Nat → Nat → Prop} {base : Nat} {sz : Nat} {xs : List D} {v : Value} {β : Option Nat} (h : RowOk base w p true sz xs v β) :
    Rep w (fun b o => p b o ∨ β = some b ∧ o < xs.length * sz) (.sl xs) v := by
  obtain ⟨_, A, c, vs, rfl, h1, h3, h4, h5, h6⟩ := h
  refine .sl xs A c sz vs h1 h3 (fun o ho => ?_) fun i x j d hi hj => (h5 i x j d hi hj).mono fun b o h => .inl h
  obtain ⟨ad, k1, k2, k3, k4⟩ := h4 o ho
  refine ⟨ad, k1, k2, k3, ?_⟩
  rcases h6 with ⟨_, _, k⟩ | ⟨g, cur, e, kβ, kA, _⟩
  · rw [k rfl] at ho; simp at ho
  · rw [k1] at kA
    cases kA
    exact .inr ⟨kβ, by simpa using ho⟩

theorem range_get {n j k : Nat} (h : (List.range n)[j]? = some k) : k = j ∧ j < n := by
  obtain ⟨h1, h2⟩ := List.getElem?_eq_some_iff.1 h
  simp only [List.getElem_range] at h2
  exact ⟨h2.symm, by simpa using h1⟩
/-- Cells that lie one behind the other, read as a struct or as one. -/
theorem run_loadVar {t : Nat} {i : TI} (hi : TIok P t i) {ad : Addr} (hs : ad.spot = none) {ds : List D} {vs : Nat → Value} {p : Nat → Nat → Prop}
    (hm : ∀ o, o < ds.length → w.cell? ⟨ad.block, ad.off + o, none⟩ = some (vs o) ∧ (vs o).oneCell' = true) (hr : ∀ j d, ds[j]? = some d → Rep w p d (vs j))
    {y : D} (hy : D.ofCells i.kind.agg i.size ds = some y) : ∃ u, (loadVar t ad).run P w = .ok u w ∧ Rep w p y u := by
  have hadd : ∀ o, ad.add o = ⟨ad.block, ad.off + o, none⟩ := by
    intro o
    unfold Addr.add
    split
    · rename_i h0; subst h0; cases ad; simp_all
    · rfl
  unfold D.ofCells at hy
  cases hk : i.kind.agg with
  | true =>
    rw [hk] at hy
    simp only [cond_true] at hy
    split at hy
    · rename_i hn
      cases hy
      refine ⟨.agg ((List.range i.size).map vs).toArray, ?_, ?_⟩
      · simp only [loadVar, Sem.run_bind, hi.run_isAgg, hk, Result.andThen_ok, if_true, hi.run_sizeOf]
        rw [run_loadCells w ad i.size vs (fun j hj => by rw [hadd]; exact (hm j (by omega)).1)]
        rfl
      · refine .agg _ _ (by simp; omega) (fun j v hv => ?_) fun j d v hd hv => ?_
        · simp only [List.getElem?_toArray, List.getElem?_map, Option.map_eq_some_iff] at hv
          obtain ⟨_, hv, rfl⟩ := hv
          obtain ⟨rfl, hj⟩ := range_get hv
          exact (hm _ (by omega)).2
        · simp only [List.getElem?_toArray, List.getElem?_map, Option.map_eq_some_iff] at hv
          obtain ⟨_, hv, rfl⟩ := hv
          obtain ⟨rfl, hj⟩ := range_get hv
          refine hr _ d ?_
          rw [List.getElem?_take, if_pos hj] at hd
          exact hd
    · cases hy
  | false =>
    rw [hk] at hy
    simp only [cond_false] at hy
    have h0 : 0 < ds.length := (List.getElem?_eq_some_iff.1 hy).1
    refine ⟨vs 0, ?_, hr 0 y hy⟩
    have hc := (hm 0 h0).1
    have ha : (⟨ad.block, ad.off + 0, none⟩ : Addr) = ad := by cases ad; simp_all
    rw [ha] at hc
    simp [loadVar, hi.run_isAgg, hk, hc]
end Go.Proofs.Ytcnedmkfcbcjkaa.Ra
