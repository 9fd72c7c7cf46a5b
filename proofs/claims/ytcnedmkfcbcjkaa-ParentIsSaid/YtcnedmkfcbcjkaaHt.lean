/- slices.Sorted and thin: numbers in order, each once. -/
import Derived.Test.YtcnedmkfcbcjkaaHl
import Derived.Test.YtcnedmkfcbcjkaaHm
import Derived.Test.YtcnedmkfcbcjkaaRgc
import Derived.WalkKit
import Derived.Deep.LoopGhost
import Derived.Sort.EveryDepth
set_option linter.unusedVariables false
set_option linter.unusedSimpArgs false
namespace Go.Proofs.Ytcnedmkfcbcjkaa.Ra
open Go Go.RowKit Go.Shelf Go.Lib Go.Sort Go.Proofs.Try
set_option linter.unusedVariables false
theorem rowInts {base : Nat} {w : World} {p : Nat → Nat → Prop} {zs : List Int} {v : Value} {β : Option Nat} (h : RowOk base w p true 1 (zs.map iD) v β) :
    (zs = [] ∧ ∃ A c, v = .slice A 0 c) ∨ ∃ (g c : Nat) (cur : Array Value) (e : TypeId), v = .slice (some ⟨g, 0, none⟩) zs.length c ∧ base ≤ g ∧ β = some g ∧ w.heap[g]? = some (.cells cur e (0, 0)) ∧ cur.size = c ∧ zs.length ≤ c ∧ ∀ j, j < zs.length → cur[j]? = some (.int .i64 zs[j]!) := by
  obtain ⟨_, A, c, vs, rfl, h1, h3, h4, h5, h6⟩ := h
  simp only [List.length_map] at *
  rcases h6 with ⟨_, _, k⟩ | ⟨g, cur, e, kβ, kA, k1, k2, k3, k4⟩
  · have : zs = [] := by simpa using k trivial
    subst this
    exact .inl ⟨rfl, A, c, rfl⟩
  · subst kA
    refine .inr ⟨g, c, cur, e, rfl, k1, kβ, k2, by simpa using k3, h1, fun j hj => ?_⟩
    obtain ⟨ad, e1, k5, _, _⟩ := h4 j (by omega)
    cases e1
    have hx : (zs.map iD)[j]? = some (iD zs[j]!) := by simp [hj, getElem!_pos]
    have hv := rep_int (h5 j _ 0 _ hx rfl)
    simp only [Nat.mul_one, Nat.add_zero] at hv
    rw [Addr.add_lit, Nat.zero_add, hv] at k5
    simpa [World.cell?, k2] using k5
theorem rowInts_mk {base : Nat} {w : World} {p : Nat → Nat → Prop} {zs : List Int} {g c : Nat} {cur : Array Value} {e : TypeId} (hg : w.heap[g]? = some (.cells cur e (0, 0))) (hc : cur.size = c) (hl : zs.length ≤ c)
    (hj : ∀ j, j < zs.length → cur[j]? = some (.int .i64 zs[j]!)) (hb : base ≤ g) (hp : ∀ o, ¬ p g o) : RowOk base w p true 1 (zs.map iD) (.slice (some ⟨g, 0, none⟩) zs.length c) (some g) := by
  refine ⟨by decide, some ⟨g, 0, none⟩, c, fun j => .int .i64 zs[j]!, by simp, by simpa using hl, fun x hx => ?_, fun o ho => ?_, fun i x j d hi hjj => ?_, .inr ⟨g, cur, e, rfl, rfl, hb, hg, by simpa using hc, fun o ho => absurd ho (hp o)⟩⟩
  · obtain ⟨z, _, rfl⟩ := List.mem_map.1 hx; rfl
  · refine ⟨_, rfl, ?_, rfl, by simp⟩
    have ho : o < zs.length := by simpa using ho
    rw [Addr.add_lit, Nat.zero_add]
    simpa [World.cell?, hg] using hj o ho
  · simp only [List.getElem?_map, Option.map_eq_some_iff] at hi
    obtain ⟨z, hz, rfl⟩ := hi
    cases j with
    | succ j => cases hjj
    | zero =>
      cases hjj
      obtain ⟨h1, h2⟩ := List.getElem?_eq_some_iff.1 hz
      have : zs[i * 1 + 0]! = z := by simp [getElem!_pos, h1, h2]
      show Rep w p (iD z) (.int .i64 zs[i * 1 + 0]!)
      rw [this]
      exact .int _ _
theorem row_nil {base base' : Nat} (hbb : base' ≤ base) {w : World} {p : Nat → Nat → Prop} {v : Value} {β : Option Nat} (h : RowOk base w p true 1 (([] : List Int).map iD) v β) {w' : World} {p' : Nat → Nat → Prop} (hw : ∀ g, β = some g → w'.heap[g]? = w.heap[g]?) (hp : ∀ g o, base ≤ g → β = some g → ¬ p' g o) : RowOk base' w' p' true 1 (([] : List Int).map iD) v β := by
  obtain ⟨a, A, c, vs, rfl, h1, h3, h4, h5, h6⟩ := h
  refine ⟨a, A, c, vs, rfl, h1, h3, by simp, by simp, ?_⟩
  rcases h6 with h | ⟨g, cur, e, kβ, kA, k1, k2, k3, k4⟩
  · exact .inl h
  · exact .inr ⟨g, cur, e, kβ, kA, Nat.le_trans hbb k1, (hw g kβ).trans k2, k3, fun o ho => absurd ho (hp g o k1 kβ)⟩
theorem holds_cells {w : World} {g : Nat} {cur : Array Value} {e : TypeId} {zs : List Int} (hg : w.heap[g]? = some (.cells cur e (0, 0))) (hj : ∀ j, j < zs.length → cur[j]? = some (.int .i64 zs[j]!)) : Holds (Value.int .i64) w g 0 zs.toArray := by
  intro j hj'
  have hj' : j < zs.length := by simpa using hj'
  refine ⟨?_, by simp [World.frozen?, hg]⟩
  have := hj j hj'
  simpa [World.cell?, hg, getElem!_pos, hj'] using this
theorem heap_putRow {w : World} {g q : Nat} {cur : Array Value} {e : TypeId} (ys : List Int) (hg : w.heap[g]? = some (.cells cur e (0, 0))) : (putRow (Value.int .i64) (Sort.ahead w q) g 0 ys.toArray).heap[g]? = some (.cells (putCells (Value.int .i64) 0 ys.toArray cur) e (0, 0)) := by
  simp [putRow, mapBlock, Sort.ahead, Array.getElem?_modify, hg, onCells]
theorem cells_putCells {cur : Array Value} (ys : List Int) {j : Nat} (hj : j < ys.length) (hc : j < cur.size) : (putCells (Value.int .i64) 0 ys.toArray cur)[j]? = some (.int .i64 ys[j]!) := by
  simp only [putCells, Array.getElem?_mapIdx, Array.getElem?_eq_getElem hc, Option.map_some]
  rw [if_pos (by simp; omega)]
  simp [getElem!_pos, hj]
theorem below_grow {B : Nat} {w0 w : World} (os : Array Obj) (h : Below B w0 w) (hB : B ≤ w.heap.size) : Below B w0 (grow w os) :=
  ⟨h.os, h.tape, h.output, by simp [grow]; have := h.size; omega, fun k hk => by
    rw [← h.block k hk]
    simp only [grow]
    rw [Array.getElem?_append_left (by omega)]⟩
theorem heap_grow {w : World} (os : Array Obj) {g : Nat} {x : Obj} (h : w.heap[g]? = some x) : (grow w os).heap[g]? = some x := by
  have : g < w.heap.size := by
    rcases Nat.lt_or_ge g w.heap.size with h' | h'
    · exact h'
    · rw [Array.getElem?_eq_none h'] at h; cases h
  simp only [grow]
  rw [Array.getElem?_append_left this, h]
/-- What a call hands back that makes a row of numbers. -/
def Made (w : World) (p : Nat → Nat → Prop) (zs : List Int) (e : Ending) (w' : World) : Prop :=
  ∃ v β, e = .returned v ∧ Below w.heap.size w w' ∧ RowOk w.heap.size w' (fun b o => p b o ∨ w.heap.size ≤ b ∧ b < w'.heap.size ∧ β ≠ some b) true 1 (zs.map iD) v β
set_option maxRecDepth 100000 in
set_option maxHeartbeats 2000000 in
theorem sorted_walk (v : Value) (zs : List Int) (hn : zs.length ≤ 4194304) (w : World) (p : Nat → Nat → Prop) (hp : ∀ b o, p b o → b < w.heap.size) (hcol : Calls Try.prog 118 #[v] w (Made w p zs)) :
    Calls Try.prog 95 #[v] w (Made w p (zs.mergeSort fun x y => decide (x ≤ y))) := by
  go_enter Try.func95, Try.ntmps95
  go_wp2_with (go_at_call 118; refine hcol.mono ?_)
  rintro e w1 ⟨v1, β, rfl, hb1, hR1⟩
  rcases rowInts hR1 with ⟨rfl, A, c, rfl⟩ | ⟨g, c, cur, e, rfl, k1, rfl, k2, k3, k4, k5⟩
  · have hs := Any.slices_Sort_int_none laysSort A c w1
    change Calls Try.prog 119 _ _ _ at hs
    go_wp2_with (go_at_call 119; refine hs.mono ?_; rintro e w2 ⟨rfl, rfl⟩)
    go_ret
    exact ⟨_, β, rfl, hb1, by simpa using hR1⟩
  · have hg : g < w1.heap.size := by
      rcases Nat.lt_or_ge g w1.heap.size with h' | h'
      · exact h'
      · rw [Array.getElem?_eq_none h'] at k2; cases k2
    have hs := Any.slices_Sort_int laysSort g 0 c zs w1 (holds_cells k2 k5) hg (by omega)
    change Calls Try.prog 119 _ _ _ at hs
    go_wp2_with (go_at_call 119; refine hs.mono ?_; rintro e w2 ⟨rfl, q, os, rfl⟩)
    go_ret
    have hbp := below_putRow (enc := Value.int .i64) (q := q) (d := (zs.mergeSort fun x y => decide (x ≤ y)).toArray) hb1 k1
    have hl : (zs.mergeSort fun x y => decide (x ≤ y)).length = zs.length := List.length_mergeSort zs
    refine ⟨_, some g, rfl, below_grow os hbp (by simpa [Sort.ahead] using hb1.size), ?_⟩
    rw [← hl]
    refine rowInts_mk (heap_grow os (heap_putRow _ k2)) (by simpa [putCells] using k3) (by omega) (fun j hj => cells_putCells _ hj (by omega)) k1 fun o ho => ?_
    rcases ho with h | ⟨_, _, h⟩
    · have := hp _ _ h; omega
    · exact h rfl
set_option maxRecDepth 100000 in
set_option maxHeartbeats 2000000 in
theorem thin_walk (u : Value) (zs : List Int) (hn : zs.length ≤ 4194304) (w : World) (p : Nat → Nat → Prop) (hp : ∀ b o, p b o → b < w.heap.size) (Q : World → Value → Prop)
    (hval : Calls Try.prog 96 #[u] w fun e w' => ∃ v, e = .returned v ∧ Below w.heap.size w w' ∧ Q w' v)
    (hcol : ∀ w0 v, Q w0 v → Below w.heap.size w w0 → Calls Try.prog 118 #[v] w0 (Made w0 (fun b o => p b o ∨ w.heap.size ≤ b ∧ b < w0.heap.size) zs)) :
    Calls Try.prog 60 #[u] w (Made w p (Pl.thin zs)) := by
  go_enter Try.func60, Try.ntmps60
  go_wp2_with (go_at_call 96; refine hval.mono ?_)
  rintro e w0 ⟨v, rfl, hb0, hQ⟩
  have hp1 : ∀ b o, (p b o ∨ w.heap.size ≤ b ∧ b < w0.heap.size) → b < w0.heap.size := fun b o h => h.elim (fun h => Nat.lt_of_lt_of_le (hp b o h) hb0.size) fun h => h.2
  have hpp : ∀ b o, p b o → (p b o ∨ w.heap.size ≤ b ∧ b < w0.heap.size) := fun b o h => .inl h
  have hsorted := sorted_walk v zs hn w0 _ hp1 (hcol w0 v hQ hb0)
  go_wp2_with (go_at_call 95; refine hsorted.mono ?_)
  rintro e w1 ⟨v1, β, rfl, hb1, hR1⟩
  have hbw : Below w.heap.size w w1 := hb0.trans ⟨hb1.os, hb1.tape, hb1.output, hb1.size, fun k hk => hb1.block k (Nat.lt_of_lt_of_le hk hb0.size)⟩
  have hl : (zs.mergeSort fun x y => decide (x ≤ y)).length = zs.length := List.length_mergeSort zs
  generalize hys : (zs.mergeSort fun x y => decide (x ≤ y)) = ys at hR1 hl
  have hth : Pl.thin zs = Pl.compact ys := by unfold Pl.thin; rw [hys]
  rcases rowInts hR1 with ⟨rfl, A, c, rfl⟩ | ⟨g, c, cur, e, rfl, k1, rfl, k2, k3, k4, k5⟩
  · have hs := Any.slices_Compact_int_empty laysCompact A c w1
    change Calls Try.prog 94 _ _ _ at hs
    go_wp2_with (go_at_call 94; refine hs.mono ?_; rintro e w2 ⟨rfl, rfl⟩)
    go_ret
    rw [hth]
    refine ⟨_, β, rfl, hbw, row_nil hb0.size hR1 (fun _ _ => rfl) fun g o hgb hβ h => ?_⟩
    rcases h with h | ⟨_, _, h⟩
    · have := hp1 _ _ (hpp _ _ h); omega
    · exact h hβ
  · have hs := Any.slices_Compact_int laysCompact g 0 c ys w1 (holds_cells k2 k5) (by omega) (by omega)
    change Calls Try.prog 94 _ _ _ at hs
    rw [compact_eq, hl] at hs
    go_wp2_with (go_at_call 94; refine hs.mono ?_; rintro e w2 ⟨rfl, q, rfl⟩)
    go_ret
    rw [hth]
    have hle : (Pl.compact ys).length ≤ zs.length := by rw [← compact_eq, ← hl]; exact Lib.compact_length_le ys
    refine ⟨_, some g, rfl, below_putRow hbw (Nat.le_trans hb0.size k1), rowInts_mk (heap_putRow _ k2) (by simpa [putCells] using k3) (by omega) (fun j hj => ?_) (Nat.le_trans hb0.size k1) fun o ho => ?_⟩
    · rw [cells_putCells _ (by simp; omega) (by omega)]
      simp [getElem!_pos, hj, List.getElem_append_left, show j < (Pl.compact ys).length + (zs.length - (Pl.compact ys).length) by omega]
    · rcases ho with h | ⟨_, _, h⟩
      · have := hp1 _ _ (hpp _ _ h); omega
      · exact h rfl
theorem values_int (zs : List Int) (h : zs.length ≤ 4194304) : F_slices_Values_int_1 [.ro [.sl (zs.map iD)]] = some (zs.map fun z => [iD z]) := by
  simp only [F_slices_Values_int_1, ints_one, Bool.true_and, List.length_map, List.map_map]
  rw [decide_eq_true (by omega)]
  rfl
theorem append_loop (x0 : List D) : ∀ (zs : List Int) (v : List D), v.length + zs.length ≤ 4194304 → G_slices_AppendSeq_int_r1 (zs.map fun z => [iD z]) x0 v = some (v ++ zs.map iD)
  | [], v, _ => by rw [List.map_nil, G_slices_AppendSeq_int_r1_nil]; simp
  | z :: zs, v, h => by
    simp only [List.length_cons] at h
    rw [List.map_cons, G_slices_AppendSeq_int_r1_cons]
    have h1 : decide ((v.length + [iD z].length) * 8 ≤ 140737488355328) = true := by simp; omega
    rw [h1]
    simp only [List.all_cons, List.all_nil, D.cells, Bool.and_true, cond_true, List.length_cons, List.length_nil, beq_self_eq_true]
    rw [append_loop x0 zs (v ++ [iD z]) (by simp; omega)]
    simp
theorem F_append (zs : List Int) (h : zs.length ≤ 4194304) : F_slices_AppendSeq_int [.nils, .clo 120 [.ro [.sl (zs.map iD)]]] = some (zs.map iD) := by
  have e : F_slices_AppendSeq_int [.nils, .clo 120 [.ro [.sl (zs.map iD)]]] = (F_slices_Values_int_1 [.ro [.sl (zs.map iD)]]).bind fun items => G_slices_AppendSeq_int_r1 items (zs.map iD) [] := (F_slices_AppendSeq_int_eq (zs.map iD)).trans (by kernel_rfl)
  rw [e, values_int zs h, Option.bind_some, append_loop _ _ _ (by simpa using h)]
  rfl
theorem F_collect (zs : List Int) (h : zs.length ≤ 4194304) : F_slices_Collect_int [.clo 120 [.ro [.sl (zs.map iD)]]] = some (zs.map iD) := by
  rw [F_slices_Collect_int_eq, F_append zs h]; rfl
def F_parent_thin_int : List D → Option (List D)
  | [.sl xs] => (ints? xs).bind fun zs => bif decide (zs.length ≤ 4194304) then some ((Pl.thin zs).map iD) else none
  | _ => none
theorem ok_parent_thin_int : OkOwn Try.prog 60 1 F_parent_thin_int := by
  refine ⟨enters_of Try.func60 (by kernel_rfl) rfl, fun w p ds vs xs hi hF hr hp => ?_⟩
  match ds, hF, hr with
  | [.sl ys], hF, hr =>
    simp only [F_parent_thin_int, Option.bind_eq_some_iff] at hF
    obtain ⟨zs, hz, hF⟩ := hF
    cases hb : decide (zs.length ≤ 4194304) with
    | false => rw [hb] at hF; cases hF
    | true =>
      rw [hb] at hF
      cases hF
      have hb := of_decide_eq_true hb
      obtain rfl := ints?_some hz
      match vs, hr with
      | ⟨[u]⟩, hr =>
        refine thin_walk u zs hb w p hp (fun w0 v => Inv w0 ∧ Rep w0 (fun b o => p b o ∨ w.heap.size ≤ b ∧ b < w0.heap.size) (.clo 120 [.ro [.sl (zs.map iD)]]) v) ?_ ?_
        · refine (ok_slices_Values_int.2 w p [.sl (zs.map iD)] #[u] _ hi (F_slices_Values_int_eq _) hr hp).mono ?_
          rintro e w' ⟨v, rfl, hbl, hv⟩
          exact ⟨v, rfl, hbl, hi.below hbl, hv⟩
        · rintro w0 v ⟨hi0, hv⟩ hb0
          refine ok_slices_Collect_int.2 w0 _ [.clo 120 [.ro [.sl (zs.map iD)]]] #[v] _ hi0 (F_collect zs hb) ⟨rfl, fun j d u' hj hu => ?_⟩ fun b o h => h.elim (fun h => Nat.lt_of_lt_of_le (hp b o h) hb0.size) fun h => h.2
          cases j with
          | succ j => simp at hj
          | zero => cases hj; cases hu; exact hv
end Go.Proofs.Ytcnedmkfcbcjkaa.Ra
