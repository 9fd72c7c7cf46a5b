/- Cut: what is not named, in its order. -/
import Derived.Test.YtcnedmkfcbcjkaaHt
import Derived.Test.YtcnedmkfcbcjkaaRgd
set_option linter.unusedVariables false
set_option linter.unusedSimpArgs false
namespace Go.Proofs.Ytcnedmkfcbcjkaa.Ra
open Go Go.RowKit Go.Shelf Go.Lib Go.Sort Go.Proofs.Try
set_option linter.unusedVariables false
/-- A list of numbers lies there. -/
def Lies (W : World) (js : List Int) (v : Value) : Prop := ∃ A c, v = .slice A js.length c ∧ (0 < js.length → ∃ b off, A = some ⟨b, off, none⟩ ∧ ∀ j, j < js.length → W.cell? ⟨b, off + j, none⟩ = some (.int .i64 (js.getD j 0)))
set_option maxRecDepth 100000 in
set_option maxHeartbeats 2000000 in
theorem cut_gives (js : List Int) (hn : js.length ≤ 4194304) (x : Int) (B0 : Nat) (v : Value) (W : World) (hB : W.cell? ⟨B0, 0, none⟩ = some v) (hL : Lies W js v) :
    FnGives Try.prog 69 #[.pointer (some ⟨B0, 0, none⟩)] #[.int .i64 x] (.bool (js.contains x)) W := by
  show Calls Try.prog 69 #[.int .i64 x, .pointer (some ⟨B0, 0, none⟩)] W _
  obtain ⟨A, c, rfl, hc⟩ := hL
  have hcon : Calls Try.prog 70 #[.slice A js.length c, .int .i64 x] W fun e w' => e = .returned (.bool (js.contains x)) ∧ w' = W := by
    by_cases h0 : 0 < js.length
    · obtain ⟨b, off, rfl, hcc⟩ := hc h0
      have := Any.slices_Contains_int laysContains b off js.length c js x W (Nat.le_refl _) (by omega) hcc
      rw [List.take_length] at this
      exact this
    · obtain rfl : js = [] := List.length_eq_zero_iff.1 (by omega)
      exact Any.slices_Contains_int_empty laysContains A c x W
  generalize js.contains x = bb at hcon ⊢
  go_enter Try.func69, Try.ntmps69
  go_wp2_with (go_at_call 70; refine hcon.mono ?_; rintro e w2 ⟨rfl, rfl⟩)
  go_ret
  exact ⟨rfl, 0, rfl⟩
theorem Lies.mono {W W' : World} {js : List Int} {v : Value} (h : Lies W js v) (hk : ∀ b off, (∃ c n, v = .slice (some ⟨b, off, none⟩) n c) → 0 < js.length → ∀ j, j < js.length → W'.cell? ⟨b, off + j, none⟩ = W.cell? ⟨b, off + j, none⟩) : Lies W' js v := by
  obtain ⟨A, c, rfl, hc⟩ := h
  refine ⟨A, c, rfl, fun h0 => ?_⟩
  obtain ⟨b, off, rfl, hcc⟩ := hc h0
  exact ⟨b, off, rfl, fun j hj => (hk b off ⟨c, _, rfl⟩ h0 j hj).trans (hcc j hj)⟩
theorem lies_of_rep {w : World} {p : Nat → Nat → Prop} {js : List Int} {v : Value} (h : Rep w p (isD js) v) : Lies w js v ∧ ∀ b off, (∃ c n, v = .slice (some ⟨b, off, none⟩) n c) → 0 < js.length → ∀ j, j < js.length → p b (off + j) := by
  obtain ⟨A, c, vs, rfl, h1, h2, h3⟩ := sl_slice h (ints_one js)
  simp only [List.length_map] at *
  refine ⟨⟨A, c, rfl, fun h0 => ?_⟩, fun b off ⟨c', n', e⟩ h0 j hj => ?_⟩
  · obtain ⟨b, off, rfl, hcc⟩ := h3 h0
    refine ⟨b, off, rfl, fun j hj => ?_⟩
    rw [(hcc j hj).1, rep_int (h2 j (iD (js.getD j 0)) (by simp [hj, List.getD_eq_getElem?_getD]))]
  · obtain ⟨b', off', e', hcc⟩ := h3 h0
    cases e
    cases e'
    exact (hcc j hj).2.2
set_option maxRecDepth 100000 in
set_option maxHeartbeats 2000000 in
theorem delete_none (A : Option Addr) (c : Nat) (fv : Value) (w : World) (hi : Inv w) : Calls Try.prog 68 #[.slice A 0 c, fv] w fun e w' => e = .returned (.slice A 0 c) ∧ Below w.heap.size w w' := by
  have hix : Calls Try.prog 93 #[.slice A 0 c, fv] w fun e w' => e = .returned (.int .i64 (-1)) ∧ Below w.heap.size w w' := by
    refine (ok_IndexFunc_none.2 w (fun _ _ => False) [.sl [], .any] #[.slice A 0 c, fv] (iD (-1)) hi (F_IndexFunc_none_eq.trans G_IndexFunc_none_0_eq) ⟨rfl, fun j d v hj hv => ?_⟩ (by simp)).mono ?_
    · match j, hj, hv with
      | 0, hj, hv => cases hj; cases hv; exact .sl [] A c 1 (fun _ => .bool true) (Nat.zero_le _) (by simp) (by simp) (by simp)
      | 1, hj, hv => cases hj; exact .any _
    · rintro e w' ⟨v, rfl, hb, hr⟩
      exact ⟨by rw [rep_int hr], hb⟩
  go_enter Try.func68, Try.ntmps68
  go_wp2_with (go_at_call 93; refine hix.mono ?_)
  rintro e w1 ⟨rfl, hb⟩
  go_wp2
  go_ret
  exact ⟨rfl, hb⟩
set_option maxRecDepth 100000 in
set_option maxHeartbeats 2000000 in
theorem cut_walk (l i : Value) (zs js : List Int) (hz : zs.length ≤ 4194304) (hj : js.length ≤ 4194304) (w : World) (p : Nat → Nat → Prop) (hp : ∀ b o, p b o → b < w.heap.size) (hi : Inv w) (hl : Rep w p (isD zs) l) (hr : Rep w p (isD js) i) :
    Calls Try.prog 34 #[l, i] w (Made w p (Pl.cut zs js)) := by
  obtain ⟨hLi, hPi⟩ := lies_of_rep hr
  obtain ⟨Ai, ci, ei⟩ : ∃ A c, i = .slice A js.length c := by obtain ⟨A, c, e, _⟩ := hLi; exact ⟨A, c, e⟩
  have hbel1 : Below w.heap.size w (w.alloc (.cells #[i] 23)) := (Below.refl _ w).alloc (Nat.le_refl _) _
  have hcl : Calls Try.prog 67 #[l] (w.alloc (.cells #[i] 23)) (Made (w.alloc (.cells #[i] 23)) p zs) := by
    refine ok_slices_Clone_int.2 _ p [isD zs] #[l] (zs.map iD) (hi.below hbel1) ?_ ⟨rfl, fun j d v hj hv => ?_⟩ fun b o h => Nat.lt_of_lt_of_le (hp b o h) hbel1.size
    · simp only [F_slices_Clone_int, F_clone, ints_one, List.length_map, decide_eq_true hz, Bool.and_self, cond_true]
    · cases j with
      | succ j => simp at hj
      | zero => cases hj; cases hv; exact hl.ext (ext_below hbel1 hp fun _ _ h => h)
  go_enter Try.func34, Try.ntmps34
  subst ei
  go_wp2_with (go_at_call 67; refine hcl.mono ?_)
  rintro e w2 ⟨v2, β, rfl, hb2, hR2⟩
  have hcw : (w.alloc (.cells #[.slice Ai js.length ci] 23)).cell? ⟨w.heap.size, 0, none⟩ = some (.slice Ai js.length ci) := by simp
  have hs1 : (w.alloc (.cells #[.slice Ai js.length ci] 23)).heap.size = w.heap.size + 1 := Array.size_push ..
  have hL1 : Lies (w.alloc (.cells #[.slice Ai js.length ci] 23)) js (.slice Ai js.length ci) := hLi.mono fun b off e h0 j hj' => World.cell?_of_block (hbel1.block b (hp _ _ (hPi b off e h0 j hj')))
  have hPb : ∀ b off, (∃ c n, Value.slice Ai js.length ci = .slice (some ⟨b, off, none⟩) n c) → 0 < js.length → b < w.heap.size := fun b off e h0 => hp _ _ (hPi b off e h0 0 h0)
  generalize (w.alloc (.cells #[.slice Ai js.length ci] 23)) = w1 at *
  have hbw : Below w.heap.size w w2 := hbel1.trans ⟨hb2.os, hb2.tape, hb2.output, hb2.size, fun k hk => hb2.block k (by omega)⟩
  have hgive : ∀ (W : World) (x : Int), (∀ k, k < w1.heap.size → W.heap[k]? = w2.heap[k]?) → FnGives Try.prog 69 #[.pointer (some ⟨w.heap.size, 0, none⟩)] #[.int .i64 x] (.bool (js.contains x)) W := fun W x hW =>
    cut_gives js hj x _ _ W ((World.cell?_of_block (hW _ (by show w.heap.size < _; omega))).trans ((World.cell?_of_block (hb2.block _ (by show w.heap.size < _; omega))).trans hcw))
      (hL1.mono fun b off e h0 j hj' => (World.cell?_of_block (hW b (by have := hPb b off e h0; omega))).trans (World.cell?_of_block (hb2.block b (by have := hPb b off e h0; omega))))
  have hib2 : Inv w2 := (hi.below hbel1).below hb2
  rcases rowInts hR2 with ⟨rfl, A, c, rfl⟩ | ⟨g, c, cur, e, rfl, k1, rfl, k2, k3, k4, k5⟩
  · have hs := delete_none A c (.func (.func 69) #[] #[.pointer (some ⟨w.heap.size, 0, none⟩)]) w2 hib2
    go_wp2_with (go_at_call 68; refine hs.mono ?_)
    rintro e w3 ⟨rfl, hb3⟩
    go_wp2
    go_ret
    refine ⟨_, β, rfl, hbw.trans ⟨hb3.os, hb3.tape, hb3.output, hb3.size, fun k hk => hb3.block k (by have := hbw.size; omega)⟩, ?_⟩
    refine row_nil (by omega) hR2 (fun g hg => ?_) fun g o hgb hg h => ?_
    · have : g < w2.heap.size := by
        obtain ⟨_, A', c', vs', _, _, _, _, _, h6⟩ := hR2
        rcases h6 with ⟨e, _⟩ | ⟨g', cur, e, kβ, kA, k1, k2, k3, k4⟩
        · rw [e] at hg; cases hg
        · rw [kβ] at hg; cases hg
          rcases Nat.lt_or_ge g w2.heap.size with h' | h'
          · exact h'
          · rw [Array.getElem?_eq_none h'] at k2; cases k2
      exact hb3.block g this
    · rcases h with h | ⟨_, _, h⟩
      · have := hp _ _ h; omega
      · exact h hg
  · have hg : g < w2.heap.size := by
      rcases Nat.lt_or_ge g w2.heap.size with h' | h'
      · exact h'
      · rw [Array.getElem?_eq_none h'] at k2; cases k2
    have hs := AnyE.slices_DeleteFunc laysDelete (Value.int .i64) (fun _ => rfl) (fun x => js.contains x) 69 #[.pointer (some ⟨w.heap.size, 0, none⟩)] (enters_of Try.func69 (by kernel_rfl) rfl) 0 Try.zeroValue3 g 0 c zs.toArray w2
      (fun W x hb => hgive W x fun k hk => hb.block k (by have := hb2.size; omega))
      (fun n os dk x hd => hgive _ x fun k hk => by
        have hk2 : k < w2.heap.size := by have := hb2.size; omega
        unfold sortWorld grow
        simp only
        rw [Array.getElem?_append_left (by rw [size_putRow]; exact hk2)]
        simp [putRow, mapBlock, Sort.ahead, Array.getElem?_modify, show g ≠ k by omega])
      (holds_cells k2 k5) (by simp; omega) (by simpa using k4)
    change Calls Try.prog 68 _ _ _ at hs
    simp only [List.size_toArray] at hs
    generalize hys : (zs.filter fun x => !js.contains x) = ys at hs
    go_wp2_with (go_at_call 68; refine hs.mono ?_; rintro e w3 ⟨rfl, q, rfl⟩)
    go_ret
    have hct : Pl.cut zs js = ys := hys
    have hle : ys.length ≤ zs.length := by rw [← hys]; exact List.length_filter_le ..
    rw [hct]
    refine ⟨_, some g, rfl, below_putRow hbw (by omega), rowInts_mk (heap_putRow _ k2) (by simpa [putCells] using k3) (by omega) (fun j hj => ?_) (by omega) fun o ho => ?_⟩
    · rw [cells_putCells _ (by simp; omega) (by omega)]
      simp [getElem!_pos, hj, List.getElem_append_left, show j < ys.length + (zs.length - ys.length) by omega]
    · rcases ho with h | ⟨_, _, h⟩
      · have := hp _ _ h; omega
      · exact h rfl
def F_parent_Cut : List D → Option (List D)
  | [.sl xs, .sl ys] => (ints? xs).bind fun zs => (ints? ys).bind fun js => bif decide (zs.length ≤ 4194304) && decide (js.length ≤ 4194304) then some ((Pl.cut zs js).map iD) else none
  | _ => none
theorem ok_parent_Cut : OkOwn Try.prog 34 1 F_parent_Cut := by
  refine ⟨enters_of Try.func34 (by kernel_rfl) rfl, fun w p ds vs xs hi hF hr hp => ?_⟩
  match ds, hF, hr with
  | [.sl ys, .sl us], hF, hr =>
    simp only [F_parent_Cut, Option.bind_eq_some_iff] at hF
    obtain ⟨zs, hz, js, hj, hF⟩ := hF
    cases hb : decide (zs.length ≤ 4194304) && decide (js.length ≤ 4194304) with
    | false => rw [hb] at hF; cases hF
    | true =>
      rw [hb] at hF
      cases hF
      simp only [Bool.and_eq_true, decide_eq_true_eq] at hb
      obtain rfl := ints?_some hz
      obtain rfl := ints?_some hj
      match vs, hr with
      | ⟨[l, i]⟩, hr => exact cut_walk l i zs js hb.1 hb.2 w p hp hi (hr.2 0 _ _ rfl rfl) (hr.2 1 _ _ rfl rfl)
end Go.Proofs.Ytcnedmkfcbcjkaa.Ra
