/- slices.Values, its closure: the elements come one by one. -/
import Derived.RangeFuncBound
import Derived.RangeFuncLeaves
import Derived.Shelf.Abstract
import Derived.WalkKit
import Derived.OwnWalkIn
import Derived.TacticsInMore
import Derived.LoopNIn
import Derived.LoopIn
import Derived.Test.YtcnedmkfcbcjkaaRt
import Derived.Test.YtcnedmkfcbcjkaaSp0
set_option linter.unusedVariables false
set_option linter.unusedSimpArgs false
namespace Go.Proofs.Ytcnedmkfcbcjkaa.Ra
open Go Go.RowKit Go.Shelf Go.Proofs.Try
set_option linter.unusedVariables false
attribute [local go_sem] Oper.semAt_some
set_option maxRecDepth 100000 in
set_option maxHeartbeats 2000000 in
theorem values_walk (l Bs bo b off len cap : Nat) (vs : Nat → Value) (pk : Nat → Nat → Prop) (hreach : len ≤ 4611686018427387904) (J Jx : Nat → World → Prop)
    (hY : ∀ k W, J k W → k < len → YieldAt Fence.wide 0 Try.prog l #[vs k] W fun e W' => (e = .returned (.bool true) ∧ J (k + 1) W' ∧ Ext W pk W' pk) ∨ (e = .returned (.bool false) ∧ Jx (k + 1) W'))
    (W : World) (hBs : W.cell? ⟨Bs, bo, none⟩ = some (.slice (some ⟨b, off, none⟩) len cap)) (hlc : len ≤ cap) (hc : ∀ j, j < len → W.cell? ⟨b, off + j, none⟩ = some (vs j) ∧ pk b (off + j)) (h0 : J 0 W) :
    CallsIn Fence.wide 0 Try.prog 120 #[.func (.yield l) #[] #[], .pointer (some ⟨Bs, bo, none⟩)] W fun e W' => (∃ v, e = .returned v) ∧ (J len W' ∨ ∃ k, k ≤ len ∧ Jx k W') := by
  have hro : Fence.wide.round = none := rfl
  have h7 : Fence.wide.fn 120 := trivial
  refine callsIn_of_wp Try.func120 rfl h7 ?_ hro
  simp only [Try.ntmps120, List.size_toArray, List.length_cons, List.length_nil, Nat.reduceAdd, Nat.reduceSub, Array.replicate_succ, Array.replicate_zero, List.push_toArray, List.append_toArray, List.nil_append, List.cons_append]
  gi_wp2
  gi_loopw [7] (fun i wr => ∃ k : Nat, k ≤ len ∧ i = .int .i64 k ∧ J k wr ∧ Ext W pk wr pk)
    (fun i _ => len - (intOf i).toNat)
  case atStart => exact ⟨0, Nat.zero_le _, rfl, h0, Ext.refl _ _⟩
  case round =>
    obtain ⟨k, hk, rfl, hJs, hnx⟩ := hrel
    have hcx : k < len → wr.cell? ⟨b, off + k, none⟩ = some (vs k) := fun h => (hnx b (off + k) (hc k h).2).2.trans (hc k h).1
    by_cases hlt : k < len
    · obtain ⟨fn, tmps, assign, body, hy, hR⟩ := hY _ wr hJs hlt
      have hcx' := hcx hlt
      gi_wp2
      refine ⟨rfl, hR.mono ?_⟩
      rintro e W3 (⟨rfl, hJ3, hk3⟩ | ⟨rfl, hJx3⟩)
      · gi_wp2
        go_roundw
        case rel => exact ⟨k + 1, by omega, by simp, hJ3, hnx.trans hk3⟩
        case measure => simp [intOf]; omega
      · gi_wp2
        refine bodyPost_ret (results_none rfl _ _ _) rfl ?_
        exact ⟨⟨_, rfl⟩, .inr ⟨k + 1, by omega, hJx3⟩⟩
    · obtain rfl : k = len := by omega
      gi_wp2
      go_end0
      exact ⟨⟨_, rfl⟩, .inl hJs⟩
set_option maxRecDepth 100000 in
set_option maxHeartbeats 2000000 in
theorem values_walk0 (l Bs bo cap : Nat) (A : Option Addr) (J : Nat → World → Prop) (W : World) (hBs : W.cell? ⟨Bs, bo, none⟩ = some (.slice A 0 cap)) (h0 : J 0 W) :
    CallsIn Fence.wide 0 Try.prog 120 #[.func (.yield l) #[] #[], .pointer (some ⟨Bs, bo, none⟩)] W fun e W' => (∃ v, e = .returned v) ∧ J 0 W' := by
  have hro : Fence.wide.round = none := rfl
  have h7 : Fence.wide.fn 120 := trivial
  refine callsIn_of_wp Try.func120 rfl h7 ?_ hro
  simp only [Try.ntmps120, List.size_toArray, List.length_cons, List.length_nil, Nat.reduceAdd, Nat.reduceSub, Array.replicate_succ, Array.replicate_zero, List.push_toArray, List.append_toArray, List.nil_append, List.cons_append]
  gi_wp2
  gi_loopw [7] (fun i wr => i = .int .i64 0 ∧ J 0 wr) (fun _ _ => 0)
  case atStart => exact ⟨rfl, h0⟩
  case round =>
    obtain ⟨rfl, hJs⟩ := hrel
    gi_wp2
    go_end0
    exact ⟨⟨_, rfl⟩, hJs⟩
theorem one_cells {x : D} (h : x.one = true) : x.cells = [x] := by cases x <;> first | rfl | cases h
/-- A slice that a box holds, one cell an element. -/
theorem ro_slice {w : World} {p : Nat → Nat → Prop} {xs : List D} {u : Value} (h : Rep w p (.ro [.sl xs]) u) (h1 : xs.all D.one = true) : ∃ (B o : Nat) (A : Option Addr) (c : Nat) (vs : Nat → Value), u = .pointer (some ⟨B, o, none⟩) ∧ w.cell? ⟨B, o, none⟩ = some (.slice A xs.length c) ∧ p B o ∧ xs.length ≤ c ∧
    (∀ (k : Nat) (x : D), xs[k]? = some x → Rep w p x (vs k)) ∧ (0 < xs.length → ∃ b off, A = some ⟨b, off, none⟩ ∧ ∀ j, j < xs.length → w.cell? ⟨b, off + j, none⟩ = some (vs j) ∧ (vs j).oneCell' = true ∧ p b (off + j)) := by
  cases h with
  | ro _ ad vs1 hs hm hr =>
    obtain ⟨m1, _, m3⟩ := hm 0 (by simp)
    have hr0 := hr 0 (.sl xs) rfl
    generalize vs1 0 = v at m1 hr0
    cases hr0 with
    | sl _ A c sz vs hc hsz hcm hcr =>
      obtain ⟨b, o, sp⟩ := ad
      simp only at hs m1 m3
      subst hs
      simp only [List.all_eq_true] at h1
      have hone : ∀ x ∈ xs, sz = 1 := fun x hx => by rw [← hsz x hx, one_cells (h1 x hx)]; rfl
      refine ⟨b, o, A, c, vs, rfl, m1, m3, hc, fun k x hx => ?_, fun hpos => ?_⟩
      · have hmem := List.mem_of_getElem? hx
        have := hcr k x 0 x hx (by rw [one_cells (h1 x hmem)]; rfl)
        rwa [hone x hmem, Nat.mul_one, Nat.add_zero] at this
      · obtain ⟨x, hx⟩ : ∃ x, x ∈ xs := ⟨xs[0], List.getElem_mem hpos⟩
        obtain rfl := hone x hx
        obtain ⟨ad, rfl, k1, _, _⟩ := hcm 0 (by omega)
        have hsp := add_spot k1
        have e0 : ad.add 0 = ad := by simp [Addr.add]
        rw [e0, Nat.add_zero] at hsp
        refine ⟨ad.block, ad.off, congrArg some hsp, fun j hj => ?_⟩
        obtain ⟨ad', e, k2, k3, k4⟩ := hcm j (by omega)
        cases e
        rw [add_spot k2] at k2
        exact ⟨k2, k3, k4⟩
def F_slices_Values_int_1 : List D → Option (List (List D))
  | [.ro [.sl xs]] => bif xs.all D.one && decide (xs.length ≤ 4611686018427387904) then some (xs.map fun x => [x]) else none
  | _ => none
theorem ok_slices_Values_int_1 : OkSeq Try.prog 120 F_slices_Values_int_1 := by
  refine ⟨enters_of Try.func120 (by kernel_rfl) rfl, fun w p ds vs items hi hF hr hp => ?_⟩
  match ds, hF, hr with
  | [.ro [.sl xs]], hF, hr =>
    simp only [F_slices_Values_int_1] at hF
    cases hb : (xs.all D.one && decide (xs.length ≤ 4611686018427387904)) with
    | false => rw [hb] at hF; cases hF
    | true =>
      rw [hb] at hF
      cases hF
      simp only [Bool.and_eq_true, decide_eq_true_eq] at hb
      obtain ⟨hs1, hr1⟩ := hr
      match vs, hs1 with
      | ⟨[u]⟩, _ =>
        obtain ⟨B, o, A, c, vv, rfl, k1, k2, k3, k4, k5⟩ := ro_slice (hr1 0 _ _ rfl rfl) hb.1
        refine ⟨fun k => #[vv k], fun k item hk => ?_, fun l J Jx W0 hext hsz hinv hJ hJx hY h0 => ?_⟩
        · simp only [List.getElem?_map, Option.map_eq_some_iff] at hk
          obtain ⟨x, hx, rfl⟩ := hk
          refine ⟨rfl, fun j d v hj hv => ?_⟩
          cases j with
          | zero => cases hj; cases hv; exact k4 k _ hx
          | succ j => simp at hj
        · have hcB : W0.cell? ⟨B, o, none⟩ = some (.slice A xs.length c) := (hext B o k2).2.trans k1
          rw [List.length_map] at hY ⊢
          refine (callsIn_wide (n := 0)).1 ?_
          by_cases hpos : 0 < xs.length
          · obtain ⟨b, off, rfl, k6⟩ := k5 hpos
            exact values_walk l B o b off xs.length c vv p hb.2 J Jx hY W0 hcB k3 (fun j hj => ⟨(hext b (off + j) (k6 j hj).2.2).2.trans (k6 j hj).1, (k6 j hj).2.2⟩) h0
          · have e : xs.length = 0 := by omega
            rw [e] at hcB ⊢
            exact (values_walk0 l B o c A J W0 hcB h0).mono fun e W' ⟨h1, h2⟩ => ⟨h1, .inl h2⟩
end Go.Proofs.Ytcnedmkfcbcjkaa.Ra
