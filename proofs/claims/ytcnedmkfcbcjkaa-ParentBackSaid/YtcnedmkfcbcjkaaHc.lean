/- slices.Chunk, its closure: octets four by four. -/
import Derived.Test.YtcnedmkfcbcjkaaHv
import Derived.RegionIn
set_option linter.unusedVariables false
set_option linter.unusedSimpArgs false
namespace Go.Proofs.Ytcnedmkfcbcjkaa.Ra
open Go Go.RowKit Go.Shelf Go.Proofs.Try
set_option linter.unusedVariables false
attribute [local go_sem] Oper.semAt_some
set_option maxRecDepth 100000 in
set_option maxHeartbeats 2000000 in
theorem chunk_walk (l Bs bo Bn bn b off cap m : Nat) (pk : Nat → Nat → Prop) (hm : m ≤ 1048576) (J Jx : Nat → World → Prop) (hJ : ∀ k W W', J k W → Below W.heap.size W W' → J k W')
    (hY : ∀ k W, J k W → k < m → YieldAt Fence.wide 0 Try.prog l #[.slice (some ⟨b, off + 4 * k, none⟩) 4 4] W fun e W' => (e = .returned (.bool true) ∧ J (k + 1) W' ∧ Ext W pk W' pk) ∨ (e = .returned (.bool false) ∧ Jx (k + 1) W'))
    (W : World) (hBs : W.cell? ⟨Bs, bo, none⟩ = some (.slice (some ⟨b, off, none⟩) (4 * m) cap)) (hBn : W.cell? ⟨Bn, bn, none⟩ = some (.int .i64 4)) (ps : pk Bs bo) (pn : pk Bn bn) (hlc : 4 * m ≤ cap) (h0 : J 0 W) :
    CallsIn Fence.wide 0 Try.prog 115 #[.func (.yield l) #[] #[], .pointer (some ⟨Bs, bo, none⟩), .pointer (some ⟨Bn, bn, none⟩)] W fun e W' => (∃ v, e = .returned v) ∧ (J m W' ∨ ∃ k, k ≤ m ∧ Jx k W') := by
  have hro : Fence.wide.round = none := rfl
  have h7 : Fence.wide.fn 115 := trivial
  refine callsIn_of_wp Try.func115 rfl h7 ?_ hro
  simp only [Try.ntmps115, List.size_toArray, List.length_cons, List.length_nil, Nat.reduceAdd, Nat.reduceSub, Array.replicate_succ, Array.replicate_zero, List.push_toArray, List.append_toArray, List.nil_append, List.cons_append]
  gi_wp2
  gi_loopw [4] (fun i wr => ∃ k : Nat, k ≤ m ∧ i = .int .i64 (4 * (k : Int)) ∧ J k wr ∧ Ext W pk wr pk)
    (fun i _ => 4 * m - (intOf i).toNat)
  case atStart => exact ⟨0, Nat.zero_le _, rfl, h0, Ext.refl _ _⟩
  case round =>
    obtain ⟨k, hk, rfl, hJs, hnx⟩ := hrel
    have c1 : wr.cell? ⟨Bs, bo, none⟩ = some (.slice (some ⟨b, off, none⟩) (4 * m) cap) := (hnx Bs bo ps).2.trans hBs
    have c2 : wr.cell? ⟨Bn, bn, none⟩ = some (.int .i64 4) := (hnx Bn bn pn).2.trans hBn
    by_cases hlt : k < m
    · gi_wp2
      have hJd : J k wr.drew := hJ k wr _ hJs (Below.refl _ _).drew
      obtain ⟨fn, tmps, assign, body, hy, hR⟩ := hY _ wr.drew hJd hlt
      gi_region
      gi_wp2
      refine ⟨rfl, hR.mono ?_⟩
      rintro e W3 (⟨rfl, hJ3, hk3⟩ | ⟨rfl, hJx3⟩)
      · have c3 : W3.cell? ⟨Bn, bn, none⟩ = some (.int .i64 4) := ((hnx.trans hk3) Bn bn pn).2.trans hBn
        gi_wp2
        go_roundw
        case rel => exact ⟨k + 1, by omega, by simp; omega, hJ3, hnx.trans hk3⟩
        case measure => simp [intOf]; omega
      · gi_wp2
        refine bodyPost_ret (results_none rfl _ _ _) rfl ?_
        exact ⟨⟨_, rfl⟩, .inr ⟨k + 1, by omega, hJx3⟩⟩
    · obtain rfl : k = m := by omega
      gi_wp2
      go_end0
      exact ⟨⟨_, rfl⟩, .inl hJs⟩
set_option maxRecDepth 100000 in
set_option maxHeartbeats 2000000 in
theorem chunk_walk0 (l Bs bo Bn bn cap : Nat) (A : Option Addr) (J : Nat → World → Prop) (W : World) (hBs : W.cell? ⟨Bs, bo, none⟩ = some (.slice A 0 cap)) (hBn : W.cell? ⟨Bn, bn, none⟩ = some (.int .i64 4)) (h0 : J 0 W) :
    CallsIn Fence.wide 0 Try.prog 115 #[.func (.yield l) #[] #[], .pointer (some ⟨Bs, bo, none⟩), .pointer (some ⟨Bn, bn, none⟩)] W fun e W' => (∃ v, e = .returned v) ∧ J 0 W' := by
  have hro : Fence.wide.round = none := rfl
  have h7 : Fence.wide.fn 115 := trivial
  refine callsIn_of_wp Try.func115 rfl h7 ?_ hro
  simp only [Try.ntmps115, List.size_toArray, List.length_cons, List.length_nil, Nat.reduceAdd, Nat.reduceSub, Array.replicate_succ, Array.replicate_zero, List.push_toArray, List.append_toArray, List.nil_append, List.cons_append]
  gi_wp2
  gi_loopw [4] (fun i wr => i = .int .i64 0 ∧ J 0 wr ∧ wr = W) (fun _ _ => 0)
  case atStart => exact ⟨rfl, h0, rfl⟩
  case round =>
    obtain ⟨rfl, hJs, rfl⟩ := hrel
    gi_wp2
    go_end0
    exact ⟨⟨_, rfl⟩, hJs⟩
/-- Four by four. -/
def four : List D → List (List D)
  | a :: b :: c :: d :: r => [.sl [a, b, c, d]] :: four r
  | _ => []
theorem four_length : ∀ (m : Nat) (xs : List D), xs.length = 4 * m → (four xs).length = m
  | 0, xs, h => by
    match xs, h with
    | [], _ => rfl
  | m + 1, xs, h => by
    match xs, h with
    | a :: b :: c :: d :: r, h =>
      simp only [four, List.length_cons]
      rw [four_length m r (by simp at h; omega)]
theorem four_get : ∀ (m : Nat) (xs : List D), xs.length = 4 * m → ∀ k item, (four xs)[k]? = some item → ∃ ys, item = [.sl ys] ∧ ys.length = 4 ∧ ∀ j, j < 4 → ys[j]? = xs[4 * k + j]?
  | 0, xs, h => by
    match xs, h with
    | [], _ => intro k item hk; simp [four] at hk
  | m + 1, xs, h => by
    match xs, h with
    | a :: b :: c :: d :: r, h =>
      intro k item hk
      cases k with
      | zero =>
        simp only [four, List.getElem?_cons_zero, Option.some.injEq] at hk
        subst hk
        refine ⟨[a, b, c, d], rfl, rfl, fun j hj => ?_⟩
        match j, hj with
        | 0, _ => rfl
        | 1, _ => rfl
        | 2, _ => rfl
        | 3, _ => rfl
      | succ k =>
        simp only [four, List.getElem?_cons_succ] at hk
        obtain ⟨ys, h1, h2, h3⟩ := four_get m r (by simp at h; omega) k item hk
        refine ⟨ys, h1, h2, fun j hj => ?_⟩
        rw [h3 j hj, show 4 * (k + 1) + j = (4 * k + j) + 4 by omega]
        rfl
def F_slices_Chunk_byte_1 : List D → Option (List (List D))
  | [.ro [.sl xs], .ro [.int .i64 4]] => bif xs.all D.one && decide (xs.length ≤ 4194304) && xs.length % 4 == 0 then some (four xs) else none
  | _ => none
theorem ro_int {w : World} {p : Nat → Nat → Prop} {k : IntKind} {i : Int} {u : Value} (h : Rep w p (.ro [.int k i]) u) : ∃ (B o : Nat), u = .pointer (some ⟨B, o, none⟩) ∧ w.cell? ⟨B, o, none⟩ = some (.int k i) ∧ p B o := by
  cases h with
  | ro _ ad vs1 hs hm hr =>
    obtain ⟨m1, _, m3⟩ := hm 0 (by simp)
    have hr0 := hr 0 (.int k i) rfl
    generalize vs1 0 = v at m1 hr0
    cases hr0
    obtain ⟨b, o, sp⟩ := ad
    simp only at hs m1 m3
    subst hs
    exact ⟨b, o, rfl, m1, m3⟩
theorem ok_slices_Chunk_byte_1 : OkSeq Try.prog 115 F_slices_Chunk_byte_1 := by
  refine ⟨enters_of Try.func115 (by kernel_rfl) rfl, fun w p ds vs items hi hF hr hp => ?_⟩
  match ds, hF, hr with
  | [.ro [.sl xs], .ro [.int .i64 4]], hF, hr =>
    simp only [F_slices_Chunk_byte_1] at hF
    cases hb : (xs.all D.one && decide (xs.length ≤ 4194304) && xs.length % 4 == 0) with
    | false => rw [hb] at hF; cases hF
    | true =>
      rw [hb] at hF
      cases hF
      simp only [Bool.and_eq_true, decide_eq_true_eq, beq_iff_eq] at hb
      obtain ⟨⟨hb1, hb2⟩, hb3⟩ := hb
      obtain ⟨m, hm⟩ : ∃ m, xs.length = 4 * m := ⟨xs.length / 4, by omega⟩
      obtain ⟨hs1, hr1⟩ := hr
      match vs, hs1 with
      | ⟨[u, n]⟩, _ =>
        obtain ⟨B, o, A, c, vv, rfl, k1, k2, k3, k4, k5⟩ := ro_slice (hr1 0 _ _ rfl rfl) hb1
        obtain ⟨Bn, bn, rfl, n1, n2⟩ := ro_int (hr1 1 _ _ rfl rfl)
        by_cases hpos : 0 < xs.length
        · obtain ⟨b, off, rfl, k6⟩ := k5 hpos
          refine ⟨fun k => #[.slice (some ⟨b, off + 4 * k, none⟩) 4 4], fun k item hk => ?_, fun l J Jx W0 hext hsz hinv hJ hJx hY h0 => ?_⟩
          · obtain ⟨ys, rfl, h2, h3⟩ := four_get m xs hm k item hk
            have hkm : k < m := by
              have := four_length m xs hm
              have := (List.getElem?_eq_some_iff.1 hk).1
              omega
            refine ⟨rfl, fun j d v hj hv => ?_⟩
            cases j with
            | succ j => simp at hj
            | zero =>
              cases hj
              cases hv
              have hone : ∀ y ∈ ys, y.one = true := fun y hy => by
                obtain ⟨j, hj, rfl⟩ := List.mem_iff_getElem.1 hy
                have e := h3 j (by omega)
                rw [List.getElem?_eq_getElem hj] at e
                exact List.all_eq_true.1 hb1 _ (List.mem_of_getElem? e.symm)
              have e4 : Value.slice (some ⟨b, off + 4 * k, none⟩) 4 4 = Value.slice (some ⟨b, off + 4 * k, none⟩) ys.length 4 := by rw [h2]
              show Rep w p (D.sl ys) (Value.slice (some ⟨b, off + 4 * k, none⟩) 4 4)
              rw [e4]
              refine .sl ys _ _ 1 (fun j => vv (4 * k + j)) (by omega) (fun y hy => by rw [one_cells (hone y hy)]; rfl) (fun j hj => ?_) fun i x j d hi hj => ?_
              · have := k6 (4 * k + j) (by omega)
                refine ⟨_, rfl, ?_, this.2.1, by simpa [Nat.add_assoc] using this.2.2⟩
                cases j with
                | zero => simpa [Addr.add] using this.1
                | succ j => simpa [Addr.add, Nat.add_assoc] using this.1
              · have h1 := hone x (List.mem_of_getElem? hi)
                rw [one_cells h1] at hj
                cases j with
                | succ j => simp at hj
                | zero =>
                  cases hj
                  have hi4 : i < 4 := by have := (List.getElem?_eq_some_iff.1 hi).1; omega
                  rw [h3 i hi4] at hi
                  simpa using k4 _ _ hi
          · have hcB : W0.cell? ⟨B, o, none⟩ = some (.slice (some ⟨b, off, none⟩) (4 * m) c) := by rw [← hm]; exact (hext B o k2).2.trans k1
            have hcn : W0.cell? ⟨Bn, bn, none⟩ = some (.int .i64 4) := (hext Bn bn n2).2.trans n1
            rw [four_length m xs hm] at hY ⊢
            refine (callsIn_wide (n := 0)).1 ?_
            exact chunk_walk l B o Bn bn b off c m p (by omega) J Jx hJ hY W0 hcB hcn (hext B o k2).1 (hext Bn bn n2).1 (by omega) h0
        · have e : xs.length = 0 := by omega
          obtain rfl : xs = [] := List.length_eq_zero_iff.1 e
          refine ⟨fun k => #[], fun k item hk => by simp [four] at hk, fun l J Jx W0 hext hsz hinv hJ hJx hY h0 => ?_⟩
          have hcB : W0.cell? ⟨B, o, none⟩ = some (.slice A 0 c) := (hext B o k2).2.trans k1
          have hcn : W0.cell? ⟨Bn, bn, none⟩ = some (.int .i64 4) := (hext Bn bn n2).2.trans n1
          refine (callsIn_wide (n := 0)).1 ?_
          exact (chunk_walk0 l B o Bn bn c A J W0 hcB hcn h0).mono fun e W' ⟨h1, h2⟩ => ⟨h1, .inl h2⟩
end Go.Proofs.Ytcnedmkfcbcjkaa.Ra
