/- slices.Clone: a row of the call's own. -/
import Derived.Test.YtcnedmkfcbcjkaaHv
import Derived.OwnWalk
import Derived.Lib.Walk
import Derived.Deep.LoopGhost
import Derived.WalkKit
import Derived.Shelf.RegionOpenPlain
import Derived.Lib.OwnBridge
import Derived.Lib.SliceRun
set_option linter.unusedVariables false
set_option linter.unusedSimpArgs false
namespace Go.Proofs.Ytcnedmkfcbcjkaa.Ra
open Go Go.RowKit Go.Shelf Go.Lib Go.Proofs.Try
set_option linter.unusedVariables false
/-- A row that a call made, as the evaluator keeps it. -/
theorem own_post {w w' : World} {p : Nat → Nat → Prop} {xs : List D} {v : Value} {e : TypeId} {n : Nat} {cells : List Value} (hown : w'.ownsRow w.heap.size e 1 v n cells) (hl : n = xs.length) (h1 : xs.all D.one = true)
    (hp : ∀ b o, p b o → b < w.heap.size) (hr : ∀ (j : Nat) (x : D) (u : Value), xs[j]? = some x → cells[j]? = some u → u.oneCell' = true ∧ Rep w' p x u) :
    ∃ β, RowOk w.heap.size w' (fun b o => p b o ∨ w.heap.size ≤ b ∧ b < w'.heap.size ∧ β ≠ some b) true 1 xs v β := by
  subst hl
  simp only [List.all_eq_true] at h1
  obtain ⟨hlen, h⟩ := hown
  rcases h with ⟨rfl, h0⟩ | ⟨g, cap, cur, rfl, hb, hg, hn, hm, hs, ht⟩
  · have : xs = [] := List.length_eq_zero_iff.1 h0
    subst this
    exact ⟨none, by decide, none, 0, fun _ => .bool true, rfl, Nat.le_refl _, by simp, by simp, by simp, .inl ⟨rfl, rfl, fun _ => rfl⟩⟩
  · have hcell : ∀ j, j < xs.length → ∃ u, cells[j]? = some u ∧ w'.cell? ⟨g, j, none⟩ = some u := fun j hj => by
      refine ⟨cells[j]'(by omega), List.getElem?_eq_getElem _, ?_⟩
      have e1 : (cur.toList.take (xs.length * 1))[j]? = cells[j]? := by rw [ht]
      rw [List.getElem?_take, if_pos (by omega), Array.getElem?_toList, List.getElem?_eq_getElem (by omega)] at e1
      simp only [World.cell?, hg]
      simpa using e1
    refine ⟨some g, by decide, some ⟨g, 0, none⟩, cap, fun j => cells.getD j (.bool true), rfl, hn, fun x hx => by rw [one_cells (h1 x hx)]; rfl, fun o ho => ?_, fun i x j d hi hj => ?_, .inr ⟨g, cur, e, rfl, rfl, hb, hg, by simpa using hs, fun o ho => ?_⟩⟩
    · obtain ⟨u, k1, k2⟩ := hcell o (by omega)
      obtain ⟨x, hx⟩ : ∃ x, xs[o]? = some x := ⟨xs[o]'(by omega), List.getElem?_eq_getElem _⟩
      refine ⟨⟨g, 0, none⟩, rfl, ?_, ?_, by simp⟩
      · rw [Addr.add_lit, Nat.zero_add, k2]; simp [List.getD_eq_getElem?_getD, k1]
      · have := (hr o x u hx k1).1
        simpa [List.getD_eq_getElem?_getD, k1] using this
    · have hx1 := h1 x (List.mem_of_getElem? hi)
      rw [one_cells hx1] at hj
      cases j with
      | succ j => simp at hj
      | zero =>
        cases hj
        obtain ⟨u, k1, k2⟩ := hcell i (List.getElem?_eq_some_iff.1 hi).1
        have := (hr i x u hi k1).2
        simp only [Nat.mul_one, Nat.add_zero, List.getD_eq_getElem?_getD, k1, Option.getD_some]
        exact this.mono fun b o h => .inl h
    · rcases ho with h | ⟨h2, h3, h4⟩
      · have := hp _ _ h; omega
      · exact absurd rfl h4
/-- A slice, one cell an element. -/
theorem sl_slice {w : World} {p : Nat → Nat → Prop} {xs : List D} {v : Value} (h : Rep w p (.sl xs) v) (h1 : xs.all D.one = true) : ∃ (A : Option Addr) (c : Nat) (vs : Nat → Value), v = .slice A xs.length c ∧ xs.length ≤ c ∧
    (∀ (k : Nat) (x : D), xs[k]? = some x → Rep w p x (vs k)) ∧ (0 < xs.length → ∃ b off, A = some ⟨b, off, none⟩ ∧ ∀ j, j < xs.length → w.cell? ⟨b, off + j, none⟩ = some (vs j) ∧ (vs j).oneCell' = true ∧ p b (off + j)) := by
  cases h with
  | sl _ A c sz vs hc hsz hcm hcr =>
    simp only [List.all_eq_true] at h1
    have hone : ∀ x ∈ xs, sz = 1 := fun x hx => by rw [← hsz x hx, one_cells (h1 x hx)]; rfl
    refine ⟨A, c, vs, rfl, hc, fun k x hx => ?_, fun hpos => ?_⟩
    · have hmem := List.mem_of_getElem? hx
      have := hcr k x 0 x hx (by rw [one_cells (h1 x hmem)]; rfl)
      rwa [hone x hmem, Nat.mul_one, Nat.add_zero] at this
    · obtain ⟨x, hx⟩ : ∃ x, x ∈ xs := ⟨xs[0], List.getElem_mem hpos⟩
      obtain rfl := hone x hx
      obtain ⟨ad, rfl, k1, _, _⟩ := hcm 0 (by omega)
      have hsp := add_spot k1
      have e0 : ad.add 0 = ad := by simp [Addr.add]
      rw [e0, Nat.add_zero] at hsp
      refine ⟨ad.block, ad.off, congrArg some hsp, fun j hj => ?_⟩
      obtain ⟨ad', e, k2, k3, k4⟩ := hcm j (by omega)
      cases e
      rw [add_spot k2] at k2
      exact ⟨k2, k3, k4⟩
def CloneAt (f : Nat) (e : TypeId) : Prop :=
  (∀ (a : Addr) (n c : Nat) (news : List Value) (w : World), news.length = n → n ≤ 4194304 → (∀ j u, news[j]? = some u → w.cell? (a.add j) = some u) → (∀ u ∈ news, u.oneCell' = true) →
    Calls Try.prog f #[.slice (some a) n c] w fun o w' => ∃ v', o = .returned v' ∧ w'.ownsRow w.heap.size e 1 v' n news ∧ Below w.heap.size w w') ∧
  ∀ (n c : Nat) (w : World), Calls Try.prog f #[.slice none n c] w fun o w' => o = .returned (.slice none 0 0) ∧ w' = w
set_option maxRecDepth 100000 in
set_option maxHeartbeats 2000000 in
theorem clone_int : CloneAt 67 3 := by
  have t36 : Try.prog.underlying 23 = some (.slice 3) := by kernel_rfl
  obtain ⟨i0, hi, hz0, hz1, hz2⟩ := info_parts (show (Try.prog.info? 3).map (fun i => (i.zero, i.size, i.bytes)) = some (some (.int .i64 0), 1, 8) by kernel_rfl)
  have q22 : ∀ (w : World) (a : Option Addr) (n c n' c' : Nat), (binOp .eql 23 (.slice a n c) (.slice none n' c')).run Try.prog w = .ok (.bool a.isNone) w := fun w a n c n' c' => Lib.run_eql_slice_nil w _ _ a n c n' c' t36
  have u22 : ∀ w, Sem.run Try.prog (underlying 23) w = .ok (TypeDesc.slice 3) w := run_underlying t36
  refine ⟨fun a n c news w hl hn hc h1 => ?_, fun n c w => ?_⟩
  · have A : Aside (∀ j u, news[j]? = some u → w.cell? (a.add j) = some u) := hc
    clear hc
    go_enter Try.func67, Try.ntmps67
    go_wp2_with (at_builtin; refine wpList_append_own _ rfl _ _ 23 rfl w.heap.size 3 i0 (.int .i64 0) 1 8 t36 hi hz0 hz1 hz2 rfl (by decide) _ _ _ rfl (World.ownsRow_made w #[] 0 (Nat.le_refl _) (Nat.zero_le _) rfl) a n c news rfl ?qc1 ?qc2 ?qc3 ?qc4 ?qc5 ?qc6 ?_)
    case qc1 => simp; omega
    case qc2 => intro j u hj; exact Lib.cell?_alloc_some _ (A.out j u hj)
    case qc3 => exact h1
    case qc4 => unfold maxLen; omega
    case qc5 => omega
    case qc6 => simp
    intro v' w1 hown hgrow hnil
    go_wp2
    go_ret
    exact ⟨v', rfl, by simpa using hown, ((Below.refl _ w).alloc (Nat.le_refl _) _).grown hgrow (by simp) (by intro k hk; simp [Value.ownBlock] at hk; omega)⟩
  · go_enter Try.func67, Try.ntmps67
    go_wp2
    go_ret
    exact ⟨rfl, rfl⟩
set_option maxRecDepth 100000 in
set_option maxHeartbeats 2000000 in
theorem clone_byte : CloneAt 61 5 := by
  have t36 : Try.prog.underlying 36 = some (.slice 5) := by kernel_rfl
  obtain ⟨i0, hi, hz0, hz1, hz2⟩ := info_parts (show (Try.prog.info? 5).map (fun i => (i.zero, i.size, i.bytes)) = some (some (.int .u8 0), 1, 1) by kernel_rfl)
  have q22 : ∀ (w : World) (a : Option Addr) (n c n' c' : Nat), (binOp .eql 36 (.slice a n c) (.slice none n' c')).run Try.prog w = .ok (.bool a.isNone) w := fun w a n c n' c' => Lib.run_eql_slice_nil w _ _ a n c n' c' t36
  have u22 : ∀ w, Sem.run Try.prog (underlying 36) w = .ok (TypeDesc.slice 5) w := run_underlying t36
  refine ⟨fun a n c news w hl hn hc h1 => ?_, fun n c w => ?_⟩
  · have A : Aside (∀ j u, news[j]? = some u → w.cell? (a.add j) = some u) := hc
    clear hc
    go_enter Try.func61, Try.ntmps61
    go_wp2_with (at_builtin; refine wpList_append_own _ rfl _ _ 36 rfl w.heap.size 5 i0 (.int .u8 0) 1 1 t36 hi hz0 hz1 hz2 rfl (by decide) _ _ _ rfl (World.ownsRow_made w #[] 0 (Nat.le_refl _) (Nat.zero_le _) rfl) a n c news rfl ?qc1 ?qc2 ?qc3 ?qc4 ?qc5 ?qc6 ?_)
    case qc1 => simp; omega
    case qc2 => intro j u hj; exact Lib.cell?_alloc_some _ (A.out j u hj)
    case qc3 => exact h1
    case qc4 => unfold maxLen; omega
    case qc5 => omega
    case qc6 => simp
    intro v' w1 hown hgrow hnil
    go_wp2
    go_ret
    exact ⟨v', rfl, by simpa using hown, ((Below.refl _ w).alloc (Nat.le_refl _) _).grown hgrow (by simp) (by intro k hk; simp [Value.ownBlock] at hk; omega)⟩
  · go_enter Try.func61, Try.ntmps61
    go_wp2
    go_ret
    exact ⟨rfl, rfl⟩
def F_clone : List D → Option (List D)
  | [.sl xs] => bif xs.all D.one && decide (xs.length ≤ 4194304) then some xs else none
  | _ => none
theorem ok_clone {f : Nat} {e : TypeId} {fn : Func} (hf : Try.prog.funcs[f]? = some fn) {cd : Code} (hname : (fn.name == "runtime.NumGoroutine") = false) (hb : fn.body = some cd) (h : CloneAt f e) : OkOwn Try.prog f 1 F_clone := by
  refine ⟨enters_of hf hname hb, fun w p ds vs xs hi hF hr hp => ?_⟩
  match ds, hF, hr with
  | [.sl ys], hF, hr =>
    simp only [F_clone] at hF
    cases hb : (ys.all D.one && decide (ys.length ≤ 4194304)) with
    | false => rw [hb] at hF; cases hF
    | true =>
      rw [hb] at hF
      cases hF
      simp only [Bool.and_eq_true, decide_eq_true_eq] at hb
      obtain ⟨hs1, hr1⟩ := hr
      match vs, hs1 with
      | ⟨[u]⟩, _ =>
        have hru := hr1 0 _ _ rfl rfl
        change Rep w p (.sl xs) u at hru
        obtain ⟨A, c, vv, rfl, k3, k4, k5⟩ := sl_slice hru hb.1
        cases A with
        | none =>
          have h0 : xs = [] := by
            rcases Nat.eq_zero_or_pos xs.length with h | h
            · exact List.length_eq_zero_iff.1 h
            · obtain ⟨_, _, e, _⟩ := k5 h; cases e
          subst h0
          refine (h.2 0 c w).mono ?_
          rintro o w' ⟨rfl, rfl⟩
          exact ⟨_, none, rfl, Below.refl _ _, by decide, none, 0, fun _ => .bool true, rfl, Nat.le_refl _, by simp, by simp, by simp, .inl ⟨rfl, rfl, fun _ => rfl⟩⟩
        | some a =>
          refine (h.1 a xs.length c ((List.range xs.length).map vv) w (by simp) hb.2 (fun j u hj => ?_) (fun u hu => ?_)).mono ?_
          · have hj1 : j < xs.length := by have := (List.getElem?_eq_some_iff.1 hj).1; simpa using this
            obtain ⟨b, off, e, k6⟩ := k5 (by omega)
            cases e
            rw [Addr.add_lit, (k6 j hj1).1]
            rw [List.getElem?_map, List.getElem?_range hj1] at hj
            exact hj
          · obtain ⟨j, hj, rfl⟩ := List.mem_map.1 hu
            have hj1 : j < xs.length := by simpa using hj
            obtain ⟨b, off, e, k6⟩ := k5 (by omega)
            exact (k6 j hj1).2.1
          · rintro o w' ⟨v', rfl, hown, hbel⟩
            obtain ⟨β, hβ⟩ := own_post hown rfl hb.1 hp fun j x u hx hu => by
              have hj1 : j < xs.length := (List.getElem?_eq_some_iff.1 hx).1
              rw [List.getElem?_map, List.getElem?_range hj1] at hu
              cases hu
              obtain ⟨b, off, e, k6⟩ := k5 (by omega)
              exact ⟨(k6 j hj1).2.1, (k4 j x hx).ext (ext_below hbel hp fun _ _ h => h)⟩
            exact ⟨v', β, rfl, hbel, hβ⟩
def F_slices_Clone_int : List D → Option (List D) := F_clone
def F_slices_Clone_byte : List D → Option (List D) := F_clone
theorem ok_slices_Clone_int : OkOwn Try.prog 67 1 F_slices_Clone_int := ok_clone Try.func67 (by kernel_rfl) rfl clone_int
theorem ok_slices_Clone_byte : OkOwn Try.prog 61 1 F_slices_Clone_byte := ok_clone Try.func61 (by kernel_rfl) rfl clone_byte
end Go.Proofs.Ytcnedmkfcbcjkaa.Ra
