/- A node, as the evaluator's data. -/
import Derived.Test.YtcnedmkfcbcjkaaLw
set_option linter.unusedVariables false
set_option linter.unusedSimpArgs false
namespace Go.Proofs.Ytcnedmkfcbcjkaa.Ra
open Go Go.RowKit Go.Proofs.Ytcnedmkfcbcjkaa.Pl Go.ChangeShapes Go.WideShapes Go.ChangeAt
section
variable {H : Type} {enc : TypeId × Value → H} {P : Program} {W : World} {t e : TypeId} {k : IntKind} {fuel : Nat} {x : DataW H × List MemPlace}
theorem reads_cell (ht : P.underlying t = some (.slice e)) (he : P.underlying e = some (.int k)) (hc : P.cellsOf e = 1) (hb : 1 ≤ P.bytesOf e) {c : Value} (h : DataW.trod enc P W 0 (fun _ => true) true fuel t [c] = some x) (hw : ∀ n ∈ x.1.weights P t, n ≤ reachBytes) :
    ∃ a len cap, c = .slice a len cap ∧ len ≤ 140737488355328 := by
  have hr : reachBytes = 140737488351232 := by decide
  rcases open_ints ht he hc h with ⟨hcs, _⟩ | ⟨y, l, c', zs, hcs, _, hl, hm, hz, hx, hcell, hwz⟩
  · simp only [List.cons.injEq, and_true] at hcs
    exact ⟨_, _, _, hcs, by omega⟩
  · simp only [List.cons.injEq, and_true] at hcs
    simp only [if_true] at hz
    refine ⟨_, _, _, hcs, ?_⟩
    have := hw ((l + (c' - l)) * P.bytesOf e) (by
      rw [hx]
      have e1 : (lits (H := H) k (zs.take l)).length = l := by simp [lits]; omega
      have e2 : (lits (H := H) k (zs.drop l)).length = c' - l := by simp [lits]; omega
      simp [DataW.weights, ht, e1, e2])
    have h2 : l + (c' - l) ≤ (l + (c' - l)) * P.bytesOf e := Nat.le_mul_of_pos_right _ hb
    omega
end
noncomputable def fs38 : Array Field := match Try.prog.underlying 38 with
  | some (.struct fs) => fs
  | _ => #[]
theorem fs38_eq : Try.prog.underlying 38 = some (.struct fs38) := by kernel_rfl
theorem fs38_at : fs38.toList.map (fun f => (f.type, f.offset)) = [(36, 0), (36, 1), (23, 2)] := by kernel_rfl
attribute [irreducible] fs38
set_option maxRecDepth 100000 in
theorem reads_inner {H : Type} {enc : TypeId × Value → H} {W : World} {r : Reach} {base : Nat} {v : Value} {d : DataW H} {p : List MemPlace} (hv : Value.okWide Try.prog W r base 38 v) (h : DataW.Trod enc Try.prog W 0 (fun _ => true) true 38 v d p)
    (hw : ∀ n ∈ d.weights Try.prog 38, n ≤ reachBytes) :
    ∃ n : Inner, (n.enc.length ≤ 140737488355328 ∧ n.hash.length ≤ 140737488355328 ∧ n.un.length ≤ 140737488355328) ∧ Rep W (Kept W) (innerD n) v := by
  obtain ⟨cs, rfl, hcs⟩ := okWide_struct fs38_eq hv
  obtain ⟨fuel, hf⟩ := h
  have hcl : (Value.agg cs).cells = cs := rfl
  rw [hcl] at hf
  obtain ⟨xs, n, rfl, hx, hl, hxl, hat⟩ := DataW.trod_struct fs38_eq hf
  have h3 : Try.prog.cellsOf 38 = 3 := by kernel_rfl
  have c36 : Try.prog.cellsOf 36 = 1 := by kernel_rfl
  have c23 : Try.prog.cellsOf 23 = 1 := by kernel_rfl
  have hfs : fs38.size = 3 := by have := congrArg List.length fs38_at; simpa using this
  have f0 : ∃ f, fs38[0]? = some f ∧ f.type = 36 ∧ f.offset = 0 := by
    refine ⟨fs38[0], by simp [hfs], ?_⟩
    have := congrArg (fun l => l[0]?) fs38_at
    simpa [hfs] using this
  have f1 : ∃ f, fs38[1]? = some f ∧ f.type = 36 ∧ f.offset = 1 := by
    refine ⟨fs38[1], by simp [hfs], ?_⟩
    have := congrArg (fun l => l[1]?) fs38_at
    simpa [hfs] using this
  have f2 : ∃ f, fs38[2]? = some f ∧ f.type = 23 ∧ f.offset = 2 := by
    refine ⟨fs38[2], by simp [hfs], ?_⟩
    have := congrArg (fun l => l[2]?) fs38_at
    simpa [hfs] using this
  rw [h3] at hcs
  match cs, hcs with
  | ⟨[c0, c1, c2]⟩, _ =>
    obtain ⟨g0, e0, t0, o0⟩ := f0
    obtain ⟨g1, e1, t1, o1⟩ := f1
    obtain ⟨g2, e2, t2, o2⟩ := f2
    have a0 := hat 0 g0 e0
    have a1 := hat 1 g1 e1
    have a2 := hat 2 g2 e2
    rw [t0, o0, c36] at a0
    rw [t1, o1, c36] at a1
    rw [t2, o2, c23] at a2
    rw [hfs] at hxl
    match xs, hxl with
    | [x0, x1, x2], _ =>
      replace a0 : DataW.trod enc Try.prog W 0 (fun _ => true) true n 36 [c0] = some x0 := a0
      replace a1 : DataW.trod enc Try.prog W 0 (fun _ => true) true n 36 [c1] = some x1 := a1
      replace a2 : DataW.trod enc Try.prog W 0 (fun _ => true) true n 23 [c2] = some x2 := a2
      have hd : d = .agg [x0.1, x1.1, x2.1] := congrArg Prod.fst hx
      have hty : fs38.toList.map (·.type) = [36, 36, 23] := by
        have := congrArg (List.map Prod.fst) fs38_at
        rw [List.map_map] at this
        exact this
      have hwt : ∀ (j : Nat) (t : TypeId) (y : DataW H), [36, 36, 23][j]? = some t → [x0.1, x1.1, x2.1][j]? = some y → ∀ m ∈ y.weights Try.prog t, m ≤ reachBytes := fun j t y hj hy m hm => hw m (by
        rw [hd]
        simp only [DataW.weights, fs38_eq, hty]
        exact DataW.weights_mem_each hj hy m hm)
      have u36 : Try.prog.underlying 36 = some (.slice 5) := by kernel_rfl
      have u23 : Try.prog.underlying 23 = some (.slice 3) := by kernel_rfl
      have u5 : Try.prog.underlying 5 = some (.int .u8) := by kernel_rfl
      have u3 : Try.prog.underlying 3 = some (.int .i64) := by kernel_rfl
      have k5 : Try.prog.cellsOf 5 = 1 := by kernel_rfl
      have k3 : Try.prog.cellsOf 3 = 1 := by kernel_rfl
      obtain ⟨A0, l0, p0, rfl, q0⟩ := reads_cell u36 u5 k5 (of_decide_eq_true (by kernel_rfl)) a0 (hwt 0 36 _ rfl rfl)
      obtain ⟨A1, l1, p1, rfl, q1⟩ := reads_cell u36 u5 k5 (of_decide_eq_true (by kernel_rfl)) a1 (hwt 1 36 _ rfl rfl)
      obtain ⟨A2, l2, p2, rfl, q2⟩ := reads_cell u23 u3 k3 (of_decide_eq_true (by kernel_rfl)) a2 (hwt 2 23 _ rfl rfl)
      obtain ⟨z0, zl0, _, zw0, zr0⟩ := reads_row u36 u5 k5 a0
      obtain ⟨z1, zl1, _, zw1, zr1⟩ := reads_row u36 u5 k5 a1
      obtain ⟨z2, zl2, _, zw2, zr2⟩ := reads_row u23 u3 k3 a2
      obtain ⟨b0, bl0, be0⟩ := bytes_of z0 zw0
      obtain ⟨b1, bl1, be1⟩ := bytes_of z1 zw1
      rw [be0] at zr0
      rw [be1] at zr1
      refine ⟨⟨b0, b1, z2⟩, ⟨by simp only; omega, by simp only; omega, by simp only; omega⟩, .agg _ _ rfl (fun j u hu => ?_) fun j y u hy hu => ?_⟩
      · match j, hu with
        | 0, hu => cases hu; rfl
        | 1, hu => cases hu; rfl
        | 2, hu => cases hu; rfl
      · match j, hy, hu with
        | 0, hy, hu => cases hy; cases hu; exact zr0
        | 1, hy, hu => cases hy; cases hu; exact zr1
        | 2, hy, hu => cases hy; cases hu; exact zr2
theorem arg_size {H : Type} {ts : List TypeId} {ds : List (DataW H)} (h : (DataW.weightsEach Try.prog ts ds).all (· ≤ reachBytes) = true) {j : Nat} {t : TypeId} {d : DataW H} (ht : ts[j]? = some t) (hd : ds[j]? = some d) : ∀ n ∈ d.weights Try.prog t, n ≤ reachBytes := fun n hn => by
  have := List.all_eq_true.1 h n (DataW.weights_mem_each ht hd n hn)
  simpa using this
end Go.Proofs.Ytcnedmkfcbcjkaa.Ra
