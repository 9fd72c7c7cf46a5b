/- A LITERAL's ROW; A MADE ROW. -/
import Derived.Test.YtcnedmkfcbcjkaaRa8
set_option linter.unusedVariables false
set_option linter.unusedSimpArgs false
namespace Go.Proofs.Ytcnedmkfcbcjkaa.Ra
open Go Go.RowKit
set_option linter.unusedVariables false
set_option linter.unusedSimpArgs false
variable {w0 : World} {p0 : Base} {E : Env} {s : St} {a : Act} {w : World} {P : Program}

/-- Elements so far, cell by cell. -/
def RArr (w : World) (p : Nat → Nat → Prop) (sz : Nat) (xs : List D) (arr : Array Value) : Prop :=
  arr.size = xs.length * sz ∧ (∀ x ∈ xs, x.cells.length = sz) ∧ (∀ (j : Nat) (v : Value), arr[j]? = some v → v.oneCell' = true) ∧
    ∀ (i : Nat) (x : D) (j : Nat) (d : D) (v : Value), xs[i]? = some x → x.cells[j]? = some d → arr[i * sz + j]? = some v → Rep w p d v
theorem RepZ.data {p : Nat → Nat → Prop} {c : Z} {v : Value} (h : RepZ w p c v) : Rep w p c.data v := by
  cases c with
  | d x => exact h
  | nl n => cases h.2; exact Rep.nil0 _ _
theorem elemZero_ok {t : Nat} {i : TI} (hi : TIok P t i) : (elemZero i).cells.length = i.size ∧ ∀ (j : Nat) (d : D), (elemZero i).cells[j]? = some d → ∃ c, i.zero[j]? = some c ∧ d = c.data := by
  obtain ⟨f, z, h1, h2, h3, h4, h5, h6, h7, h7', h8⟩ := hi.info
  unfold elemZero
  cases hk : i.kind.agg with
  | true =>
    simp only [cond_true, D.cells]
    refine ⟨by simpa using h6, fun j d hd => ?_⟩
    simp only [List.getElem?_map, Option.map_eq_some_iff] at hd
    obtain ⟨c, hc, rfl⟩ := hd
    exact ⟨c, hc, rfl⟩
  | false =>
    simp only [cond_false]
    obtain ⟨h9, h10⟩ := h7' hk
    have hl : i.zero.length = 1 := by omega
    obtain ⟨c, hc⟩ : ∃ c, i.zero = [c] := List.length_eq_one_iff.1 hl
    have hz0 : z.cells[0]? = some (z.cells[0]'(by omega)) := Array.getElem?_eq_getElem _
    have hok := h8 0 c _ (by rw [hc]; rfl) hz0
    have hdata : c.data.cells = [c.data] := by
      have hr : ∀ w p, Rep w p c.data (z.cells[0]'(by omega)) := by
        intro w p
        cases hcc : c with
        | d x => rw [hcc] at hok; exact hok.2 w p
        | nl n => rw [hcc] at hok; rw [hok.2.2]; exact Rep.nil0 _ _
      have h1 := hok.1
      generalize c.data = d at hr
      have hr := hr default (fun _ _ => True)
      generalize (z.cells[0]'(by omega)) = v at h1 hr
      cases hr <;> first | rfl | (simp [Value.oneCell'] at h1; done)
    rw [hc]
    simp only [List.map_cons, List.map_nil, List.headD_cons]
    rw [hdata]
    refine ⟨by simp; omega, fun j d hd => ?_⟩
    cases j with
    | zero => simp only [List.getElem?_cons_zero, Option.some.injEq] at hd; exact ⟨c, rfl, hd.symm⟩
    | succ j => simp at hd
theorem zeroRow {t : Nat} {i : TI} (hi : TIok P t i) (p : Nat → Nat → Prop) (n : Nat) {z : Value} (hz : ZArr w p i.zero z.cells) (hzs : z.cells.size = i.size) :
    RArr w p i.size (List.replicate n (elemZero i)) ((Array.range (n * i.size)).map (z.cells[· % z.cells.size]!)) := by
  obtain ⟨h1, h2⟩ := elemZero_ok hi
  have hget : ∀ (k : Nat) (v : Value), ((Array.range (n * i.size)).map (z.cells[· % z.cells.size]!))[k]? = some v → z.cells[k % i.size]? = some v := by
    intro k v hk
    simp only [Array.getElem?_map, Option.map_eq_some_iff] at hk
    obtain ⟨m, hm, rfl⟩ := hk
    have hm' : m = k := by
      obtain ⟨g1, g2⟩ := Array.getElem?_eq_some_iff.1 hm
      simpa using g2.symm
    subst hm'
    rw [hzs]
    have hlt : m % i.size < z.cells.size := by rw [hzs]; exact Nat.mod_lt _ hi.pos
    rw [getElem!_pos z.cells (m % i.size) hlt, Array.getElem?_eq_getElem hlt]
  refine ⟨by simp, fun x hx => ?_, fun j v hv => hz.2.1 _ v (hget j v hv), fun i' x j d v hx hd hv => ?_⟩
  · rw [List.mem_replicate] at hx
    rw [hx.2]
    exact h1
  · rw [List.getElem?_replicate] at hx
    split at hx
    · cases hx
      obtain ⟨c, hc, rfl⟩ := h2 j d hd
      have hj : j < i.size := by have := (List.getElem?_eq_some_iff.1 hd).1; omega
      have := hget _ v hv
      rw [Nat.mul_comm, Nat.mul_add_mod, Nat.mod_eq_of_lt hj] at this
      exact (hz.2.2 j c v hc this).data
    · cases hx
theorem rowK_ok (h : Rel w0 p0 E s a w) {R : Type} {sz : Nat} : ∀ {l : List (Nat × Operand)} {xs : List D} {arr : Array Value} {k : List D → Option R} {r : R}, rowK s sz l xs k = some r → RArr w E.p sz xs arr →
      ∃ xs' arr', k xs' = some r ∧ Instr.fill (fun i => some (i * sz, sz)) arr (l.map fun q => (q.1, a.eval q.2)) = some arr' ∧ RArr w E.p sz xs' arr' ∧ xs'.length = xs.length := by
  intro l
  induction l with
  | nil => intro xs arr k r hk hz; exact ⟨xs, arr, hk, rfl, hz, rfl⟩
  | cons q l ih =>
    obtain ⟨f, x⟩ := q
    intro xs arr k r hk hz
    simp only [rowK, Option.bind_eq_some_iff] at hk
    obtain ⟨y, h2, hk⟩ := hk
    have hrep := h.asD (h.opnd x) h2
    cases hb : (y.fit sz && decide (f < xs.length)) with
    | false => rw [hb] at hk; cases hk
    | true =>
      rw [hb] at hk
      simp only [cond_true] at hk
      simp only [Bool.and_eq_true, decide_eq_true_eq] at hb
      obtain ⟨b1, b2⟩ := hb
      obtain ⟨o1, o2, o3⟩ := hrep.fit b1
      have hmul : f * sz + sz ≤ xs.length * sz := by
        have : (f + 1) * sz ≤ xs.length * sz := Nat.mul_le_mul_right _ b2
        rwa [Nat.add_mul, Nat.one_mul] at this
      obtain ⟨arr', e1, e2, e3⟩ := fill_step (fun i => some (i * sz, sz)) arr f (a.eval x) (l.map fun q => (q.1, a.eval q.2)) rfl o1 (by rw [hz.1]; exact hmul)
      have hz' : RArr w E.p sz (xs.set f y) arr' := by
        refine ⟨by rw [e2, hz.1, List.length_set], fun x hx => ?_, fun j v hv => ?_, fun i x j d v hx hd hv => ?_⟩
        · rcases List.mem_or_eq_of_mem_set hx with hx | rfl
          · exact hz.2.1 x hx
          · exact o2
        · rw [e3] at hv
          split at hv
          · rename_i hin
            have hj : j - f * sz < y.cells.length := by omega
            obtain ⟨u, u1, u2, _⟩ := o3 (j - f * sz) _ (List.getElem?_eq_getElem hj)
            rw [u1] at hv
            cases hv
            exact u2
          · exact hz.2.2.1 j v hv
        · rw [e3] at hv
          rw [List.getElem?_set] at hx
          by_cases hfi : f = i
          · subst hfi
            rw [if_pos rfl, if_pos b2] at hx
            cases hx
            have hj : j < sz := by have := (List.getElem?_eq_some_iff.1 hd).1; omega
            rw [if_pos ⟨by omega, by omega⟩, show f * sz + j - f * sz = j by omega] at hv
            obtain ⟨u, u1, _, u3⟩ := o3 j d hd
            rw [u1] at hv
            cases hv
            exact u3
          · rw [if_neg hfi] at hx
            have hj : j < sz := by
              have := (List.getElem?_eq_some_iff.1 hd).1
              have := hz.2.1 x (List.mem_of_getElem? hx)
              omega
            have hne : ¬ (f * sz ≤ i * sz + j ∧ i * sz + j < f * sz + sz) := by
              rintro ⟨g1, g2⟩
              rcases Nat.lt_or_gt_of_ne hfi with hlt | hlt
              · have : (f + 1) * sz ≤ i * sz := Nat.mul_le_mul_right _ hlt
                rw [Nat.add_mul] at this
                omega
              · have : (i + 1) * sz ≤ f * sz := Nat.mul_le_mul_right _ hlt
                rw [Nat.add_mul] at this
                omega
            rw [if_neg hne] at hv
            exact hz.2.2.2 i x j d v hx hd hv
      obtain ⟨xs', arr2, m1, m2, m3, m4⟩ := ih hk hz'
      exact ⟨xs', arr2, m1, by simp only [List.map_cons]; rw [e1]; exact m2, m3, by rw [m4, List.length_set]⟩
/-- A new row of the call's own. -/
theorem newRow_ok {p : Nat → Nat → Prop} {sz c e : Nat} {xs : List D} {arr : Array Value} (hsz : 0 < sz) (hp : ∀ b o, p b o → b < w.heap.size) (hs : ∀ x ∈ xs, x.cells.length = sz) (harr : arr.size = c * sz) (hc : xs.length ≤ c)
    (h1 : ∀ (j : Nat) (v : Value), j < xs.length * sz → arr[j]? = some v → v.oneCell' = true)
    (hr : ∀ (i : Nat) (x : D) (j : Nat) (d : D) (v : Value), xs[i]? = some x → x.cells[j]? = some d → arr[i * sz + j]? = some v → Rep w p d v) {base : Nat} (hb : base ≤ w.heap.size) (wr : Bool) (hwr : wr = true) :
    RowOk base (w.alloc (.cells arr e)) p wr sz xs (.slice (some ⟨w.heap.size, 0, none⟩) xs.length c) (some w.heap.size) := by
  have hcm : xs.length * sz ≤ c * sz := Nat.mul_le_mul_right _ hc
  have hext : Ext w p (w.alloc (.cells arr e)) p := fun b o hbo => ⟨hbo, World.cell?_alloc_lt w _ _ (hp b o hbo)⟩
  refine ⟨hsz, _, c, fun o => arr.getD o undef, rfl, hc, hs, fun o ho => ?_, fun i x j d hi hj => ?_, .inr ⟨w.heap.size, arr, e, rfl, rfl, hb, heap_alloc_new w _, harr, fun o ho => absurd (hp _ _ ho) (by omega)⟩⟩
  · have hlt : o < arr.size := by omega
    refine ⟨_, rfl, ?_, ?_, fun e => by rw [hwr] at e; cases e⟩
    · rw [add_none rfl, Nat.zero_add, World.cell?_alloc_new, Array.getElem?_eq_getElem hlt]
      simp [Array.getD, hlt]
    · have := h1 o _ ho (Array.getElem?_eq_getElem hlt)
      simpa [Array.getD, hlt] using this
  · have hij : i * sz + j < arr.size := by
      have h2 := hs x (List.mem_of_getElem? hi)
      have h3 := (List.getElem?_eq_some_iff.1 hi).1
      have h4 := (List.getElem?_eq_some_iff.1 hj).1
      have := mul_in h3 (show j < sz by omega)
      omega
    have := (hr i x j d _ hi hj (Array.getElem?_eq_getElem hij)).ext hext
    simpa [Array.getD, hij] using this
theorem below_alloc (w : World) (o : Obj) : Below w.heap.size w (w.alloc o) := (Below.refl _ w).alloc (Nat.le_refl _) o
theorem buildSlice_ok (h : Rel w0 p0 E s a w) {T : TE} (hT : TOk P T) {t len : Nat} {i : TI} (ht : elemOf T t = some i) {parts : Array (Nat × Operand)} {R : Type} {k : List D → Option R} {r : R} (hl : len * i.size ≤ 16777216)
    (hk : rowK s i.size parts.toList (List.replicate len (elemZero i)) k = some r) :
    ∃ xs arr e, k xs = some r ∧ (Instr.buildSlice t len (parts.map fun q => (q.1, a.eval q.2))).run P w = .ok (.slice (some ⟨w.heap.size, 0, none⟩) xs.length xs.length) (w.alloc (.cells arr e)) ∧
      ∀ base, base ≤ w.heap.size → RowOk base (w.alloc (.cells arr e)) E.p true i.size xs (.slice (some ⟨w.heap.size, 0, none⟩) xs.length xs.length) (some w.heap.size) := by
  obtain ⟨e, h1, h2⟩ := elemOf_spec hT ht
  obtain ⟨z, z1, z2, z3, _⟩ := zero_arr h2 w E.p
  have hpos := h2.pos
  obtain ⟨xs, arr, m1, m2, m3, m4⟩ := rowK_ok h hk (zeroRow h2 E.p len z2 z3)
  rw [List.length_replicate] at m4
  have hle : len ≤ len * i.size := Nat.le_mul_of_pos_right _ hpos
  refine ⟨xs, arr, e, m1, ?_, fun base hb => newRow_ok hpos h.pin m3.2.1 m3.1 (Nat.le_refl _) (fun j v _ => m3.2.2.1 j v) m3.2.2.2 hb true rfl⟩
  have hmap : (parts.map fun q => (q.1, a.eval q.2)).toList = parts.toList.map fun q => (q.1, a.eval q.2) := by simp
  rw [m4]
  by_cases h0 : len = 0
  · subst h0
    have hx : (Array.range (0 * i.size)).map (z.cells[· % z.cells.size]!) = #[] := by simp
    rw [hx] at m2
    simp only [Instr.buildSlice, Sem.run_bind, run_underlying h1, Result.andThen_ok, h2.run_sizeOf]
    rw [if_neg (by simp)]
    have hx' : (Array.range 0).map (fun x => (#[] : Array Value)[x % (#[] : Array Value).size]!) = #[] := by simp
    simp only [Nat.zero_mul, if_true, Sem.run_bind, Sem.run_pure, Result.andThen_ok, hx', hmap, m2, newRow, run_newObj, World.alloc_eq]
  · have hne : ¬ len * i.size = 0 := by
      have := Nat.mul_pos (Nat.pos_of_ne_zero h0) hpos
      omega
    simp only [Instr.buildSlice, Sem.run_bind, run_underlying h1, Result.andThen_ok, h2.run_sizeOf]
    rw [if_neg (by omega)]
    simp only [if_neg hne, Sem.run_bind, z1, Sem.run_pure, Result.andThen_ok, hmap, m2, newRow, run_newObj, World.alloc_eq]
end Go.Proofs.Ytcnedmkfcbcjkaa.Ra
