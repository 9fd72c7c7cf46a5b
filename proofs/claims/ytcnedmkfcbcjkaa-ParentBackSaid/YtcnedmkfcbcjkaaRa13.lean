/- APPENDS, COPIES, MADE ROWS. -/
import Derived.Test.YtcnedmkfcbcjkaaRa12
set_option linter.unusedVariables false
set_option linter.unusedSimpArgs false
namespace Go.Proofs.Ytcnedmkfcbcjkaa.Ra
open Go Go.RowKit
set_option linter.unusedVariables false
set_option linter.unusedSimpArgs false
variable {w0 : World} {p0 : Base} {E : Env} {s : St} {a : Act} {w : World} {P : Program}

/-- More is kept, in a block that is nobody's. -/
def pRow (p : Nat → Nat → Prop) (wr : Bool) (β : Option Nat) (n : Nat) (b o : Nat) : Prop := p b o ∨ wr = false ∧ β = some b ∧ o < n
theorem Rel.keepRow (h : Rel w0 p0 E s a w) (wr : Bool) {β : Option Nat} (n : Nat) (hβ : ∀ g, β = some g → w0.heap.size ≤ g ∧ g < w.heap.size) (ht : ∀ q ∈ s.toks, ∀ g, β = some g → E.β q.id ≠ some g) (hb : ∀ q ∈ s.boxes, ∀ g, β = some g → E.σ q.1 ≠ some g) :
    Rel w0 p0 { E with p := pRow E.p wr β n } s a w ∧ Ext w E.p w (pRow E.p wr β n) := by
  have he : Ext w E.p w (pRow E.p wr β n) := fun b o hb => ⟨.inl hb, rfl⟩
  refine ⟨{ h with more := h.more.step he (Others.refl _) (fun _ _ _ k => k), tmps := ?_, pold := ?_, pin := ?_, boxes := ?_, toks := ?_ }, he⟩
  · exact fun i v u hi hu => RepV.ext (E' := { E with p := _ }) he rfl rfl (h.tmps i v u hi hu)
  · rintro b o hbs (hp | ⟨_, hp, _⟩)
    · exact h.pold b o hbs hp
    · have := (hβ b hp).1
      omega
  · rintro b o (hp | ⟨_, hp, _⟩)
    · exact h.pin b o hp
    · exact (hβ b hp).2
  · intro q hq
    obtain ⟨g, cur, e, k1, k2, k3, k4, k5, k6⟩ := h.boxes q hq
    refine ⟨g, cur, e, k1, k2, k3, k4, ?_, fun j x u hj hu => ⟨(k6 j x u hj hu).1, RepV.ext (E' := { E with p := _ }) he rfl rfl (k6 j x u hj hu).2⟩⟩
    rintro o (hp | ⟨_, hp, _⟩)
    · exact k5 o hp
    · exact hb q hq g hp k1
  · intro q hq
    obtain ⟨v, k1, hz, A, c, vs, rfl, h1, h3, h4, h5, h6⟩ := h.toks q hq
    refine ⟨_, k1, hz, A, c, vs, rfl, h1, h3, fun o ho => ?_, fun i x j d hi hj => (h5 i x j d hi hj).ext he, ?_⟩
    · obtain ⟨ad, e1, e2, e3, e4⟩ := h4 o ho
      exact ⟨ad, e1, e2, e3, fun hw => .inl (e4 hw)⟩
    · rcases h6 with h6 | ⟨g, cur, e, kβ, kA, kb, kh, kc, kp⟩
      · exact .inl h6
      · refine .inr ⟨g, cur, e, kβ, kA, kb, kh, kc, ?_⟩
        rintro o (hp | ⟨_, hp, _⟩)
        · exact kp o hp
        · exact absurd kβ (ht q hq g hp)
/-- What lies in a row, laid out. -/
theorem srcCells {p : Nat → Nat → Prop} {ys : List D} {sz : Nat} {u : Value} (h : Rep w p (.sl ys) u) (hk : D.chk sz ys = true) (size : Nat) (hs : size = sz) : ∃ (B : Option Addr) (c : Nat) (vs : Nat → Value), u = .slice B ys.length c ∧ (∀ y ∈ ys, y.cells.length = sz) ∧
    (∀ o, o < ys.length * sz → (vs o).oneCell' = true) ∧ (∀ (i : Nat) (x : D) (j : Nat) (d : D), ys[i]? = some x → x.cells[j]? = some d → Rep w p d (vs (i * sz + j))) ∧
    ∀ w1 : World, (∀ ad, w1.cell? ad = w.cell? ad) → ∀ n, n ≤ ys.length → (Builtin.firstCells size n u).run P w1 = .ok ((List.range (n * sz)).map vs).toArray w1 := by
  subst hs
  have hall : ∀ x ∈ ys, x.cells.length = size := by
    intro x hx
    simp only [D.chk, List.all_eq_true, beq_iff_eq] at hk
    exact hk x hx
  cases h with
  | sl _ A c sz' vs hc hs hm hr =>
    have hss : ys ≠ [] → sz' = size := by
      intro hne
      obtain ⟨x, tl, rfl⟩ := List.exists_cons_of_ne_nil hne
      exact (hs x List.mem_cons_self).symm.trans (hall x List.mem_cons_self)
    have hm' : ∀ o, o < ys.length * size → ∃ ad, A = some ad ∧ w.cell? (ad.add o) = some (vs o) ∧ (vs o).oneCell' = true ∧ p ad.block (ad.off + o) := by
      intro o ho
      have hne : ys ≠ [] := by intro e; subst e; simp at ho
      obtain rfl := hss hne
      exact hm o ho
    refine ⟨A, c, vs, rfl, hall, fun o ho => (hm' o ho).choose_spec.2.2.1, fun i x j d hi hj => ?_, fun w1 hw n hn => ?_⟩
    · have hne : ys ≠ [] := by intro e; subst e; simp at hi
      obtain rfl := hss hne
      exact hr i x j d hi hj
    · have hle : n * size ≤ ys.length * size := Nat.mul_le_mul_right _ hn
      cases A with
      | none =>
        have h0 : n * size = 0 := by
          refine Classical.byContradiction fun hne => ?_
          obtain ⟨ad, e, _⟩ := hm' 0 (by omega)
          cases e
        simp [Builtin.firstCells, h0]
      | some ad =>
        simp only [Builtin.firstCells]
        exact run_loadCells w1 ad (n * size) vs fun j hj => by
          obtain ⟨ad', e, e2, _⟩ := hm' j (by omega)
          cases e
          rw [hw]
          exact e2
theorem Rep.drew {p : Nat → Nat → Prop} {d : D} {v : Value} (h : Rep w p d v) : Rep w.drew p d v :=
  Rep.ext (w := w) (p := p) (w' := w.drew) (p' := p) (fun _ _ hb => ⟨hb, rfl⟩) h
theorem range_map_get {n : Nat} {f : Nat → Value} {j : Nat} {v : Value} (h : ((List.range n).map f).toArray[j]? = some v) : j < n ∧ v = f j := by
  simp only [List.getElem?_toArray, List.getElem?_map, Option.map_eq_some_iff] at h
  obtain ⟨k, hk, rfl⟩ := h
  obtain ⟨rfl, hj⟩ := range_get hk
  exact ⟨hj, rfl⟩
theorem append_ok (h : Rel w0 p0 E s a w) {t e : Nat} {i : TI} (ht : P.underlying t = some (.slice e)) (hi : TIok P e i) {wr : Bool} {xs ys : List D} {v u : Value} {β : Option Nat} (hv : RowOk w0.heap.size w E.p wr i.size xs v β)
    (hu : Rep w E.p (.sl ys) u) (hk : D.chk i.size ys = true) (hb : (xs.length + ys.length) * i.bytes ≤ 140737488355328) (hby : 0 < i.bytes) (hft : ∀ q ∈ s.toks, ∀ g, β = some g → E.β q.id ≠ some g) (hfb : ∀ q ∈ s.boxes, ∀ g, β = some g → E.σ q.1 ≠ some g) (d ty : Nat) :
    ∃ v' w' E', (Builtin.append_ #[t, t] ty #[v, u]).run P w = .ok v' w' ∧ Rel w0 p0 E' (s.newTok d wr i.size (xs ++ ys)) a w' ∧ RepV w' E' (.own d) v' := by
  obtain ⟨f, z, f1, f2, f3, f4, f5, f6, f7, f8, f9⟩ := hi.info
  obtain ⟨hz, A, c, vs, rfl, h1, h3, h4, h5, h6⟩ := hv
  obtain ⟨B, c2, vs2, rfl, s1, s2, s3, s4⟩ := srcCells (P := P) hu hk i.size rfl
  have hsmall : xs.length + ys.length ≤ 140737488355328 := Nat.le_trans (Nat.le_mul_of_pos_right _ hby) hb
  have hlen : ∀ k, RowOk w0.heap.size w E.p wr i.size (xs ++ ys) k β → True := fun _ _ => trivial
  have hsizes : ∀ x ∈ xs ++ ys, x.cells.length = i.size := by
    intro x hx
    rcases List.mem_append.1 hx with hx | hx
    · exact h3 x hx
    · exact s1 x hx
  -- the elements' cells, old and new
  have helem : ∀ (w' : World) (p' : Nat → Nat → Prop), Ext w E.p w' p' → ∀ (i' : Nat) (x : D) (j : Nat) (dd : D), (xs ++ ys)[i']? = some x → x.cells[j]? = some dd →
      Rep w' p' dd (if i' * i.size + j < xs.length * i.size then vs (i' * i.size + j) else vs2 (i' * i.size + j - xs.length * i.size)) := by
    intro w' p' he i' x j dd hx hd
    have hj : j < i.size := by
      have := (List.getElem?_eq_some_iff.1 hd).1
      have := hsizes x (List.mem_of_getElem? hx)
      omega
    by_cases hl : i' < xs.length
    · rw [List.getElem?_append_left hl] at hx
      rw [if_pos (mul_in hl hj)]
      exact (h5 i' x j dd hx hd).ext he
    · rw [List.getElem?_append_right (by omega)] at hx
      have hmul : xs.length * i.size ≤ i' * i.size := Nat.mul_le_mul_right _ (by omega)
      rw [if_neg (by omega)]
      have := (s3 (i' - xs.length) x j dd hx hd).ext he
      rw [Nat.sub_mul] at this
      rwa [show i' * i.size + j - xs.length * i.size = i' * i.size - xs.length * i.size + j by omega]
  by_cases hroom : xs.length + ys.length ≤ c
  · rcases h6 with ⟨kβ, kc, kx⟩ | ⟨g, cur, e', kβ, kA, kb, kh, kc, kp⟩
    · -- no room behind it: nothing is appended
      have hy : ys = [] := List.eq_nil_of_length_eq_zero (by omega)
      subst hy
      refine ⟨.slice A xs.length c, w, _, ?_, h.newTok d (wr := wr) (sz := i.size) (xs := xs ++ []) (v := .slice A xs.length c) (β := β) ?_ (fun q hq _ => hft q hq) hfb, ⟨i.size, upd_same _ _ _⟩⟩
      · have hf := s4 w (fun _ => rfl) 0 (Nat.le_refl _)
        cases A with
        | none => simp [Builtin.append_, run_underlying ht, sizeOf, typeInfo, f1, f2, Builtin.lenOf, h1, hf] at *
                  simp [hf]
        | some ad => simp [Builtin.append_, run_underlying ht, sizeOf, typeInfo, f1, f2, Builtin.lenOf, h1, hf, storeCells] at *
                     simp [hf, storeCells]
      · rw [List.append_nil]
        exact ⟨hz, A, c, vs, rfl, h1, h3, h4, h5, .inl ⟨kβ, kc, kx⟩⟩
    · -- room: in place
      subst kA
      have hmul : (xs.length + ys.length) * i.size ≤ c * i.size := Nat.mul_le_mul_right _ hroom
      rw [Nat.add_mul] at hmul
      have hf := s4 w (fun _ => rfl) ys.length (Nat.le_refl _)
      have hnl : ((List.range (ys.length * i.size)).map vs2).length = ys.length * i.size := by simp
      have hst := run_storeCells_at P g (xs.length * i.size) e' ((List.range (ys.length * i.size)).map vs2) 0 cur w kh (by simp; omega) (by
        intro v hv
        obtain ⟨o, ho, rfl⟩ := List.mem_map.1 hv
        exact s2 o (List.mem_range.1 ho))
      have hrun : (Builtin.append_ #[t, t] ty #[.slice (some ⟨g, 0, none⟩) xs.length c, .slice B ys.length c2]).run P w = .ok (.slice (some ⟨g, 0, none⟩) (xs.length + ys.length) c)
          (w.setRow g (cur.toList.take (xs.length * i.size + 0) ++ (List.range (ys.length * i.size)).map vs2 ++ cur.toList.drop (xs.length * i.size + 0 + ((List.range (ys.length * i.size)).map vs2).length)).toArray) := by
        simp only [Nat.add_zero] at hst ⊢
        simp [Builtin.append_, run_underlying ht, sizeOf, typeInfo, f1, f2, Builtin.lenOf, hroom, hf, Addr.add_lit, hst]
      generalize hcur' : (cur.toList.take (xs.length * i.size + 0) ++ (List.range (ys.length * i.size)).map vs2 ++ cur.toList.drop (xs.length * i.size + 0 + ((List.range (ys.length * i.size)).map vs2).length)).toArray = cur' at hrun
      have hcsz : cur'.size = cur.size := by
        rw [← hcur']
        simp
        omega
      have hcell : ∀ o : Nat, cur'[o]? = if xs.length * i.size ≤ o ∧ o < xs.length * i.size + ys.length * i.size then some (vs2 (o - xs.length * i.size)) else cur[o]? := by
        intro o
        rw [← hcur']
        simp only [Nat.add_zero, List.getElem?_toArray]
        have hcl : xs.length * i.size + ys.length * i.size ≤ cur.toList.length := by simp; omega
        rcases Nat.lt_or_ge o (xs.length * i.size) with g1 | g1
        · rw [List.append_assoc, List.getElem?_append_left (by simp at *; omega), List.getElem?_take, if_pos g1, if_neg (by omega)]
          simp
        · rcases Nat.lt_or_ge o (xs.length * i.size + ys.length * i.size) with g2 | g2
          · rw [List.append_assoc, List.getElem?_append_right (by simp at *; omega), List.getElem?_append_left (by simp at *; omega), if_pos ⟨g1, g2⟩]
            simp only [List.length_take]
            rw [show o - min (xs.length * i.size) cur.toList.length = o - xs.length * i.size by omega]
            rw [List.getElem?_map, List.getElem?_range (by omega)]
            rfl
          · rw [List.append_assoc, List.getElem?_append_right (by simp at *; omega), List.getElem?_append_right (by simp at *; omega), List.getElem?_drop, if_neg (by omega)]
            simp only [List.length_take, hnl]
            rw [show xs.length * i.size + ys.length * i.size + (o - min (xs.length * i.size) cur.toList.length - ys.length * i.size) = o by omega]
            simp
      have hp : ∀ o, E.p g o → cur'[o]? = cur[o]? := by
        intro o ho
        have := (kp o ho).2
        rw [hcell, if_neg (by omega)]
      have h7 := h.setRow kh kb hp (s' := s) rfl (fun q hq => .inl ⟨hq, hfb q hq g kβ⟩) (fun q hq => .inl ⟨hq, hft q hq g kβ⟩)
      have hheap := setRow_heap w g cur cur' e' (0, 0) kh
      obtain ⟨h8, he8⟩ := h7.keepRow wr (β := β) ((xs.length + ys.length) * i.size) (fun g' hg' => by rw [kβ] at hg'; cases hg'; exact ⟨kb, by rw [setRow_size]; exact heap_lt kh⟩) hft hfb
      have he : Ext w E.p (w.setRow g cur') (pRow E.p wr β ((xs.length + ys.length) * i.size)) := (setRow_ext kh hp).trans he8
      have hrow : RowOk w0.heap.size (w.setRow g cur') (pRow E.p wr β ((xs.length + ys.length) * i.size)) wr i.size (xs ++ ys) (.slice (some ⟨g, 0, none⟩) (xs.length + ys.length) c) β := by
        refine ⟨hz, some ⟨g, 0, none⟩, c, fun o => if o < xs.length * i.size then vs o else vs2 (o - xs.length * i.size), by simp, by simpa using hroom, hsizes, fun o ho => ?_, fun i' x j dd hx hd => helem _ _ he i' x j dd hx hd, .inr ⟨g, cur', e', kβ, rfl, kb, hheap, by omega, fun o ho => ?_⟩⟩
        · rw [List.length_append, Nat.add_mul] at ho
          refine ⟨_, rfl, ?_, ?_, fun hw => .inr ⟨hw, kβ, by rw [Nat.add_mul]; simpa using ho⟩⟩
          · rw [add_none rfl, Nat.zero_add, cell_in hheap, hcell]
            dsimp only
            by_cases hlt : o < xs.length * i.size
            · rw [if_neg (by omega), if_pos hlt]
              obtain ⟨ad, e1, e2, _⟩ := h4 o hlt
              cases e1
              rw [add_none rfl, Nat.zero_add, cell_in kh] at e2
              exact e2
            · rw [if_pos ⟨by omega, by omega⟩, if_neg hlt]
          · dsimp only
            by_cases hlt : o < xs.length * i.size
            · rw [if_pos hlt]
              obtain ⟨ad, e1, _, e3, _⟩ := h4 o hlt
              exact e3
            · rw [if_neg hlt]
              exact s2 _ (by omega)
        · rcases ho with ho | ⟨hw, _, ho⟩
          · have := kp o ho
            refine ⟨this.1, ?_⟩
            rw [List.length_append, Nat.add_mul]
            omega
          · exact ⟨hw, by rw [List.length_append]; exact ho⟩
      exact ⟨_, _, _, hrun, h8.newTok d hrow (fun q hq _ => hft q hq) hfb, ⟨i.size, upd_same _ _ _⟩⟩
  · -- a new block
    have hcap := grownCap_ge w (xs.length + ys.length) c e
    generalize hnc : grownCap w (xs.length + ys.length) c e = nc at hcap
    have hrep : Rep w (fun _ _ => True) (.sl xs) (.slice A xs.length c) := by
      refine .sl xs A c i.size vs h1 h3 (fun o ho => ?_) fun i' x j dd hx hd => (h5 i' x j dd hx hd).mono fun _ _ _ => trivial
      obtain ⟨ad, e1, e2, e3, _⟩ := h4 o ho
      exact ⟨ad, e1, e2, e3, trivial⟩
    obtain ⟨A', c', vs', hA, _, t2, t3, t4⟩ := srcCells (P := P) hrep (by simp only [D.chk, List.all_eq_true, beq_iff_eq]; exact h3) i.size rfl
    cases hA
    have hf1 := t4 w.drew (fun _ => rfl) xs.length (Nat.le_refl _)
    have hf2 := s4 w.drew (fun _ => rfl) ys.length (Nat.le_refl _)
    let arr : Array Value := ((List.range (xs.length * i.size)).map vs').toArray ++ ((List.range (ys.length * i.size)).map vs2).toArray ++ Builtin.zeroCells z.cells (nc - (xs.length + ys.length))
    have hfit : Builtin.nextslicecap (xs.length + ys.length) c * i.bytes ≤ 281474976710656 := growslice_fits (by omega) hb
    have hrun : (Builtin.append_ #[t, t] ty #[.slice A xs.length c, .slice B ys.length c2]).run P w = .ok (.slice (some ⟨w.heap.size, 0, none⟩) (xs.length + ys.length) nc) (w.drew.alloc (.cells arr e)) := by
      have h63' : ¬ (9223372036854775807 < ((xs.length : Int) + (ys.length : Int))) := by omega
      have h48' : ¬ (281474976710656 < Builtin.nextslicecap (xs.length + ys.length) c * i.bytes) := by omega
      have hq : (Question.appendCap (xs.length + ys.length) c e).cut (w.tape w.drawn (.appendCap (xs.length + ys.length) c e)) = nc := hnc
      simp [Builtin.append_, run_underlying ht, sizeOf, typeInfo, zeroValue, f1, f2, f3, f4, Builtin.lenOf, hroom, h63', h48', Question.forced, hq, hf1, hf2, newRow, arr]
    have hasz : arr.size = nc * i.size := by
      simp only [arr, Array.size_append, List.size_toArray, List.length_map, List.length_range, size_zeroCells, f5]
      rw [← Nat.add_mul, ← Nat.add_mul]
      congr 1
      omega
    have hget : ∀ o, o < (xs.length + ys.length) * i.size → arr[o]? = some (if o < xs.length * i.size then vs' o else vs2 (o - xs.length * i.size)) := by
      intro o ho
      rw [Nat.add_mul] at ho
      simp only [arr]
      rw [Array.getElem?_append, if_pos (by simp; omega), Array.getElem?_append]
      by_cases hlt : o < xs.length * i.size
      · rw [if_pos (by simpa using hlt), if_pos hlt]
        simp [List.getElem?_range hlt]
      · rw [if_neg (by simpa using hlt), if_neg hlt]
        have : o - xs.length * i.size < ys.length * i.size := by omega
        simp [List.getElem?_range this]
    have hpd : ∀ b o, E.p b o → b < w.drew.heap.size := h.pin
    have hrow := newRow_ok (w := w.drew) (p := E.p) (sz := i.size) (c := nc) (e := e) (xs := xs ++ ys) (arr := arr) hz hpd hsizes hasz (by rw [List.length_append]; exact hcap)
      (fun j v hj hv => by
        rw [List.length_append] at hj
        rw [hget j hj] at hv
        cases hv
        rw [Nat.add_mul] at hj
        split
        · rename_i hlt; exact t2 j hlt
        · exact s2 _ (by omega))
      (fun i' x j dd v hx hd hv => by
        have hj : j < i.size := by
          have := (List.getElem?_eq_some_iff.1 hd).1
          have := hsizes x (List.mem_of_getElem? hx)
          omega
        have hi' := (List.getElem?_eq_some_iff.1 hx).1
        rw [List.length_append] at hi'
        rw [hget _ (mul_in hi' hj)] at hv
        cases hv
        by_cases hl : i' < xs.length
        · rw [List.getElem?_append_left hl] at hx
          rw [if_pos (mul_in hl hj)]
          have g1 := h5 i' x j dd hx hd
          have g2 : vs (i' * i.size + j) = vs' (i' * i.size + j) := by
            obtain ⟨ad, e1, e2, _⟩ := h4 _ (mul_in hl hj)
            have hr2 := t4 w (fun _ => rfl) xs.length (Nat.le_refl _)
            subst e1
            simp only [Builtin.firstCells] at hr2
            have hr3 := run_loadCells (P := P) w ad (xs.length * i.size) vs (fun j hj => by
              obtain ⟨ad', e1, e2, _⟩ := h4 j hj
              cases e1
              exact e2)
            rw [hr3] at hr2
            simp only [Result.ok.injEq, and_true] at hr2
            have hl2 := mul_in hl hj
            have := congrArg (fun a : Array Value => a[i' * i.size + j]?) hr2
            simpa [List.getElem?_range hl2] using this
          rw [← g2]
          exact g1.drew
        · rw [List.getElem?_append_right (by omega)] at hx
          have hmul : xs.length * i.size ≤ i' * i.size := Nat.mul_le_mul_right _ (by omega)
          rw [if_neg (by omega)]
          have := (s3 (i' - xs.length) x j dd hx hd).drew
          rw [Nat.sub_mul] at this
          rwa [show i' * i.size + j - xs.length * i.size = i' * i.size - xs.length * i.size + j by omega])
      (base := w0.heap.size) h.size true rfl
    have hbl : Below w.heap.size w (w.drew.alloc (.cells arr e)) := ((Below.refl _ w).drew).alloc (Nat.le_refl _) _
    have h7 := (h.grow hbl (p' := E.p) (fun _ _ h => h) (fun _ _ h => .inl h)).1
    have hnt : ∀ q ∈ s.toks, ∀ g, some w.heap.size = some g → E.β q.id ≠ some g := by
      intro q hq g hg hβ'
      cases hg
      obtain ⟨v, _, _, A, c, vs, _, _, _, _, _, k | ⟨g', cur', e', k1, _, _, k4, _⟩⟩ := h.toks q hq
      · rw [k.1] at hβ'; cases hβ'
      · rw [k1] at hβ'
        cases hβ'
        have := heap_lt k4
        omega
    have hnb : ∀ q ∈ s.boxes, ∀ g, some w.heap.size = some g → E.σ q.1 ≠ some g := by
      intro q hq g hg hσ
      cases hg
      obtain ⟨g', cur', e', k1, k2, k3, _⟩ := h.boxes q hq
      rw [k1] at hσ
      cases hσ
      have := heap_lt k3
      omega
    obtain ⟨h8, he8⟩ := h7.keepRow wr (β := some w.heap.size) ((xs.length + ys.length) * i.size) (fun g' hg' => by cases hg'; exact ⟨h.size, by simp⟩) hnt hnb
    have hrow2 : RowOk w0.heap.size (w.drew.alloc (.cells arr e)) (pRow E.p wr (some w.heap.size) ((xs.length + ys.length) * i.size)) wr i.size (xs ++ ys) (.slice (some ⟨w.heap.size, 0, none⟩) (xs.length + ys.length) nc) (some w.heap.size) := by
      rw [← List.length_append] at he8 ⊢
      obtain ⟨r1, A1, c1, vs1, r2, r3, r4, r5, r6, r7⟩ := hrow
      simp only [Value.slice.injEq] at r2
      obtain ⟨rfl, _, rfl⟩ := r2
      refine ⟨r1, _, _, vs1, rfl, r3, r4, fun o ho => ?_, fun i' x j dd hx hd => (r6 i' x j dd hx hd).ext he8, ?_⟩
      · obtain ⟨ad, e1, e2, e3, e4⟩ := r5 o ho
        cases e1
        exact ⟨_, rfl, e2, e3, fun hw => .inr ⟨hw, rfl, by simpa using ho⟩⟩
      · rcases r7 with ⟨k, _⟩ | ⟨g, cur, e', kβ, kA, kb, kh, kc, kp⟩
        · cases k
        · cases kβ
          refine .inr ⟨_, cur, e', rfl, rfl, kb, kh, kc, ?_⟩
          rintro o (ho | ⟨hw, _, ho⟩)
          · have := (kp o ho).1; cases this
          · exact ⟨hw, ho⟩
    exact ⟨_, _, _, hrun, h8.newTok d hrow2 (fun q hq _ => hnt q hq) hnb, ⟨i.size, upd_same _ _ _⟩⟩
end Go.Proofs.Ytcnedmkfcbcjkaa.Ra
