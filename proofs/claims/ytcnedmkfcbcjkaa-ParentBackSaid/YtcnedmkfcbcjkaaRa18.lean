/- REGIONS THAT DRAW THEIR ORDER: every order tells what the text's order tells. -/
import Derived.Test.YtcnedmkfcbcjkaaRa17
set_option linter.unusedVariables false
set_option linter.unusedSimpArgs false
namespace Go.Proofs.Ytcnedmkfcbcjkaa.Ra
open Go Go.RowKit
set_option linter.unusedVariables false
set_option linter.unusedSimpArgs false
variable {w0 : World} {p0 : Base} {E : Env} {s : St} {a : Act} {w : World} {P : Program} {ops : Array Oper} {m : Nat}

theorem dstOf_mem {l : List Oper} {t j : Nat} : j ∈ dstOf l t ↔ ∃ o, l[j]? = some o ∧ o.dst = some t := by
  unfold dstOf
  simp only [List.mem_filter, List.mem_range, beq_iff_eq, Option.bind_eq_some_iff]
  constructor
  · rintro ⟨_, o, h1, h2⟩; exact ⟨o, h1, h2⟩
  · rintro ⟨o, h1, h2⟩; exact ⟨(List.getElem?_eq_some_iff.1 h1).1, o, h1, h2⟩
structure Quiet (ops : Array Oper) (m i : Nat) (o : Oper) : Prop where
  quiet : quietOp o.op = true
  back : ∀ e ∈ o.after, e.on < i
  dst : ∃ d, o.dst = some d ∧ dstOf (ops.toList.take m) d = [i]
  operands : ∀ t, Operand.tmp t ∈ o.op.operands → ∀ j ∈ dstOf (ops.toList.take m) t, j < i ∧ behind o j = true
  guard : ∀ j want, o.guard = some (j, want) → j < i ∧ behind o j = true ∧ ∀ t, (ops[j]?).bind (·.dst) = some t → dstOf (ops.toList.take m) t = [j]
theorem quietAll_spec (h : quietAll (ops.toList.take m) = true) {i : Nat} {o : Oper} (ho : ops[i]? = some o) (him : i < m) : Quiet ops m i o := by
  unfold quietAll at h
  rw [List.all_eq_true] at h
  have hlt : i < (ops.toList.take m).length := by
    have := (Array.getElem?_eq_some_iff.1 ho).1
    simp
    omega
  have h1 := h i (List.mem_range.2 hlt)
  have ho' : (ops.toList.take m)[i]? = some o := by rw [List.getElem?_take, if_pos him]; simpa using ho
  rw [ho'] at h1
  simp only [Bool.and_eq_true] at h1
  obtain ⟨⟨⟨⟨h1, h2⟩, h3⟩, h4⟩, h5⟩ := h1
  refine ⟨h1, fun e he => ?_, ?_, fun t ht j hj => ?_, fun j want hg => ?_⟩
  · rw [List.all_eq_true] at h2
    simpa using h2 e (by simpa using he)
  · split at h3
    · rename_i d hd
      exact ⟨d, hd, by simpa using h3⟩
    · cases h3
  · rw [List.all_eq_true] at h4
    have := h4 (.tmp t) (by simpa using ht)
    simp only [List.all_eq_true] at this
    simpa using this j hj
  · rw [hg] at h5
    simp only [Bool.and_eq_true, decide_eq_true_eq] at h5
    refine ⟨h5.1.1, h5.1.2, fun t ht => ?_⟩
    have h6 := h5.2
    have ht' : ((ops.toList.take m)[j]?).bind (·.dst) = some t := by rw [List.getElem?_take, if_pos (by have := h5.1.1; omega)]; simpa using ht
    rw [ht'] at h6
    simpa using h6
theorem behind_spec {o : Oper} {j : Nat} (h : behind o j = true) : ∃ e ∈ o.after, e.on = j ∧ Region.binds .any e = true := by
  unfold behind at h
  rw [List.any_eq_true] at h
  obtain ⟨e, he, hb⟩ := h
  simp only [Bool.and_eq_true, beq_iff_eq] at hb
  exact ⟨e, by simpa using he, hb.1, hb.2⟩

theorem opnd_const (s s' : St) (v : Value) : s.opnd (.const v) = s'.opnd (.const v) := by
  cases v <;> try rfl
  rename_i ad n c
  cases ad <;> try rfl
  cases n <;> try rfl
  cases c <;> rfl
/-- What the temporaries hold when those of L are done. -/
def mk (ops : Array Oper) (m : Nat) (s : St) (val : Nat → V) (L : Nat → Bool) : St :=
  { s with tmps := s.tmps.mapIdx fun t v => match (dstOf (ops.toList.take m) t).head? with | some i => cond (L i) (val i) v | none => v }
theorem mk_congr {val val' : Nat → V} {L L' : Nat → Bool} (h : ∀ i, i < m → L i = L' i ∧ (L i = true → val i = val' i)) : mk ops m s val L = mk ops m s val' L' := by
  unfold mk
  congr 1
  apply List.ext_getElem?
  intro t
  rw [List.getElem?_mapIdx, List.getElem?_mapIdx]
  cases s.tmps[t]? with
  | none => rfl
  | some v =>
    simp only [Option.map_some, Option.some.injEq]
    cases hh : (dstOf (ops.toList.take m) t).head? with
    | none => rfl
    | some i =>
      obtain ⟨o, ho, _⟩ := dstOf_mem.1 (List.mem_of_mem_head? hh)
      have hi : i < m := by have := (List.getElem?_eq_some_iff.1 ho).1; simp at this; omega
      obtain ⟨h1, h2⟩ := h i hi
      simp only
      rw [← h1]
      cases hL : L i with
      | true => simp only [cond_true]; exact h2 hL
      | false => rfl
theorem mk_none {val : Nat → V} {L : Nat → Bool} (h : ∀ i, i < m → L i = false) : mk ops m s val L = s := by
  unfold mk
  have : s.tmps.mapIdx (fun t v => match (dstOf (ops.toList.take m) t).head? with | some i => cond (L i) (val i) v | none => v) = s.tmps := by
    apply List.ext_getElem?
    intro t
    rw [List.getElem?_mapIdx]
    cases s.tmps[t]? with
    | none => rfl
    | some v =>
      simp only [Option.map_some, Option.some.injEq]
      cases hh : (dstOf (ops.toList.take m) t).head? with
      | none => rfl
      | some i =>
        obtain ⟨o, ho, _⟩ := dstOf_mem.1 (List.mem_of_mem_head? hh)
        have hi : i < m := by have := (List.getElem?_eq_some_iff.1 ho).1; simp at this; omega
        simp only [h i hi, cond_false]
  rw [this]
theorem mk_put {val val' : Nat → V} {L L' : Nat → Bool} {i d : Nat} (hd : dstOf (ops.toList.take m) d = [i]) {v : V} (hv : val' i = v) (h : ∀ j, j < m → L' j = (j == i || L j) ∧ (L j = true → j ≠ i → val' j = val j)) :
    (mk ops m s val L).put (some d) v = mk ops m s val' L' := by
  unfold mk
  simp only [St.put]
  congr 1
  apply List.ext_getElem?
  intro t
  rw [List.getElem?_set, List.getElem?_mapIdx, List.getElem?_mapIdx]
  have hi : i < m := by
    obtain ⟨o, ho, _⟩ := dstOf_mem.1 (show i ∈ dstOf (ops.toList.take m) d by rw [hd]; exact List.mem_singleton.2 rfl)
    have := (List.getElem?_eq_some_iff.1 ho).1
    simp at this
    omega
  by_cases e : d = t
  · subst e
    rw [if_pos rfl]
    simp only [List.length_mapIdx]
    cases ht : s.tmps[d]? with
    | none => rw [if_neg (by rw [List.getElem?_eq_none_iff] at ht; omega)]; rfl
    | some u =>
      rw [if_pos (List.getElem?_eq_some_iff.1 ht).1]
      simp only [hd, List.head?_cons, Option.map_some, (h i hi).1, beq_self_eq_true, Bool.true_or, cond_true, hv]
  · rw [if_neg e]
    cases ht : s.tmps[t]? with
    | none => rfl
    | some u =>
      simp only [Option.map_some, Option.some.injEq]
      cases hh : (dstOf (ops.toList.take m) t).head? with
      | none => rfl
      | some j =>
        obtain ⟨o, ho, hdt⟩ := dstOf_mem.1 (List.mem_of_mem_head? hh)
        have hj : j < m := by have := (List.getElem?_eq_some_iff.1 ho).1; simp at this; omega
        have hne : j ≠ i := by
          rintro rfl
          obtain ⟨o', ho', hd'⟩ := dstOf_mem.1 (show j ∈ dstOf (ops.toList.take m) d by rw [hd]; exact List.mem_singleton.2 rfl)
          rw [ho] at ho'
          cases ho'
          rw [hdt] at hd'
          cases hd'
          exact e rfl
        obtain ⟨h1, h2⟩ := h j hj
        simp only [h1, show (j == i) = false by simpa using hne, Bool.false_or]
        cases hL : L j with
        | true => simp only [cond_true]; exact (h2 hL hne).symm
        | false => rfl
theorem mk_get {val : Nat → V} {L L' : Nat → Bool} {t : Nat} (h : ∀ j ∈ dstOf (ops.toList.take m) t, L j = L' j) : (mk ops m s val L).get t = (mk ops m s val L').get t := by
  unfold St.get mk
  simp only [List.getD_eq_getElem?_getD]
  rw [List.getElem?_mapIdx, List.getElem?_mapIdx]
  cases s.tmps[t]? with
  | none => rfl
  | some v =>
    simp only [Option.map_some, Option.getD_some]
    cases hh : (dstOf (ops.toList.take m) t).head? with
    | none => rfl
    | some j => simp only [h j (List.mem_of_mem_head? hh)]
theorem put_same {t : Nat} {b : Bool} (h : asB (s.get t) = some b) : s.put (some t) (.d (.bool b)) = s := by
  have h1 : s.get t = .d (.bool b) := by
    cases hv : s.get t with
    | d x =>
      rw [hv] at h
      cases x with
      | bool c => cases h; rfl
      | _ => cases h
    | _ => rw [hv] at h; cases h
  have h2 : s.tmps[t]? = some (.d (.bool b)) := by
    unfold St.get at h1
    rw [List.getD_eq_getElem?_getD] at h1
    cases hx : s.tmps[t]? with
    | none => rw [hx] at h1; cases h1
    | some v => rw [hx] at h1; exact congrArg some h1
  unfold St.put
  have : s.tmps.set t (.d (.bool b)) = s.tmps := by
    apply List.ext_getElem?
    intro j
    rw [List.getElem?_set]
    split
    · rename_i e; subst e; rw [if_pos (List.getElem?_eq_some_iff.1 h2).1]; exact h2.symm
    · rfl
  simp only [this]
theorem guard_param {R : Type} {o : Oper} {j : St → Bool → Option R} {r : R} (h : guardK ops o s j = some r) : ∃ run, j s run = some r ∧ guardK ops o s (fun _ b => some b) = some run := by
  unfold guardK at h ⊢
  cases hg : o.guard with
  | none => rw [hg] at h; exact ⟨true, h, rfl⟩
  | some iw =>
    obtain ⟨i, want⟩ := iw
    rw [hg] at h
    simp only at h ⊢
    cases hd : (ops[i]?).bind (·.dst) with
    | none => rw [hd] at h; cases h
    | some t =>
      rw [hd] at h
      simp only at h ⊢
      have known : ∀ v : V, s.get t = v → ((asB v).bind fun b => cond b (j (s.put (some t) (.d (.bool true))) want) (j (s.put (some t) (.d (.bool false))) (!want))) = some r →
          ∃ run, j s run = some r ∧ ((asB v).bind fun b => cond b (some want) (some (!want))) = some run := by
        intro v hv h
        obtain ⟨b, hb, h⟩ := Option.bind_eq_some_iff.1 h
        rw [← hv] at hb
        have := put_same hb
        rw [hv] at hb
        rw [hb]
        cases b with
        | true => rw [cond_true, this] at h; exact ⟨want, h, rfl⟩
        | false => rw [cond_false, this] at h; exact ⟨!want, h, rfl⟩
      cases hv : s.get t with
      | undef => rw [hv] at h; exact ⟨false, h, rfl⟩
      | d x => rw [hv] at h; exact known _ hv h
      | nil => rw [hv] at h; exact known _ hv h
      | own x => rw [hv] at h; exact known _ hv h
      | box x y => rw [hv] at h; exact known _ hv h
      | elp x y z => rw [hv] at h; exact known _ hv h
      | agg x => rw [hv] at h; exact known _ hv h
theorem guard_congr {o : Oper} {s2 : St} (h : ∀ i want t, o.guard = some (i, want) → (ops[i]?).bind (·.dst) = some t → s2.get t = s.get t) : guardK ops o s2 (fun _ b => some b) = guardK ops o s (fun _ b => some b) := by
  unfold guardK
  cases hg : o.guard with
  | none => rfl
  | some iw =>
    obtain ⟨i, want⟩ := iw
    simp only
    cases hd : (ops[i]?).bind (·.dst) with
    | none => rfl
    | some t => simp only [h i want t hg hd]
section
variable {T : TE} {CV : Nat → Nat → Option Conv} {C : CT}
def Good (T : TE) (CV : Nat → Nat → Option Conv) (C : CT) (ops : Array Oper) (m : Nat) (s : St) (val : Nat → V) (i : Nat) (o : Oper) : Prop :=
  (guardK ops o (mk ops m s val fun j => decide (j < i)) (fun _ b => some b) = some true ∧ ∀ l2 : List V, (∀ x ∈ o.op.operands, ({ mk ops m s val (fun j => decide (j < i)) with tmps := l2 } : St).opnd x = (mk ops m s val fun j => decide (j < i)).opnd x) →
    ∀ (R' : Type) (K' : V → Option R'), vOp T CV C o.op { mk ops m s val (fun j => decide (j < i)) with tmps := l2 } K' = K' (val i)) ∨
  (guardK ops o (mk ops m s val fun j => decide (j < i)) (fun _ b => some b) = some false ∧ val i = .undef)
theorem evQ_chain (hms : m ≤ ops.size) (hq : quietAll (ops.toList.take m) = true) {R : Type} {K : St → Option R} {r : R} : ∀ (l : List Oper) (k : Nat) (val0 : Nat → V), (ops.toList.take m).drop k = l → evQ T CV C ops l (mk ops m s val0 fun j => decide (j < k)) K = some r →
    ∃ val : Nat → V, (∀ j, j < k → val j = val0 j) ∧ (∀ i o, k ≤ i → i < m → ops[i]? = some o → Good T CV C ops m s val i o) ∧ K (mk ops m s val fun j => decide (j < m)) = some r := by
  intro l
  induction l with
  | nil =>
    intro k val0 hl h
    have hk : m ≤ k := by
      have := congrArg List.length hl
      simp at this
      omega
    refine ⟨val0, fun _ _ => rfl, fun i o hi him ho => ?_, ?_⟩
    · omega
    · rw [mk_congr (val' := val0) (L' := fun j => decide (j < k))]
      · exact h
      · intro i hi
        exact ⟨by simp [hi, show i < k by omega], fun _ => rfl⟩
  | cons o l ih =>
    intro k val0 hl h
    have hko : (ops.toList.take m)[k]? = some o := by
      have := congrArg (fun l => l[0]?) hl
      simpa using this
    have hk : k < m := by have := (List.getElem?_eq_some_iff.1 hko).1; simp at this; omega
    have hko' : ops[k]? = some o := by rw [List.getElem?_take, if_pos hk] at hko; simpa using hko
    have hl' : (ops.toList.take m).drop (k + 1) = l := by
      have := congrArg (List.drop 1) hl
      simpa [Nat.add_comm] using this
    obtain ⟨d, hd1, hd2⟩ := (quietAll_spec hq hko' hk).dst
    unfold evQ at h
    obtain ⟨run, h1, h2⟩ := guard_param h
    have next : ∀ v : V, evQ T CV C ops l ((mk ops m s val0 fun j => decide (j < k)).put o.dst v) K = some r →
        ∃ val : Nat → V, (∀ j, j < k → val j = val0 j) ∧ val k = v ∧ (∀ i o, k + 1 ≤ i → i < m → ops[i]? = some o → Good T CV C ops m s val i o) ∧ K (mk ops m s val fun j => decide (j < m)) = some r := by
      intro v hv
      rw [hd1, mk_put hd2 (val' := fun j => if j = k then v else val0 j) (L' := fun j => decide (j < k + 1)) (by simp) (fun j hj => ⟨by
        by_cases e : j = k
        · simp [e]
        · have : (j == k) = false := by simpa using e
          rw [this, Bool.false_or]
          simp only [decide_eq_decide]
          omega, fun _ hne => by simp [hne]⟩)] at hv
      obtain ⟨val, g1, g2, g3⟩ := ih (k + 1) _ hl' hv
      refine ⟨val, fun j hj => ?_, ?_, g2, g3⟩
      · rw [g1 j (by omega), if_neg (by omega)]
      · rw [g1 k (by omega), if_pos rfl]
    have same : ∀ val : Nat → V, (∀ j, j < k → val j = val0 j) → mk ops m s val (fun j => decide (j < k)) = mk ops m s val0 (fun j => decide (j < k)) := fun val hv =>
      mk_congr fun i hi => ⟨rfl, fun hh => hv i (by simpa using hh)⟩
    cases run with
    | true =>
      simp only [cond_true] at h1
      obtain ⟨v, g1, g2⟩ := vOp_param h1
      obtain ⟨val, m1, m2, m3, m4⟩ := next v g1
      refine ⟨val, m1, fun i o' hi him ho' => ?_, m4⟩
      rcases Nat.lt_or_ge k i with hlt | hge
      · exact m3 i o' hlt him ho'
      · have : i = k := by omega
        subst this
        rw [hko'] at ho'
        cases ho'
        refine .inl ?_
        rw [same val m1, m2]
        exact ⟨h2, g2⟩
    | false =>
      simp only [cond_false] at h1
      obtain ⟨val, m1, m2, m3, m4⟩ := next .undef h1
      refine ⟨val, m1, fun i o' hi him ho' => ?_, m4⟩
      rcases Nat.lt_or_ge k i with hlt | hge
      · exact m3 i o' hlt him ho'
      · have : i = k := by omega
        subst this
        rw [hko'] at ho'
        cases ho'
        refine .inr ?_
        rw [same val m1]
        exact ⟨h2, m2⟩
theorem bef_listed {listed : Array Bool} (hdc : ∀ i o, ops[i]? = some o → listed.getD i true = true → ∀ e ∈ o.after, Region.binds .any e = true → listed.getD e.on false = true) :
    ∀ (f : Nat) {j i : Nat} {o : Oper}, ops[i]? = some o → (∀ e ∈ o.after, Region.binds .any e = true → listed.getD e.on false = true) → bef ops f j i = true → listed.getD j false = true := by
  intro f
  induction f with
  | zero => intro j i o _ _ h; cases h
  | succ f ih =>
    intro j i o ho hl h
    unfold bef at h
    rw [ho] at h
    simp only [List.any_eq_true, Bool.and_eq_true, Bool.or_eq_true, beq_iff_eq] at h
    obtain ⟨e, he, hb, h⟩ := h
    have h1 := hl e (by simpa using he) hb
    rcases h with rfl | h
    · exact h1
    · rcases Nat.lt_or_ge e.on ops.size with hlt | hge
      · refine ih (Array.getElem?_eq_getElem hlt) (hdc e.on _ (Array.getElem?_eq_getElem hlt) ?_) h
        rw [Array.getD_eq_getD_getElem?] at h1 ⊢
        cases hx : listed[e.on]? with
        | none => rfl
        | some b => rw [hx] at h1; exact h1
      · cases f with
        | zero => cases h
        | succ f =>
          unfold bef at h
          rw [Array.getElem?_eq_none hge] at h
          cases h
theorem bef_lt (hd : ∀ i o, ops[i]? = some o → ∀ e ∈ o.after, Region.binds .any e = true → e.on < i) : ∀ (f : Nat) {j i : Nat}, bef ops f j i = true → j < i := by
  intro f
  induction f with
  | zero => intro j i h; cases h
  | succ f ih =>
    intro j i h
    unfold bef at h
    cases ho : ops[i]? with
    | none => rw [ho] at h; cases h
    | some o =>
      rw [ho] at h
      simp only [List.any_eq_true, Bool.and_eq_true, Bool.or_eq_true, beq_iff_eq] at h
      obtain ⟨e, he, hb, h⟩ := h
      have h1 := hd i o ho e (by simpa using he) hb
      rcases h with rfl | h
      · exact h1
      · have := ih h; omega
theorem tailOk_spec (h : tailOk ops m = true) {i : Nat} {o : Oper} (hi : m ≤ i) (ho : ops[i]? = some o) : (∀ j, j < i → bef ops ops.size j i = true) ∧ ∀ e ∈ o.after, Region.binds .any e = true → e.on < i := by
  unfold tailOk at h
  rw [List.all_eq_true] at h
  have h1 := h i (List.mem_range.2 (Array.getElem?_eq_some_iff.1 ho).1)
  rw [ho] at h1
  have h0 : decide (i < m) = false := by simp; omega
  simp only [h0, Bool.false_or, Bool.and_eq_true, List.all_eq_true, List.mem_range] at h1
  refine ⟨h1.1, fun e he hb => ?_⟩
  have := h1.2.1 e (by simpa using he)
  simpa [hb] using this
theorem tail_sound (hT : TOk P T) (hV : CVOk P CV) (hC : COk P C) {R : Type} {k : St → Option R} {r : R} {Q : Exit → Act → World → Prop} (hn : ∀ s' a' w' E', k s' = some r → Rel w0 p0 E' s' a' w' → Q .normal a' w')
    (hd : ∀ i o, ops[i]? = some o → ∀ e ∈ o.after, Region.binds .any e = true → e.on < i) (ht : ∀ i o, m ≤ i → ops[i]? = some o → ∀ j, j < i → bef ops ops.size j i = true) (hfx : ∀ (i : Nat) (o : Oper), ops[i]? = some o → ∀ d, lays o = some d → p0.fix d = none) :
    ∀ (n t fuel : Nat) (listed : Array Bool) {s : St} {a : Act} {w : World} {E : Env}, ops.size - t = n → n ≤ fuel → listed.size = ops.size → m ≤ t → t ≤ ops.size → (∀ j, j < ops.size → listed.getD j true = decide (j < t)) →
      evOps T CV C ops (ops.toList.drop t) s k = some r → Rel w0 p0 E s a w → wpAny P .any ops Q fuel listed a w := by
  intro n
  induction n with
  | zero =>
    intro t fuel listed s a w E h1 h2 hs hm ht' hl h hr
    have hts : t = ops.size := by omega
    have hnil : ops.toList.drop t = [] := by simp [hts]
    rw [hnil] at h
    refine wpAny_done ?_ (hn _ _ _ _ h hr) fuel
    refine List.eq_nil_iff_forall_not_mem.2 fun j hj => ?_
    obtain ⟨g1, o, g2, _⟩ := mem_ready.1 hj
    have hj' := (Array.getElem?_eq_some_iff.1 g2).1
    rw [hl j hj'] at g1
    simp at g1
    omega
  | succ n ih =>
    intro t fuel listed s a w E h1 h2 hs hm ht' hl h hr
    obtain ⟨f, rfl⟩ : ∃ f, fuel = f + 1 := ⟨fuel - 1, by omega⟩
    have hlt : t < ops.size := by omega
    obtain ⟨o, ho⟩ : ∃ o, ops[t]? = some o := ⟨_, Array.getElem?_eq_getElem hlt⟩
    have hdrop : ops.toList.drop t = o :: ops.toList.drop (t + 1) := by
      rw [List.drop_eq_getElem_cons (by simpa using hlt)]
      congr 1
      have := (Array.getElem?_eq_some_iff.1 ho).2
      simpa using this
    rw [hdrop] at h
    have hready : t ∈ Region.ready .any ops listed := by
      rw [mem_ready]
      refine ⟨by rw [hl t hlt]; simp, o, ho, fun e he hb => ?_⟩
      have h3 := hd t o ho e he hb
      have := hl e.on (by omega)
      rw [Array.getD_eq_getD_getElem?, Array.getElem?_eq_getElem (by omega)] at this ⊢
      simp only [Option.getD_some] at this ⊢
      rw [this]
      simpa using h3
    refine ⟨fun h0 => by rw [h0] at hready; (cases hready), fun i hi => ?_⟩
    obtain ⟨g1, oi, g2, g3⟩ := mem_ready.1 hi
    have hio := (Array.getElem?_eq_some_iff.1 g2).1
    have hge : t ≤ i := by
      rw [hl i hio] at g1
      simpa using g1
    have hit : i = t := by
      rcases Nat.lt_or_ge t i with hlt' | hle
      · exfalso
        have hb := ht i oi (by omega) g2 t hlt'
        have hdown := hd
        cases hsz : ops.size with
        | zero => omega
        | succ f' =>
          rw [hsz] at hb
          unfold bef at hb
          rw [g2] at hb
          simp only [List.any_eq_true, Bool.and_eq_true, Bool.or_eq_true, beq_iff_eq] at hb
          obtain ⟨e, he, hbb, hb⟩ := hb
          have h3 := g3 e (by simpa using he) hbb
          have h4 := hd i oi g2 e (by simpa using he) hbb
          have h5 := hl e.on (by omega)
          have h6 : e.on < t := by
            rw [Array.getD_eq_getD_getElem?, Array.getElem?_eq_getElem (by omega)] at h3 h5
            simp only [Option.getD_some] at h3 h5
            rw [h3] at h5
            simpa using h5.symm
          rcases hb with hb | hb
          · omega
          · have := bef_lt hd _ hb
            omega
      · omega
    subst hit
    obtain ⟨s', run, k1, k2, k3⟩ := guard_ok h hr
    have hl' : ∀ j, j < ops.size → (listed.setIfInBounds i true).getD j true = decide (j < i + 1) := by
      intro j hj
      by_cases e : j = i
      · subst e
        have : (listed.setIfInBounds j true).getD j true = true := by simp [hs, hj]
        rw [this]
        simp
      · rw [getD_set_ne true (fun h => e h.symm), hl j hj, decide_eq_decide]
        omega
    unfold wpOp
    simp only [ho]
    rw [k3]
    cases run with
    | true =>
      rw [if_pos rfl]
      exact .inl (evOp_sound hT hV hC (show evOp T CV C o s' (fun s'' => evOps T CV C ops (ops.toList.drop (i + 1)) s'' k) = some r from k1) k2 (hfx _ _ ho) fun s'' a' w' E' hk hr' =>
        ih (i + 1) f _ (by omega) (by omega) (by simpa using hs) (by omega) (by omega) hl' hk hr')
    | false =>
      rw [if_neg (by simp)]
      exact ih (i + 1) f _ (by omega) (by omega) (by simpa using hs) (by omega) (by omega) hl' k1 (k2.put o.dst (v := .undef) rfl)
theorem evQ_sound (hT : TOk P T) (hV : CVOk P CV) (hC : COk P C) {R : Type} {k : St → Option R} {r : R} {Q : Exit → Act → World → Prop} (hn : ∀ s' a' w' E', k s' = some r → Rel w0 p0 E' s' a' w' → Q .normal a' w')
    (hms : m ≤ ops.size) (hq : quietAll (ops.toList.take m) = true) (htl : tailOk ops m = true) (hfx : ∀ (i : Nat) (o : Oper), ops[i]? = some o → ∀ d, lays o = some d → p0.fix d = none) (h : evQ T CV C ops (ops.toList.take m) s.shareAll (fun s' => evOps T CV C ops (ops.toList.drop m) s' k) = some r) (hr : Rel w0 p0 E s a w) : wpAny P .any ops Q ops.size (Array.replicate ops.size false) a { w with drawn := w.drawn + 1 } := by
  have h1 := (hr.shareIf fun _ => true).1
  rw [← St.shareAll_eq] at h1
  have h2 := (h1.grow (w' := { w with drawn := w.drawn + 1 }) ((Below.refl _ w).drew) (p' := pShare E s fun _ => true) (fun _ _ h => h) (fun _ _ h => .inl h)).1
  generalize s.shareAll = s1 at h h1 h2
  rw [← mk_none (ops := ops) (m := m) (s := s1) (val := fun _ => .undef) (L := fun j => decide (j < 0)) (by simp)] at h
  obtain ⟨val, _, good, hk⟩ := evQ_chain hms hq (ops.toList.take m) 0 _ rfl h
  have hd : ∀ i o, ops[i]? = some o → ∀ e ∈ o.after, Region.binds .any e = true → e.on < i := fun i o ho e he hb => by
    rcases Nat.lt_or_ge i m with hlt | hge
    · exact (quietAll_spec hq ho hlt).back e he
    · exact (tailOk_spec htl hge ho).2 e he hb
  have ht : ∀ i o, m ≤ i → ops[i]? = some o → ∀ j, j < i → bef ops ops.size j i = true := fun i o hi ho => (tailOk_spec htl hi ho).1
  have step : ∀ (fuel : Nat) (listed : Array Bool) {a : Act} {w : World} {E : Env}, listed.size = ops.size → (∀ j, m ≤ j → j < ops.size → listed.getD j true = false) →
      (∀ i o, ops[i]? = some o → listed.getD i true = true → ∀ e ∈ o.after, Region.binds .any e = true → listed.getD e.on false = true) →
      ((List.range ops.size).filter fun j => !(listed.getD j true)).length ≤ fuel → Rel w0 p0 E (mk ops m s1 val fun j => listed.getD j true) a w →
      wpAny P .any ops Q fuel listed a w := by
    intro fuel
    induction fuel with
    | zero =>
      intro listed a w E hs htail hdc hc hr
      have hall : ∀ j, j < ops.size → listed.getD j true = true := by
        intro j hj
        have h0 : ((List.range ops.size).filter fun j => !(listed.getD j true)) = [] := List.eq_nil_of_length_eq_zero (by omega)
        rw [List.filter_eq_nil_iff] at h0
        simpa using h0 j (List.mem_range.2 hj)
      have hmeq : m = ops.size := by
        rcases Nat.lt_or_ge m ops.size with hlt | hge
        · have := htail m (Nat.le_refl _) hlt
          rw [hall m hlt] at this
          cases this
        · omega
      refine tail_sound hT hV hC hn hd ht hfx 0 m 0 listed (by omega) (Nat.le_refl _) hs (Nat.le_refl _) hms (fun j hj => by rw [hall j hj]; simp; omega) hk (E := E) ?_
      rw [mk_congr (val' := val) (L' := fun j => listed.getD j true)]
      · exact hr
      · exact fun i hi => ⟨by simp [hi, hall i (by omega)], fun _ => rfl⟩
    | succ fuel ih =>
      intro listed a w E hs htail hdc hc hr
      by_cases hpre : ∀ j, j < m → listed.getD j true = true
      · have hL : ∀ j, j < ops.size → listed.getD j true = decide (j < m) := fun j hj => by
          rcases Nat.lt_or_ge j m with hlt | hge
          · rw [hpre j hlt]; simp [hlt]
          · rw [htail j hge hj]; simp; omega
        have hcnt : ops.size - m ≤ ((List.range ops.size).filter fun j => !(listed.getD j true)).length := by
          have e1 : ((List.range ops.size).filter fun j => !(listed.getD j true)) = (List.range ops.size).filter fun j => !(decide (j < m)) := List.filter_congr fun j hj => by rw [hL j (List.mem_range.1 hj)]
          rw [e1]
          have hsub : ((List.range (ops.size - m)).map fun j => m + j).Sublist ((List.range ops.size).filter fun j => !(decide (j < m))) := by
            have e2 : List.range ops.size = List.range m ++ (List.range (ops.size - m)).map fun j => m + j := by
              rw [← List.range_add, Nat.add_sub_cancel' hms]
            rw [e2, List.filter_append]
            refine (List.nil_sublist _).append ?_
            rw [List.filter_eq_self.2]
            · exact List.Sublist.refl _
            · intro x hx
              simp only [List.mem_map, List.mem_range] at hx
              obtain ⟨y, _, rfl⟩ := hx
              simp
          have := hsub.length_le
          simpa using this
        refine tail_sound hT hV hC hn hd ht hfx (ops.size - m) m (fuel + 1) listed rfl (by omega) hs (Nat.le_refl _) hms hL hk (E := E) ?_
        rw [mk_congr (val' := val) (L' := fun j => listed.getD j true)]
        · exact hr
        · exact fun i hi => ⟨by simp [hi, hpre i hi], fun _ => rfl⟩
      · have himp : ∀ i o, ops[i]? = some o → (∀ e ∈ o.after, Region.binds .any e = true → listed.getD e.on false = true) → i < m := by
          intro i o ho he
          rcases Nat.lt_or_ge i m with hlt | hge
          · exact hlt
          · refine absurd (fun j hj => ?_) hpre
            have := bef_listed hdc ops.size ho he (ht i o hge ho j (by omega))
            rw [Array.getD_eq_getD_getElem?] at this ⊢
            cases hx : listed[j]? with
            | none => rfl
            | some b => rw [hx] at this; exact this
        refine ⟨fun hrd => absurd (fun j => ?_) hpre, fun i hi => ?_⟩
        · induction j using Nat.strongRecOn with
          | _ j ihj =>
            intro hj
            cases hjl : listed.getD j true with
            | true => rfl
            | false =>
              exfalso
              have hjs : j < ops.size := by omega
              have hmem : j ∈ Region.ready .any ops listed := by
                rw [mem_ready]
                refine ⟨hjl, ops[j], Array.getElem?_eq_getElem hjs, fun e he hb => ?_⟩
                have hlt := hd j _ (Array.getElem?_eq_getElem hjs) e he hb
                have := ihj e.on hlt (by omega)
                rw [Array.getD_eq_getD_getElem?] at this ⊢
                rw [Array.getElem?_eq_getElem (show e.on < listed.size by omega)] at this ⊢
                exact this
              rw [hrd] at hmem
              cases hmem
        · obtain ⟨g1, o, g2, g3⟩ := mem_ready.1 hi
          have hio : i < ops.size := (Array.getElem?_eq_some_iff.1 g2).1
          have him : i < m := himp i o g2 g3
          have Qt := quietAll_spec hq g2 him
          obtain ⟨d, hd1, hd2⟩ := Qt.dst
          have hbeh : ∀ j, behind o j = true → listed.getD j true = true := by
            intro j hj
            obtain ⟨e, he, rfl, hb⟩ := behind_spec hj
            have := g3 e he hb
            rw [Array.getD_eq_getD_getElem?] at this ⊢
            cases hx : listed[e.on]? with
            | none => rfl
            | some b => rw [hx] at this; exact this
          have hgetL : ∀ t, (∀ j ∈ dstOf (ops.toList.take m) t, j < i ∧ behind o j = true) → (mk ops m s1 val fun j => listed.getD j true).get t = (mk ops m s1 val fun j => decide (j < i)).get t := fun t ht =>
            mk_get fun j hj => by
              obtain ⟨b1, b2⟩ := ht j hj
              simp [hbeh j b2, b1]
          have hguard : guardK ops o (mk ops m s1 val fun j => listed.getD j true) (fun _ b => some b) = guardK ops o (mk ops m s1 val fun j => decide (j < i)) (fun _ b => some b) :=
            guard_congr fun j want t hg ht => by
              obtain ⟨b1, b2, b3⟩ := Qt.guard j want hg
              exact hgetL t fun j' hj' => by
                rw [b3 t ht] at hj'
                cases List.mem_singleton.1 hj'
                exact ⟨b1, b2⟩
          have next : ∀ {u : Value} {w' : World} {p' : Nat → Nat → Prop}, Rel w0 p0 { E with p := p' } (mk ops m s1 val fun j => listed.getD j true) a w' → RepV w' { E with p := p' } (val i) u → wpAny P .any ops Q fuel (listed.setIfInBounds i true) (a.put o.dst u) w' := by
            intro u w' p' hr' hu
            refine ih (listed.setIfInBounds i true) (E := { E with p := p' }) (by simpa using hs) (fun j hj hjs => by rw [getD_set_ne true (by omega)]; exact htail j hj hjs) (fun i' o' ho' hl' e he hb => ?_) ?_ ?_
            · by_cases e' : i' = i
              · subst e'
                rw [g2] at ho'
                cases ho'
                exact getD_set_true (g3 e he hb)
              · rw [getD_set_ne true (fun h => e' h.symm)] at hl'
                exact getD_set_true (hdc i' o' ho' hl' e he hb)
            · have hf : ((List.range ops.size).filter fun j => !((listed.setIfInBounds i true).getD j true)) = ((List.range ops.size).filter fun j => !(listed.getD j true)).filter fun j => j != i := by
                rw [List.filter_filter]
                refine List.filter_congr fun j hj => ?_
                by_cases e : j = i
                · subst e
                  have : (listed.setIfInBounds j true).getD j true = true := by simp [hs, hio]
                  simp [this]
                · rw [getD_set_ne true (fun h => e h.symm)]
                  simp [e]
              rw [hf]
              have : (((List.range ops.size).filter fun j => !(listed.getD j true)).filter fun j => j != i).length < ((List.range ops.size).filter fun j => !(listed.getD j true)).length := by
                rw [List.length_filter_lt_length_iff_exists]
                exact ⟨i, List.mem_filter.2 ⟨List.mem_range.2 hio, by rw [g1]; rfl⟩, by simp⟩
              omega
            · have := hr'.put (some d) hu
              rw [mk_put hd2 (val' := val) (L' := fun j => (listed.setIfInBounds i true).getD j true) rfl (fun j hj => ⟨by
                by_cases e : j = i
                · subst e
                  have : (listed.setIfInBounds j true).getD j true = true := by simp [hs, hio]
                  rw [this]
                  simp
                · rw [getD_set_ne true (fun h => e h.symm)]
                  have : (j == i) = false := by simpa using e
                  rw [this, Bool.false_or], fun _ _ => rfl⟩)] at this
              rw [hd1]
              exact this
          unfold wpOp
          simp only [g2]
          rcases good i o (Nat.zero_le _) him g2 with ⟨c1, c2⟩ | ⟨c1, c2⟩
          · rw [← hguard] at c1
            obtain ⟨s', run, d1, d2, d3⟩ := guard_ok c1 hr
            cases d1
            rw [d3, if_pos rfl]
            refine .inl ?_
            have hv : vOp T CV C o.op (mk ops m s1 val fun j => listed.getD j true) some = some (val i) :=
              c2 (mk ops m s1 val fun j => listed.getD j true).tmps (fun x hx => by
                cases x with
                | tmp t => exact hgetL t (Qt.operands t hx)
                | const v => exact opnd_const _ _ v
                | _ => rfl) V some
            refine vOp_sound hT hV hC hv hr fun v u w' p' e1 e2 e3 e4 e5 => ?_
            cases e1
            exact next e2 e5
          · rw [← hguard] at c1
            obtain ⟨s', run, d1, d2, d3⟩ := guard_ok c1 hr
            cases d1
            rw [d3, if_neg (by simp)]
            exact next (p' := E.p) hr (by rw [c2]; rfl)
  refine step ops.size (Array.replicate ops.size false) (by simp) (fun j _ hj => by simp [hj]) (fun i o ho hl => by
    have hi := (Array.getElem?_eq_some_iff.1 ho).1
    simp [hi] at hl) (Nat.le_trans (List.length_filter_le _ _) (by simp)) (E := { E with p := pShare E s fun _ => true }) ?_
  rw [mk_none]
  · exact h2
  · intro i hi
    simp [show i < ops.size by omega]
end
end Go.Proofs.Ytcnedmkfcbcjkaa.Ra
