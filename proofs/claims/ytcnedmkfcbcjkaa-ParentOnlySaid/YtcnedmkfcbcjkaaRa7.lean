/- SMALL OPERATIONS, LENGTHS, CUTS, STRUCTS, LITERALS. -/
import Derived.Test.YtcnedmkfcbcjkaaRa6
set_option linter.unusedVariables false
set_option linter.unusedSimpArgs false
namespace Go.Proofs.Ytcnedmkfcbcjkaa.Ra
open Go Go.RowKit
set_option linter.unusedVariables false
set_option linter.unusedSimpArgs false
variable {w0 : World} {p0 : Base} {E : Env} {s : St} {a : Act} {w : World} {P : Program}

theorem not_ok {p : Nat → Nat → Prop} {x y : D} {u : Value} (hx : Rep w p x u) (h : notD x = some y) : ∃ u', (Op.unary .not u).run P w = .ok u' w ∧ Rep w p y u' := by
  cases hx <;> try (cases h; done)
  cases h
  exact ⟨_, rfl, .bool _⟩
theorem mapM_get {α β : Type} {f : α → Option β} : ∀ {l : List α} {r : List β}, l.mapM f = some r → r.length = l.length ∧ ∀ (j : Nat) (x : α), l[j]? = some x → ∃ y : β, r[j]? = some y ∧ f x = some y := by
  intro l
  induction l with
  | nil => intro r h; simp at h; subst h; simp
  | cons x l ih =>
    intro r h
    simp only [List.mapM_cons, Option.bind_eq_bind, Option.bind_eq_some_iff, Option.pure_def, Option.some.injEq] at h
    obtain ⟨y, hy, ys, hys, rfl⟩ := h
    obtain ⟨k1, k2⟩ := ih hys
    refine ⟨by simp [k1], fun j z hz => ?_⟩
    cases j with
    | zero => simp only [List.getElem?_cons_zero, Option.some.injEq] at hz; subst hz; exact ⟨y, rfl, hy⟩
    | succ j => simpa using k2 j z (by simpa using hz)
theorem conv_text {t e u : Nat} (ht : P.underlying t = some (.slice e)) (he : P.underlying e = some (.int .u8)) (hu : P.underlying u = some .string) {p : Nat → Nat → Prop} {x y : D} {v : Value} (hx : Rep w p x v)
    (h : convD .text x = some y) : ∃ v', (convert t u v).run P w = .ok v' w ∧ Rep w p y v' := by
  cases hx with
  | sl xs A c sz vs hc hs hm hr =>
    simp only [convD, Option.map_eq_some_iff] at h
    obtain ⟨bs, hb, rfl⟩ := h
    obtain ⟨k1, k2⟩ := mapM_get hb
    have hone : ∀ (i : Nat) (x : D), xs[i]? = some x → ∃ z, x = .int .u8 z ∧ bs[i]? = some (UInt8.ofNat z.toNat) := by
      intro i x hi
      obtain ⟨b, h1, h2⟩ := k2 i x hi
      unfold byteOf at h2
      split at h2
      · cases h2; exact ⟨_, rfl, h1⟩
      · cases h2
    have hsz : xs ≠ [] → sz = 1 := by
      intro hne
      obtain ⟨x, l, rfl⟩ := List.exists_cons_of_ne_nil hne
      obtain ⟨z, rfl, _⟩ := hone 0 x rfl
      exact (hs _ List.mem_cons_self).symm
    cases A with
    | none =>
      have h0 : xs = [] := by
        refine Classical.byContradiction fun hne => ?_
        have hp : 0 < xs.length := List.length_pos_iff.2 hne
        obtain ⟨ad, e, _⟩ := hm 0 (by rw [hsz hne]; omega)
        cases e
      subst h0
      have : bs = [] := by simpa using k1
      subst this
      refine ⟨.string .empty, ?_, .str _ _ rfl⟩
      simp [convert, run_underlying ht, run_underlying he, run_underlying hu, Conv.bytesToString]
    | some ad =>
      let zs : List Int := xs.map fun x => match x with | .int .u8 z => z | _ => 0
      have hz : ∀ (i : Nat) (z : Int), xs[i]? = some (.int .u8 z) → zs[i]? = some z := fun i z hi => by simp [zs, hi]
      have hbs : bs = zs.map fun n => UInt8.ofNat n.toNat := by
        apply List.ext_getElem?
        intro i
        cases hi : xs[i]? with
        | none =>
          have h1 := List.getElem?_eq_none_iff.1 hi
          rw [List.getElem?_eq_none (by omega), List.getElem?_eq_none (by simp [zs]; omega)]
        | some x =>
          obtain ⟨z, rfl, hb⟩ := hone i x hi
          rw [hb, List.getElem?_map, hz i z hi]
          rfl
      have hcell : ∀ i, i < xs.length → w.cell? (ad.add i) = some (.int .u8 (zs.getD i 0)) := by
        intro i hi
        have hne : xs ≠ [] := by intro e; subst e; simp at hi
        have h1 := hsz hne
        subst h1
        obtain ⟨ad', e, c1, _⟩ := hm i (by omega)
        cases e
        have hx : xs[i]? = some xs[i] := List.getElem?_eq_getElem hi
        obtain ⟨z, hzz, hb⟩ := hone i _ hx
        rw [hzz] at hx
        have hrr := hr i _ 0 (.int .u8 z) hx rfl
        simp only [Nat.mul_one, Nat.add_zero] at hrr
        rw [c1]
        generalize hv : vs i = v at hrr
        cases hrr
        rw [List.getD_eq_getElem?_getD, hz i z hx]
        rfl
      refine ⟨.string (strOfNums zs), ?_, .str _ _ ?_⟩
      · by_cases hne : xs = []
        · subst hne
          have hzs : zs = [] := rfl
          rw [hzs]
          simp [convert, run_underlying ht, run_underlying he, run_underlying hu, Conv.bytesToString, loadCells, loadCellsFrom, strOfNums]
          rfl
        · have hp : 0 < xs.length := List.length_pos_iff.2 hne
          have hsp := spot_of (hcell 0 hp)
          obtain ⟨b, off, sp⟩ := ad
          cases hsp
          exact run_convert_bytes_arg w t e ht he b off xs.length c zs (by simp [zs]) (fun i hi => by have := hcell i hi; rwa [add_none rfl] at this) u hu
      · rw [strOfNums_data, hbs]
  | _ => cases h
theorem conv_ok {CV : Nat → Nat → Option Conv} (hV : CVOk P CV) {t u : Nat} {c : Conv} (hc : CV t u = some c) {p : Nat → Nat → Prop} {x y : D} {v : Value} (hx : Rep w p x v) (h : convD c x = some y) :
    ∃ v', (convert t u v).run P w = .ok v' w ∧ Rep w p y v' := by
  have hk := hV t u c hc
  cases c with
  | int k =>
    obtain ⟨d, h1, h2⟩ := hk
    cases hx <;> try (cases h; done)
    cases h
    exact ⟨_, by simp [convert, run_underlying h1, run_underlying h2, Conv.intToInt], .int _ _⟩
  | text =>
    obtain ⟨e, h1, h2, h3⟩ := hk
    exact conv_text h1 h2 h3 hx h

/-- A slice, whatever is told of it. -/
theorem Rel.slice (h : Rel w0 p0 E s a w) {v : V} {u : Value} (hv : RepV w E v u) {n : Nat} (hn : slen s v = some n) : ∃ A c, u = .slice A n c ∧ n ≤ c := by
  cases v with
  | nil => cases hn; exact ⟨none, 0, hv, Nat.le_refl _⟩
  | own t =>
    obtain ⟨q, hq, rfl⟩ := Option.map_eq_some_iff.1 hn
    obtain ⟨_, ⟨_, A, c, vs, rfl, h1, _⟩, _⟩ := h.tok hq hv
    exact ⟨A, c, rfl, h1⟩
  | d x =>
    obtain ⟨xs, hx, rfl⟩ := Option.map_eq_some_iff.1 hn
    cases x with
    | sl ys =>
      cases hx
      cases (show Rep w E.p (.sl xs) u from hv) with
      | sl _ A c sz vs hc => exact ⟨A, c, rfl, hc⟩
    | _ => cases hx
  | _ => cases hn
theorem slen_asD {v : V} {n : Nat} (hn : slen s v = some n) {xs : List D} (hx : s.asD v = some (.sl xs)) : n = xs.length := by
  cases v with
  | nil => cases hn; cases hx; rfl
  | own t =>
    obtain ⟨q, hq, rfl⟩ := Option.map_eq_some_iff.1 hn
    simp only [St.asD, hq, Option.bind_some] at hx
    cases hw : q.wr <;> rw [hw] at hx <;> cases hx
    rfl
  | d x =>
    obtain ⟨ys, hy, rfl⟩ := Option.map_eq_some_iff.1 hn
    cases hx
    cases hy
    rfl
  | _ => cases hn
theorem len_ok {t e ty : Nat} (ht : P.underlying t = some (.slice e)) {A : Option Addr} {n c : Nat} : (Builtin.len_ #[t] ty #[.slice A n c]).run P w = .ok (.int .i64 n) w := by
  simp [Builtin.len_, run_underlying ht, goInt]
theorem bound_ok (h : Rel w0 p0 E s a w) {x : Option Operand} {n z : Int} (hz : bound s x n = some z) :
    (x = none ∧ z = n) ∨ ∃ o k, x = some o ∧ a.eval o = .int k z := by
  cases x with
  | none => cases hz; exact .inl ⟨rfl, rfl⟩
  | some o =>
    obtain ⟨q, hq, rfl⟩ := Option.map_eq_some_iff.1 hz
    exact .inr ⟨o, q.1, rfl, asI_spec (h.opnd o) hq⟩
theorem cut_rep {p : Nat → Nat → Prop} {xs : List D} {A : Option Addr} {n c sz : Nat} (hx : Rep w p (.sl xs) (.slice A n c)) (hk : D.chk sz xs = true) {l h m : Nat} (h1 : l ≤ h) (h2 : h ≤ xs.length) (h3 : h ≤ m) :
    Rep w p (.sl ((xs.take h).drop l)) (.slice (if m = l then A else A.map (·.add (l * sz))) (h - l) (m - l)) := by
  cases hx with
  | sl _ _ _ sz' vs hc hs hm hr =>
    have hlen : ((xs.take h).drop l).length = h - l := by simp; omega
    rw [← hlen]
    have hall : ∀ x ∈ xs, x.cells.length = sz := by
      intro x hx
      simp only [D.chk, List.all_eq_true, beq_iff_eq] at hk
      exact hk x hx
    have hss : xs ≠ [] → sz' = sz := by
      intro hne
      obtain ⟨x, tl, rfl⟩ := List.exists_cons_of_ne_nil hne
      exact (hs x List.mem_cons_self).symm.trans (hall x List.mem_cons_self)
    refine .sl _ _ _ sz (fun o => vs (l * sz + o)) (by omega) (fun x hx => hall x (List.mem_of_mem_take (List.mem_of_mem_drop hx))) (fun o ho => ?_) fun i x j d hi hj => ?_
    · rw [hlen] at ho
      have hlh : l < h := by
        refine Nat.lt_of_not_le fun hle => ?_
        rw [show h - l = 0 by omega] at ho
        omega
      have hne : xs ≠ [] := by intro e; subst e; simp at h2; omega
      obtain rfl := hss hne
      have hin : l * sz' + o < xs.length * sz' := by
        have : h * sz' ≤ xs.length * sz' := Nat.mul_le_mul_right _ h2
        rw [Nat.sub_mul] at ho
        omega
      obtain ⟨ad, rfl, c1, c2, c3⟩ := hm _ hin
      obtain ⟨ad', e, c0, _⟩ := hm 0 (by omega)
      cases e
      have hsp := spot_of c0
      rw [if_neg (by omega)]
      refine ⟨ad.add (l * sz'), rfl, ?_, c2, ?_⟩
      · rw [add_none hsp, add_none rfl]
        rw [add_none hsp] at c1
        rw [← c1]
        simp [Nat.add_assoc]
      · rw [add_none hsp]
        simpa [Nat.add_assoc] using c3
    · rw [List.getElem?_drop] at hi
      have hne : xs ≠ [] := by intro e; subst e; simp at hi
      obtain rfl := hss hne
      rw [List.getElem?_take] at hi
      split at hi
      · have := hr (l + i) x j d hi hj
        rwa [Nat.add_mul, Nat.add_assoc] at this
      · cases hi
theorem slice_ok (h : Rel w0 p0 E s a w) {T : TE} (hT : TOk P T) {t : Nat} {i : TI} (ht : elemOf T t = some i) {x : Operand} {lo hi mx : Option Operand} {n : Nat} (hn : slen s (s.opnd x) = some n) {l hh : Int}
    (hl : bound s lo 0 = some l) (hhi : bound s hi n = some hh)
    (hmx : (match mx with | some m => (asI (s.opnd m)).bind fun m => cond (decide (hh ≤ m.2) && decide (m.2 ≤ (n : Int)) && hi.isSome) (some ()) none | none => some ()) = some ())
    {y z : D} (hy : s.asD (s.opnd x) = some y) (hz : y.cut i.size l hh = some z) :
    ∃ u, (Instr.sliceAt t (a.eval x) (lo.map a.eval) (hi.map a.eval) (mx.map a.eval)).run P w = .ok u w ∧ Rep w E.p z u := by
  obtain ⟨e, h1, h2⟩ := elemOf_spec hT ht
  obtain ⟨A, c, hu, hnc⟩ := h.slice (h.opnd x) hn
  have hrep := h.asD (h.opnd x) hy
  rw [hu] at hrep
  cases y with
  | sl xs =>
    have hnx := slen_asD hn hy
    simp only [D.cut] at hz
    split at hz
    · rename_i hc
      obtain ⟨⟨k1, k2, k3⟩, k4⟩ := hc
      cases hz
      have sb : ∀ (k : IntKind) (z : Int) (y : Nat) (code : BoundsCode), 0 ≤ z → z ≤ y → (Instr.sliceBound (.int k z) y code).run P w = .ok z.toNat w := by
        intro k z y code g1 g2
        simp only [Instr.sliceBound, asIntOf, Sem.run_bind, Sem.run_pure, Result.andThen_ok]
        rw [if_pos ⟨g1, g2⟩]
        rfl
      cases mx with
      | none =>
        refine ⟨.slice (if c = l.toNat then A else A.map (·.add (l.toNat * i.size))) (hh.toNat - l.toNat) (c - l.toNat), ?_, cut_rep hrep k4 (by omega) (by omega) (by omega)⟩
        rw [hu]
        rcases bound_ok h hhi with ⟨rfl, rfl⟩ | ⟨o, k, rfl, ho⟩ <;> rcases bound_ok h hl with ⟨rfl, rfl⟩ | ⟨o', k', rfl, ho'⟩
        · simp [Instr.sliceAt, run_underlying h1, Instr.slice, Instr.sliceBounds, h2.run_sizeOf]
        · have g1 := sb k' l n .sliceB k1 k2
          simp [Instr.sliceAt, run_underlying h1, Instr.slice, Instr.sliceBounds, h2.run_sizeOf, ho', g1]
        · have g2 := sb k hh c .sliceAcap (by omega) (by omega)
          simp [Instr.sliceAt, run_underlying h1, Instr.slice, Instr.sliceBounds, h2.run_sizeOf, ho, g2]
        · have g2 := sb k hh c .sliceAcap (by omega) (by omega)
          have g1 := sb k' l hh.toNat .sliceB k1 (by omega)
          simp [Instr.sliceAt, run_underlying h1, Instr.slice, Instr.sliceBounds, h2.run_sizeOf, ho, g2, ho', g1]
      | some mo =>
        simp only [Option.bind_eq_some_iff] at hmx
        obtain ⟨m, hm, hmx⟩ := hmx
        have hm' := asI_spec (h.opnd mo) hm
        cases hb : (decide (hh ≤ m.2) && decide (m.2 ≤ (n : Int)) && hi.isSome) with
        | false => rw [hb] at hmx; cases hmx
        | true =>
          simp only [Bool.and_eq_true, decide_eq_true_eq] at hb
          obtain ⟨⟨b1, b2⟩, b3⟩ := hb
          have g3 := sb m.1 m.2 c .slice3Acap (by omega) (by omega)
          rcases bound_ok h hhi with ⟨rfl, _⟩ | ⟨o, k, rfl, ho⟩
          · simp at b3
          · have g2 := sb k hh m.2.toNat .slice3B (by omega) (by omega)
            refine ⟨.slice (if m.2.toNat = l.toNat then A else A.map (·.add (l.toNat * i.size))) (hh.toNat - l.toNat) (m.2.toNat - l.toNat), ?_, cut_rep hrep k4 (by omega) (by omega) (by omega)⟩
            rw [hu]
            rcases bound_ok h hl with ⟨rfl, rfl⟩ | ⟨o', k', rfl, ho'⟩
            · simp [Instr.sliceAt, run_underlying h1, Instr.slice, Instr.sliceBounds, h2.run_sizeOf, ho, g2, hm', g3]
            · have g1 := sb k' l hh.toNat .slice3C k1 (by omega)
              simp [Instr.sliceAt, run_underlying h1, Instr.slice, Instr.sliceBounds, h2.run_sizeOf, ho, g2, hm', g3, ho', g1]
    · cases hz
  | _ => cases hz
end Go.Proofs.Ytcnedmkfcbcjkaa.Ra
