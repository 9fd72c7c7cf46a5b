/- EACH OPERATION THAT TURNS NOTHING, BUT CALLS AND NEW ROWS: the second half. -/
import Derived.Test.YtcnedmkfcbcjkaaRa5
set_option linter.unusedVariables false
set_option linter.unusedSimpArgs false
namespace Go.Proofs.Ytcnedmkfcbcjkaa.Ra
open Go Go.RowKit
set_option linter.unusedVariables false
set_option linter.unusedSimpArgs false
variable {w0 : World} {p0 : Base} {E : Env} {s : St} {a : Act} {w : World} {P : Program}

theorem fieldOff_spec {T : TE} (hT : TOk P T) {t f off : Nat} (h : fieldOff T t f = some off) : ∀ (w : World) (ad : Addr), ad.spot = none → (Instr.fieldAt t (.pointer (some ad)) f).run P w = .ok (.pointer (some ⟨ad.block, ad.off + off, none⟩)) w := by
  intro w ad hs
  unfold fieldOff at h
  split at h
  · rename_i fs _ _ _ ht
    obtain ⟨x, hx, rfl⟩ := Option.map_eq_some_iff.1 h
    obtain ⟨fields, k1, k2, k3⟩ := (hT t _ ht).kind
    have hl := (List.getElem?_eq_some_iff.1 hx).1
    have hf : fields[f]? = some (fields[f]'(by omega)) := Array.getElem?_eq_getElem _
    obtain ⟨m1, m2, fi, m3, m4⟩ := k3 f _ x hf hx
    have hne : fi.size ≠ 0 := by omega
    simp [Instr.fieldAt, run_underlying k1, hf, Instr.sureAddr, fieldPlace, sizeOf, typeInfo, m3, hne, m1, add_none hs]
  · cases h
theorem ro_drop {x y : D} {u : Value} {p : Nat → Nat → Prop} {off : Nat} (hx : Rep w p x u) (h : x.roDrop off = some y) :
    ∃ ad : Addr, ad.spot = none ∧ u = .pointer (some ad) ∧ Rep w p y (.pointer (some ⟨ad.block, ad.off + off, none⟩)) := by
  cases hx with
  | ro ds ad vs hs hm hr =>
    cases h
    refine ⟨ad, hs, rfl, .ro _ _ (fun o => vs (off + o)) rfl (fun o ho => ?_) fun j d hj => ?_⟩
    · have := hm (off + o) (by simp at ho; omega)
      rw [show ad.off + off + o = ad.off + (off + o) by omega]
      exact this
    · rw [List.getElem?_drop] at hj
      exact hr _ d hj
  | _ => cases h
theorem run_indexAt {t e : Nat} {i : TI} (ht : P.underlying t = some (.slice e)) (hi : TIok P e i) {ad : Addr} {n c : Nat} {k : IntKind} {z : Int} (h0 : 0 ≤ z) (h1 : z < n) :
    (Instr.indexAt t (.slice (some ad) n c) (.int k z)).run P w = .ok (.pointer (some (ad.add (z.toNat * i.size)))) w := by
  simp [Instr.indexAt, asIntOf, run_underlying ht, h0, h1, hi.run_sizeOf]
theorem index_ro {t e : Nat} {i : TI} (ht : P.underlying t = some (.slice e)) (hi : TIok P e i) {x y : D} {u : Value} {p : Nat → Nat → Prop} {k : IntKind} {z : Int} (hx : Rep w p x u) (h : x.elemPtr i.size z = some y) : ∃ u', (Instr.indexAt t u (.int k z)).run P w = .ok u' w ∧ Rep w p y u' := by
  have hpos := hi.pos
  cases hx with
  | sl xs A c sz vs hc hs hm hr =>
    simp only [D.elemPtr] at h
    split at h
    · rename_i h0
      simp only [Option.bind_eq_some_iff] at h
      obtain ⟨x, hx, h⟩ := h
      split at h
      · rename_i hsz
        cases h
        have hz : z.toNat < xs.length := (List.getElem?_eq_some_iff.1 hx).1
        have hxs := hs x (List.mem_of_getElem? hx)
        obtain rfl : sz = i.size := by omega
        obtain ⟨ad, rfl, c0, _⟩ := hm 0 (Nat.lt_of_lt_of_le hpos (by have := Nat.le_mul_of_pos_left i.size (show 0 < xs.length by omega); omega))
        have hsp := spot_of c0
        refine ⟨_, run_indexAt ht hi h0 (by omega), ?_⟩
        rw [add_none hsp]
        refine .ro _ _ (fun o => vs (z.toNat * i.size + o)) rfl (fun o ho => ?_) fun j d hj => hr _ x j d hx hj
        obtain ⟨ad', e1, e2, e3, e4⟩ := hm (z.toNat * i.size + o) (mul_in hz (by omega))
        cases e1
        rw [add_none hsp] at e2
        rw [show ad.off + z.toNat * i.size + o = ad.off + (z.toNat * i.size + o) by omega]
        exact ⟨e2, e3, e4⟩
      · cases h
    · cases h
  | _ => cases h
theorem index_own (h : Rel w0 p0 E s a w) {t e : Nat} {i : TI} (ht : P.underlying t = some (.slice e)) (hi : TIok P e i) {t' : Nat} {q : Tok} (hq : lookTok t' s.toks = some q) {u : Value} (hu : RepV w E (.own t') u)
    (hsz : q.sz = i.size) {k : IntKind} {z : Int} (h0 : 0 ≤ z) (h1 : z < q.xs.length) : ∃ u', (Instr.indexAt t u (.int k z)).run P w = .ok u' w ∧ RepV w E (.elp t' z.toNat 0) u' := by
  obtain ⟨k1, ⟨hz, A, c, vs, rfl, _, k3, k4, _, _⟩, _, _⟩ := h.tok hq hu
  obtain ⟨ad, rfl, c0, _⟩ := k4 0 (Nat.mul_pos (by omega) hz)
  have hsp := spot_of c0
  refine ⟨_, run_indexAt ht hi h0 (by omega), ad, q.xs.length, c, q.sz, k1, hsp, ?_⟩
  rw [add_none hsp, hsz]
  rfl
theorem arr_at {t e len : Nat} {i : TI} (ht : P.underlying t = some (.array len e)) (hi : TIok P e i) {x y : D} {u : Value} {p : Nat → Nat → Prop} {k : IntKind} {z : Int} (hx : Rep w p x u) (h : x.arrAt i.kind.agg i.size len z = some y) :
    ∃ u', (Instr.index t u (.int k z)).run P w = .ok u' w ∧ Rep w p y u' := by
  cases hx with
  | agg ds vs hn h1 hr =>
    simp only [D.arrAt] at h
    split at h
    · rename_i hc
      obtain ⟨h0, hl, hd⟩ := hc
      have hin : z.toNat * i.size + i.size ≤ ds.length := by
        have : (z.toNat + 1) * i.size ≤ len * i.size := Nat.mul_le_mul_right _ (by omega)
        rw [Nat.add_mul] at this
        omega
      unfold D.ofCells at h
      cases hk : i.kind.agg with
      | true =>
        rw [hk] at h
        simp only [cond_true] at h
        split at h
        · cases h
          refine ⟨.agg (vs.extract (z.toNat * i.size) (z.toNat * i.size + i.size)), by simp [Instr.index, asIntOf, run_underlying ht, h0, hl, hi.run_sizeOf, part, hi.run_isAgg, hk], ?_⟩
          refine .agg _ _ (by simp; omega) (fun j v hv => ?_) fun j d v hj hv => ?_
          · rw [Array.getElem?_extract] at hv
            split at hv
            · exact h1 _ v hv
            · cases hv
          · rw [Array.getElem?_extract] at hv
            split at hv
            · rw [List.getElem?_take] at hj
              split at hj
              · rw [List.getElem?_drop] at hj
                exact hr _ d v hj hv
              · cases hj
            · cases hv
        · cases h
      | false =>
        rw [hk] at h
        simp only [cond_false, List.getElem?_drop, Nat.add_zero] at h
        have hlt : z.toNat * i.size < vs.size := by have := (List.getElem?_eq_some_iff.1 h).1; omega
        refine ⟨vs[z.toNat * i.size], by simp [Instr.index, asIntOf, run_underlying ht, h0, hl, hi.run_sizeOf, part, hi.run_isAgg, hk, Array.getElem?_eq_getElem hlt], hr _ y _ h (Array.getElem?_eq_getElem hlt)⟩
    · cases h
  | _ => cases h

theorem eqGuard_nothing (op : BinOp) (t : Nat) (x y : Operand) (u v : Value) (h : (∀ cs, u ≠ .agg cs) ∧ u ≠ .nilIface) : (eqGuard op t x y u v).run P w = .ok () w := by
  unfold eqGuard
  cases op <;> first
    | (simp; done)
    | (simp only [Bool.not_true, Bool.false_eq_true, if_false]
       cases u <;> first
         | exact absurd rfl (h.1 _)
         | exact absurd rfl h.2
         | (simp; done))
def valD : D → Value
  | .int k z => .int k z
  | .bool b => .bool b
  | _ => undef
theorem bin_int (op : BinOp) (t : Nat) {k k' : IntKind} {x y : Int} {d : D} (h : binD op (.int k x) (.int k' y) = some d) : ∃ u, (binOp op t (.int k x) (.int k' y)).run P w = .ok u w ∧ ∀ p, Rep w p d u := by
  unfold binD at h
  cases op <;> simp only [isShift, cond_true, cond_false] at h
  case shl =>
    unfold shifted at h
    split at h
    · cases h
    · rename_i hn
      cases h
      exact ⟨_, by simp [binOp, Op.shift, hn], fun p => .int _ _⟩
  case shr =>
    unfold shifted at h
    split at h
    · cases h
    · rename_i hn
      cases h
      exact ⟨_, by simp [binOp, Op.shift, hn], fun p => .int _ _⟩
  all_goals
    split at h
    · rename_i hk
      subst hk
      unfold arith at h
      refine ⟨valD d, ?_, fun p => ?_⟩
      · first
          | (cases h; simp [binOp, Op.intArith, Op.intBits, Op.intCmp, valD]; done)
          | (simp only at h
             split at h
             · cases h
             · rename_i hn
               cases h
               simp [binOp, Op.intDiv, hn, valD])
      · first
          | (cases h; first | exact Rep.int _ _ | exact Rep.bool _)
          | (simp only at h
             split at h
             · cases h
             · cases h; exact Rep.int _ _)
    · cases h
theorem bin_str (op : BinOp) (t : Nat) {x y : List UInt8} {u v : ByteArray} (hu : u.data.toList = x) (hv : v.data.toList = y) {d : D} (h : binD op (.str x) (.str y) = some d) :
    ∃ r, (binOp op t (.string u) (.string v)).run P w = .ok r w ∧ ∀ p, Rep w p d r := by
  unfold binD at h
  cases op <;> simp only at h <;> try (cases h; done)
  case add =>
    split at h
    · rename_i hl
      cases h
      have hs : ¬ ((u.size + v.size : Nat) : Int) > IntKind.i64.max := by
        have h1 : u.size = x.length := by rw [← hu]; rfl
        have h2 : v.size = y.length := by rw [← hv]; rfl
        have hm : IntKind.i64.max = 9223372036854775807 := by decide
        rw [hm]
        omega
      refine ⟨.string (u ++ v), by simp only [binOp, Op.stringOp]; rw [if_neg hs]; rfl, fun p => .str _ _ ?_⟩
      rw [ByteArray.data_append, Array.toList_append, hu, hv]
    · cases h
  case eql =>
    cases h
    exact ⟨_, by simp only [binOp, Op.stringOp]; rfl, fun p => by rw [ByteArray.toList_eq, ByteArray.toList_eq, hu, hv]; exact .bool _⟩
  case neq =>
    cases h
    exact ⟨_, by simp only [binOp, Op.stringOp]; rfl, fun p => by rw [ByteArray.toList_eq, ByteArray.toList_eq, hu, hv]; exact .bool _⟩
theorem bin_bool (op : BinOp) {t : Nat} (ht : P.underlying t = some .bool) {x y : Bool} {d : D} (h : boolD op (.bool x) (.bool y) = some d) : ∃ r, (binOp op t (.bool x) (.bool y)).run P w = .ok r w ∧ ∀ p, Rep w p d r := by
  unfold boolD at h
  cases op <;> simp only at h <;> try (cases h; done)
  case eql =>
    cases h
    exact ⟨_, by simp [binOp, run_equal_bool w t x y ht], fun p => .bool _⟩
  case neq =>
    cases h
    exact ⟨_, by simp [binOp, run_equal_bool w t x y ht], fun p => .bool _⟩
theorem isBool_spec {T : TE} (hT : TOk P T) {t : Nat} (h : isBool T t = true) : P.underlying t = some .bool := by
  unfold isBool at h
  split at h
  · rename_i ht
    exact (hT t _ ht).kind
  · cases h
/-- Two operands. -/
theorem bin_ok {T : TE} (hT : TOk P T) (op : BinOp) {t : Nat} {p : Nat → Nat → Prop} {x y d : D} {u v : Value} (ox oy : Operand) (hx : Rep w p x u) (hy : Rep w p y v)
    (h : (cond (isBool T t) (boolD op x y) (binD op x y)) = some d) : ∃ r, (do eqGuard op t ox oy u v; binOp op t u v : Sem Value).run P w = .ok r w ∧ Rep w p d r := by
  cases hb : isBool T t with
  | true =>
    rw [hb] at h
    simp only [cond_true] at h
    cases hx <;> try (unfold boolD at h; cases h; done)
    cases hy <;> try (unfold boolD at h; cases h; done)
    obtain ⟨r, h1, h2⟩ := bin_bool (w := w) op (isBool_spec hT hb) h
    exact ⟨r, by rw [Sem.run_bind, eqGuard_nothing (w := w) op t ox oy _ _ ⟨by simp, by simp⟩]; exact h1, h2 p⟩
  | false =>
    rw [hb] at h
    simp only [cond_false] at h
    cases hx <;> try (unfold binD at h; cases h; done)
    · cases hy <;> try (unfold binD at h; cases h; done)
      obtain ⟨r, h1, h2⟩ := bin_int (P := P) (w := w) op t h
      exact ⟨r, by rw [Sem.run_bind, eqGuard_nothing (w := w) op t ox oy _ _ ⟨by simp, by simp⟩]; exact h1, h2 p⟩
    · cases hy <;> try (unfold binD at h; cases h; done)
      rename_i hu _ _ hv
      obtain ⟨r, h1, h2⟩ := bin_str (P := P) (w := w) op t hu hv h
      exact ⟨r, by rw [Sem.run_bind, eqGuard_nothing (w := w) op t ox oy _ _ ⟨by simp, by simp⟩]; exact h1, h2 p⟩
end Go.Proofs.Ytcnedmkfcbcjkaa.Ra
