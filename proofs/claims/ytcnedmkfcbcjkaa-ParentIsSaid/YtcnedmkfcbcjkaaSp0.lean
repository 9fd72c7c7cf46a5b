/- PLAIN DATA AS THE EVALUATOR's DATA; what the evaluator's words come to at them. -/
import Derived.Test.YtcnedmkfcbcjkaaRa21
import Derived.Test.YtcnedmkfcbcjkaaPl2
set_option linter.unusedVariables false
set_option linter.unusedSimpArgs false
namespace Go.Proofs.Ytcnedmkfcbcjkaa.Ra
open Go Go.RowKit Go.Proofs.Ytcnedmkfcbcjkaa.Pl
set_option linter.unusedSimpArgs false
abbrev iD (z : Int) : D := .int .i64 z
abbrev yD (b : UInt8) : D := .int .u8 (b.toNat : Int)
abbrev isD (l : List Int) : D := .sl (l.map iD)
abbrev ysD (b : Bytes) : D := .sl (b.map yD)
theorem wrap64_id {z : Int} (h1 : -9223372036854775808 ≤ z) (h2 : z < 9223372036854775808) : IntKind.i64.wrap z = z := by
  have e1 : (2 : Int) ^ 64 = 18446744073709551616 := by decide
  have e2 : (2 : Int) ^ (64 - 1) = 9223372036854775808 := by decide
  simp only [IntKind.wrap, IntKind.bits, IntKind.signed, Bool.true_and, decide_eq_true_eq, e1, e2]
  split <;> omega
theorem wrap8 (z : Int) : IntKind.u8.wrap z = z % 256 := by
  simp [IntKind.wrap, IntKind.bits, IntKind.signed]
theorem wrapu64 (z : Int) : IntKind.u64.wrap z = z % 18446744073709551616 := by
  simp [IntKind.wrap, IntKind.bits, IntKind.signed]
/-- The next number. -/
theorem wrap_next {k n : Nat} (h : k < n) (hn : n ≤ 9223372036854775807) : IntKind.i64.wrap ((k : Int) + 1) = ((k + 1 : Nat) : Int) := by
  rw [wrap64_id (by omega) (by omega)]
  rfl
theorem ofN_eq (n : Nat) : ofN n = (n : Int) := rfl
section
variable (k : IntKind) (a b : Int)
theorem binD_eql : binD .eql (.int k a) (.int k b) = some (.bool (decide (a = b))) := by simp [binD, isShift, arith]; rfl
theorem binD_neq : binD .neq (.int k a) (.int k b) = some (.bool (decide (a ≠ b))) := by
  have e : (a != b) = decide (a ≠ b) := by rw [Bool.eq_iff_iff]; simp
  simp only [binD, isShift, arith, cond_false, if_pos, e]
theorem binD_lss : binD .lss (.int k a) (.int k b) = some (.bool (decide (a < b))) := by simp [binD, isShift, arith]
theorem binD_leq : binD .leq (.int k a) (.int k b) = some (.bool (decide (a ≤ b))) := by simp [binD, isShift, arith]
theorem binD_gtr : binD .gtr (.int k a) (.int k b) = some (.bool (decide (a > b))) := by simp [binD, isShift, arith]
theorem binD_geq : binD .geq (.int k a) (.int k b) = some (.bool (decide (a ≥ b))) := by simp [binD, isShift, arith]
theorem binD_add : binD .add (.int k a) (.int k b) = some (.int k (k.wrap (a + b))) := by simp [binD, isShift, arith]
theorem binD_sub : binD .sub (.int k a) (.int k b) = some (.int k (k.wrap (a - b))) := by simp [binD, isShift, arith]
theorem binD_mul : binD .mul (.int k a) (.int k b) = some (.int k (k.wrap (a * b))) := by simp [binD, isShift, arith]
theorem binD_quo (h : b ≠ 0) : binD .quo (.int k a) (.int k b) = some (.int k (k.wrap (a.tdiv b))) := by simp [binD, isShift, arith, h]
theorem binD_rem (h : b ≠ 0) : binD .rem (.int k a) (.int k b) = some (.int k (a.tmod b)) := by simp [binD, isShift, arith, h]
theorem asInt_int : D.asInt (.int k a) = some (k, a) := rfl
end
theorem asBool_bool (b : Bool) : D.asBool (.bool b) = some b := rfl
theorem notD_bool (b : Bool) : notD (.bool b) = some (.bool !b) := rfl
theorem ext_0 (a : D) (l : List D) : D.ext (.tup (a :: l)) 0 = some a := rfl
theorem ext_1 (a b : D) (l : List D) : D.ext (.tup (a :: b :: l)) 1 = some b := rfl
theorem ext_2 (a b c : D) (l : List D) : D.ext (.tup (a :: b :: c :: l)) 2 = some c := rfl
theorem elems_sl (l : List D) : D.elems (.sl l) = some l := rfl
theorem tupOf_one (x : D) : tupOf [x] = x := rfl
theorem loadRo_one (x : D) : D.loadRo false 1 (.ro [x]) = some x := rfl
theorem loadRo_agg {n : Nat} {ds : List D} (h : ds.length = n) : D.loadRo true n (.ro ds) = some (.agg ds) := by
  simp [D.loadRo, D.ofCells, ← h]
theorem elemPtr_map {α : Type} (f : α → D) {n : Nat} (hf : ∀ x, (f x).cells.length = n) {l : List α} {k : Nat} (h : k < l.length) :
    D.elemPtr n (.sl (l.map f)) (k : Int) = some (.ro (f l[k]).cells) := by
  simp [D.elemPtr, h, hf]
theorem elemPtr_i {l : List Int} {k : Nat} (h : k < l.length) : D.elemPtr 1 (.sl (l.map iD)) (k : Int) = some (.ro [iD l[k]]) := elemPtr_map iD (fun _ => rfl) h
theorem elemPtr_y {l : Bytes} {k : Nat} (h : k < l.length) : D.elemPtr 1 (.sl (l.map yD)) (k : Int) = some (.ro [yD l[k]]) := elemPtr_map yD (fun _ => rfl) h
theorem elemPtr_y0 {x : UInt8} {l : Bytes} : D.elemPtr 1 (.sl ((x :: l).map yD)) 0 = some (.ro [yD x]) := elemPtr_y (l := x :: l) (k := 0) (by simp)
theorem cut_map {α : Type} (f : α → D) {n : Nat} (hf : ∀ x, (f x).cells.length = n) {l : List α} {lo hi : Nat} (h1 : lo ≤ hi) (h2 : hi ≤ l.length) :
    D.cut n (lo : Int) (hi : Int) (.sl (l.map f)) = some (.sl (((l.take hi).drop lo).map f)) := by
  have hc : D.chk n (l.map f) = true := by simp [D.chk, hf]
  have hh : (0 : Int) ≤ (lo : Int) ∧ (lo : Int) ≤ (hi : Int) ∧ (hi : Int) ≤ ((l.map f).length : Int) := by simp; omega
  simp only [D.cut]
  rw [if_pos ⟨hh, hc⟩]
  simp [List.map_drop, List.map_take]
theorem cut_y {l : Bytes} {lo hi : Nat} (h1 : lo ≤ hi) (h2 : hi ≤ l.length) : D.cut 1 (lo : Int) (hi : Int) (.sl (l.map yD)) = some (.sl (((l.take hi).drop lo).map yD)) := cut_map yD (fun _ => rfl) h1 h2
theorem cut_i {l : List Int} {lo hi : Nat} (h1 : lo ≤ hi) (h2 : hi ≤ l.length) : D.cut 1 (lo : Int) (hi : Int) (.sl (l.map iD)) = some (.sl (((l.take hi).drop lo).map iD)) := cut_map iD (fun _ => rfl) h1 h2
theorem all1_y (l : Bytes) : ((l.map yD).all fun x => x.cells.length == 1) = true := by simp [D.cells]
theorem all1_i (l : List Int) : ((l.map iD).all fun x => x.cells.length == 1) = true := by simp [D.cells]
theorem all1_iD (z : Int) : ([iD z].all fun x => x.cells.length == 1) = true := rfl
theorem all1_yD (z : UInt8) : ([yD z].all fun x => x.cells.length == 1) = true := rfl
theorem all1_int (k : IntKind) (z : Int) : ([D.int k z].all fun x => x.cells.length == 1) = true := rfl
theorem convD_text (l : Bytes) : convD .text (.sl (l.map yD)) = some (.str l) := by
  have h : ∀ l : Bytes, (l.map yD).mapM byteOf = some l := by
    intro l
    induction l with
    | nil => rfl
    | cons x l ih =>
      have hx : byteOf (yD x) = some x := by simp [byteOf]
      simp [List.mapM_cons, ih, hx]
  simp [convD, h]
theorem binD_str_eql (a b : Bytes) : binD .eql (.str a) (.str b) = some (.bool (decide (a = b))) := by
  have e : (a == b) = decide (a = b) := by rw [Bool.eq_iff_iff]; simp
  simp only [binD, e]
theorem binD_str_neq (a b : Bytes) : binD .neq (.str a) (.str b) = some (.bool (decide (a ≠ b))) := by
  have e : (!(a == b)) = decide (a ≠ b) := by rw [Bool.eq_iff_iff]; simp
  simp only [binD, e]
theorem byte_D (z : Int) : D.int .u8 (IntKind.u8.wrap z) = yD (byte (z % 256).toNat) := by
  rw [wrap8]
  have h1 := Int.emod_nonneg z (show (256 : Int) ≠ 0 by decide)
  have h2 := Int.emod_lt_of_pos z (show (0 : Int) < 256 by decide)
  have : ((byte (z % 256).toNat).toNat : Int) = z % 256 := by rw [byte_toNat]; omega
  show D.int .u8 _ = D.int .u8 _
  rw [this]
theorem D_sl_inj {a b : List D} (h : a = b) : D.sl a = D.sl b := by rw [h]
/-- A round after the other: what is at each place, and what is behind them all. -/
theorem upTo {β : Type} {G : Int → β} {n : Nat} (P : Nat → β → Prop) (h0 : P n (G n)) (hs : ∀ k, k < n → P (k + 1) (G ((k + 1 : Nat) : Int)) → P k (G (k : Int))) : ∀ k, k ≤ n → P k (G (k : Int)) := by
  intro k hk
  obtain ⟨d, hd⟩ : ∃ d, d = n - k := ⟨_, rfl⟩
  induction d generalizing k with
  | zero =>
    have e : k = n := by omega
    subst e
    exact h0
  | succ d ih => exact hs k (by omega) (ih (k + 1) (by omega) (by omega))
end Go.Proofs.Ytcnedmkfcbcjkaa.Ra
