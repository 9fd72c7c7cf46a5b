/- Arguments as the evaluator's data. -/
import Derived.Test.YtcnedmkfcbcjkaaRows
import Derived.Test.YtcnedmkfcbcjkaaSp7
import Derived.WalkKit
import Derived.ProofKit
import Derived.OpenShut
import Derived.ShutString
import Derived.ChangeOld
import Derived.Below
import Derived.Carry
import Derived.SizedLaws
set_option linter.unusedVariables false
set_option linter.unusedSimpArgs false
namespace Go.Proofs.Ytcnedmkfcbcjkaa.Ra
open Go Go.RowKit Go.Proofs.Ytcnedmkfcbcjkaa.Pl Go.ChangeShapes Go.WideShapes Go.ChangeAt
set_option linter.unusedVariables false
theorem own : ownKnob Try.prog.godebug = none := by kernel_rfl
theorem laidOut : laidOutB Try.prog = true := by kernel_rfl
/-- All that lies there when the call begins. -/
def Kept (W : World) : Nat → Nat → Prop := fun b _ => b < W.heap.size
theorem kept_lt (W : World) : ∀ b o, Kept W b o → b < W.heap.size := fun _ _ h => h
theorem cell_lt {W : World} {ad : Addr} {u : Value} (h : W.cell? ad = some u) : ad.block < W.heap.size := by
  rcases Nat.lt_or_ge ad.block W.heap.size with h' | h'
  · exact h'
  · simp [World.cell?, Array.getElem?_eq_none h'] at h
section
variable {H : Type} {enc : TypeId × Value → H} {P : Program} {W : World} {t e : TypeId} {k : IntKind} {a : Option Addr} {len cap fuel : Nat} {x : DataW H × List MemPlace}
theorem reads_row (ht : P.underlying t = some (.slice e)) (he : P.underlying e = some (.int k)) (hc : P.cellsOf e = 1) (h : DataW.trod enc P W 0 (fun _ => true) true fuel t [.slice a len cap] = some x) :
    ∃ zs : List Int, zs.length = len ∧ len ≤ 9223372036854775807 ∧ (∀ n ∈ zs, (Lit.int k n).wf = true) ∧ Rep W (Kept W) (.sl (zs.map (D.int k))) (.slice a len cap) := by
  rcases open_ints ht he hc h with ⟨hcs, _⟩ | ⟨y, l, c, zs, hcs, _, hl, hm, hz, _, hcell, hwz⟩
  · simp only [List.cons.injEq, Value.slice.injEq, and_true] at hcs
    obtain ⟨rfl, rfl, rfl⟩ := hcs
    exact ⟨[], rfl, by omega, by simp, .sl [] none 0 1 (fun _ => .bool true) (Nat.le_refl _) (by simp) (by simp) (by simp)⟩
  · simp only [List.cons.injEq, Value.slice.injEq, and_true] at hcs
    obtain ⟨rfl, rfl, rfl⟩ := hcs
    simp only [if_true] at hz
    have hmax : maxLen = 9223372036854775807 := by decide
    have hlen : (zs.take len).length = len := by simp; omega
    refine ⟨zs.take len, hlen, by omega, fun n hn => hwz n (List.mem_of_mem_take hn), ?_⟩
    have e1 : Value.slice (some y) len cap = Value.slice (some y) ((zs.take len).map (D.int k)).length cap := by rw [List.length_map, hlen]
    rw [e1]
    refine .sl _ _ _ 1 (fun j => .int k (zs.getD j 0)) (by rw [List.length_map, hlen]; omega) (fun z hz' => ?_) (fun o ho => ?_) fun i z j d hi hj => ?_
    · obtain ⟨n, _, rfl⟩ := List.mem_map.1 hz'; rfl
    · have ho : o < zs.length := by simp at ho; omega
      have hc1 := hcell o ho
      refine ⟨y, rfl, hc1, rfl, ?_⟩
      have h1 := cell_lt hc1
      rw [add_spot hc1] at h1
      exact h1
    · simp only [List.getElem?_map, Option.map_eq_some_iff] at hi
      obtain ⟨n, hn, rfl⟩ := hi
      cases j with
      | succ j => cases hj
      | zero =>
        cases hj
        rw [List.getElem?_take] at hn
        split at hn
        · have : zs.getD (i * 1 + 0) 0 = n := by simp [List.getD_eq_getElem?_getD, hn]
          show Rep W (Kept W) (D.int k n) (.int k (zs.getD (i * 1 + 0) 0))
          rw [this]
          exact .int _ _
        · cases hn
theorem bytes_of : ∀ (zs : List Int), (∀ n ∈ zs, (Lit.int .u8 n).wf = true) → ∃ bs : Bytes, bs.length = zs.length ∧ zs.map (D.int .u8) = bs.map yD
  | [], _ => ⟨[], rfl, rfl⟩
  | z :: zs, h => by
    obtain ⟨bs, h1, h2⟩ := bytes_of zs fun n hn => h n (List.mem_cons_of_mem _ hn)
    have hz := h z List.mem_cons_self
    have hr : 0 ≤ z ∧ z < 256 := by
      have e1 : IntKind.u8.min = 0 := by decide
      have e2 : IntKind.u8.max = 255 := by decide
      simp [Lit.wf, e1, e2] at hz
      omega
    refine ⟨UInt8.ofNat z.toNat :: bs, by simp [h1], ?_⟩
    rw [List.map_cons, List.map_cons, h2]
    congr 1
    show D.int .u8 z = D.int .u8 _
    congr 1
    simp
    omega
end
end Go.Proofs.Ytcnedmkfcbcjkaa.Ra
