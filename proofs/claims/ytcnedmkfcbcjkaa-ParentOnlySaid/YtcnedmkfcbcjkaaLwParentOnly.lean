/- The law ParentOnly answers true, whatever it is given; what it is given reads as it did. Condition: none. -/
import Derived.Test.YtcnedmkfcbcjkaaLw
import Derived.Test.YtcnedmkfcbcjkaaSp9
namespace Go.Proofs.Ytcnedmkfcbcjkaa.parentOnly
open Go Go.RowKit Go.Proofs.Ytcnedmkfcbcjkaa.Ra Go.Proofs.Ytcnedmkfcbcjkaa.Pl Go.ChangeShapes Go.WideShapes Go.ChangeAt
open Go.ChangeMaps (open_string shut_string)
set_option linter.unusedVariables false
set_option maxRecDepth 100000 in
theorem lifted (os : Os) (started : os.Started) (H : Type) (enc : TypeId × Value → H) :
    ReturnsInHanded {} Try.checked os 6 .any (Rows.parentOnlySpec.pre6 enc Try.prog Try.f6 Rows.parentOnlyRow.domain false) (Rows.parentOnlySpec.post enc Try.prog Try.f6 false true false false) := by
  refine returnsInHanded_of_change_sized (C := Try.checked) own started (by kernel_rfl) Try.func6
    (ChangeSpec.witness6 (enc := enc) (C := Try.checked) false ⟨#[], #[.slice none 0 0], []⟩ 8 (by kernel_rfl) (by kernel_rfl) (by kernel_rfl) (by kernel_rfl)) ?_
  intro W base args ds gs before hval0 hW hcnd hsz0 _
  have hsz : (DataW.weightsEach Try.prog (Try.f6.params.toList ++ Rows.parentOnlySpec.plain.varTypes Try.prog) (ds ++ gs)).all (· ≤ reachBytes) = true := hsz0
  have hval : ∀ (j : Nat) t v, Try.f6.params[j]? = some t → args[j]? = some v → Value.okWide Try.prog W .any base t v := hval0
  have hW' := hW
  obtain ⟨p, q, hA0, hV, rfl, hfz, hnd⟩ := hW
  have hA : DataW.TrodAll enc Try.prog W 0 (fun _ => true) true Try.f6.params.toList args.toList ds p := hA0
  rw [Try.params6] at hA hval hsz
  obtain ⟨v0, vs0, d0, ds0, p0, q0, hargs, rfl, rfl, h0, r0⟩ := trodAll_cons hA
  obtain ⟨rfl, rfl, rfl⟩ := trodAll_nil r0
  obtain rfl : args = #[v0] := by cases args; simp_all
  obtain ⟨rfl, rfl⟩ := trodVars_none hV
  obtain ⟨a0, len0, cap0, rfl⟩ := okWide_slice Try.underlying36 (hval 0 36 v0 rfl rfl)
  have k0 := h0
  have lt0 : ∀ x ∈ p0, x.block < W.heap.size := by obtain ⟨m, hm⟩ := k0; exact DataW.trod_lt m _ _ _ hm
  obtain ⟨fuel0, hf0⟩ := h0
  obtain ⟨z0, zl0, zm0, zw0, zr0⟩ := reads_row Try.underlying36 Try.underlying5 (by kernel_rfl) hf0
  obtain ⟨b0, bl0, be0⟩ := bytes_of z0 zw0
  rw [be0] at zr0
  clear hA0 hval0 hsz0
  have hF := L_ParentOnly b0 (by omega)
  refine ((ok_law08_ParentOnly.2 W (Kept W) [ysD b0] _ _ trivial hF ⟨rfl, fun j d v hj hv => ?_⟩ (kept_lt W))).mono fun e W' ⟨u, he, bel, hr⟩ => ?_
  · match j, hj, hv with
    | 0, hj, hv => cases hj; cases hv; exact zr0
  cases hr
  subst he
  exact ⟨_, rfl, _, _, _, [], _, [], hW', trodAll_mk1 (shut_bool Try.underlying4 _), (trodAll_cons_mk (Below.trod laidOut (by kernel_rfl) (of_decide_eq_true (by kernel_rfl)) k0 bel lt0) trodAll_mk0), rfl, bel.frame _, fun h => by cases h⟩
theorem over : Rows.parentOnlyRow.holds Try.pinned (OpenSpec.ofChange Rows.parentOnlySpec) :=
  OpenClaim.holds_of_wide 6 Try.f6 rfl rfl rfl rfl rfl rfl rfl ⟨rfl, rfl, rfl, rfl, rfl⟩ rfl rfl rfl rfl rfl (by kernel_rfl) Try.func6 (by kernel_rfl)
    (of_decide_eq_true (by kernel_rfl)) (by unfold Func.isWrapper; first | (rw [if_pos (by decide +kernel)]; kernel_rfl) | (rw [if_neg (by decide +kernel)]; exact ⟨rfl, rfl⟩))
    (fun os started H enc _ => lifted os started H enc)
theorem proved : Rows.ParentOnlySaid := over
end Go.Proofs.Ytcnedmkfcbcjkaa.parentOnly
namespace Go.Proofs.Ytcnedmkfcbcjkaa
theorem parentOnly_holds : Rows.ParentOnlySaid := parentOnly.proved
end Go.Proofs.Ytcnedmkfcbcjkaa

