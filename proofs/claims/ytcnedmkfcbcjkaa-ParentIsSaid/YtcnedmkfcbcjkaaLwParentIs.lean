/- The law ParentIs answers true, whatever it is given; what it is given reads as it did. Condition: none. -/
import Derived.Test.YtcnedmkfcbcjkaaLw
import Derived.Test.YtcnedmkfcbcjkaaSp10
import Derived.Test.YtcnedmkfcbcjkaaLw2
namespace Go.Proofs.Ytcnedmkfcbcjkaa.parentIs
open Go Go.RowKit Go.Proofs.Ytcnedmkfcbcjkaa.Ra Go.Proofs.Ytcnedmkfcbcjkaa.Pl Go.ChangeShapes Go.WideShapes Go.ChangeAt
open Go.ChangeMaps (open_string shut_string)
set_option linter.unusedVariables false
set_option maxRecDepth 100000 in
theorem lifted (os : Os) (started : os.Started) (H : Type) (enc : TypeId × Value → H) :
    ReturnsInHanded {} Try.checked os 4 .any (Rows.parentIsSpec.pre6 enc Try.prog Try.f4 Rows.parentIsRow.domain false) (Rows.parentIsSpec.post enc Try.prog Try.f4 false true false false) := by
  refine returnsInHanded_of_change_sized (C := Try.checked) own started (by kernel_rfl) Try.func4
    (ChangeSpec.witness6 (enc := enc) (C := Try.checked) false ⟨#[], #[.agg #[.slice none 0 0, .slice none 0 0, .slice none 0 0], .agg #[.slice none 0 0, .slice none 0 0, .slice none 0 0], .slice none 0 0, .int .i64 0], []⟩ 8 (by kernel_rfl) (by kernel_rfl) (by kernel_rfl) (by kernel_rfl)) ?_
  intro W base args ds gs before hval0 hW hcnd hsz0 _
  have hsz : (DataW.weightsEach Try.prog (Try.f4.params.toList ++ Rows.parentIsSpec.plain.varTypes Try.prog) (ds ++ gs)).all (· ≤ reachBytes) = true := hsz0
  have hval : ∀ (j : Nat) t v, Try.f4.params[j]? = some t → args[j]? = some v → Value.okWide Try.prog W .any base t v := hval0
  have hW' := hW
  obtain ⟨p, q, hA0, hV, rfl, hfz, hnd⟩ := hW
  have hA : DataW.TrodAll enc Try.prog W 0 (fun _ => true) true Try.f4.params.toList args.toList ds p := hA0
  rw [Try.params4] at hA hval hsz
  obtain ⟨v0, vs0, d0, ds0, p0, q0, hargs, rfl, rfl, h0, r0⟩ := trodAll_cons hA
  obtain ⟨v1, vs1, d1, ds1, p1, q1, rfl, rfl, rfl, h1, r1⟩ := trodAll_cons r0
  obtain ⟨v2, vs2, d2, ds2, p2, q2, rfl, rfl, rfl, h2, r2⟩ := trodAll_cons r1
  obtain ⟨v3, vs3, d3, ds3, p3, q3, rfl, rfl, rfl, h3, r3⟩ := trodAll_cons r2
  obtain ⟨rfl, rfl, rfl⟩ := trodAll_nil r3
  obtain rfl : args = #[v0, v1, v2, v3] := by cases args; simp_all
  obtain ⟨rfl, rfl⟩ := trodVars_none hV
  have k0 := h0
  have lt0 : ∀ x ∈ p0, x.block < W.heap.size := by obtain ⟨m, hm⟩ := k0; exact DataW.trod_lt m _ _ _ hm
  obtain ⟨n0, ⟨na0, nb0, nc0⟩, nr0⟩ := reads_inner (hval 0 38 v0 rfl rfl) h0 (arg_size hsz (j := 0) rfl rfl)
  have k1 := h1
  have lt1 : ∀ x ∈ p1, x.block < W.heap.size := by obtain ⟨m, hm⟩ := k1; exact DataW.trod_lt m _ _ _ hm
  obtain ⟨n1, ⟨na1, nb1, nc1⟩, nr1⟩ := reads_inner (hval 1 38 v1 rfl rfl) h1 (arg_size hsz (j := 1) rfl rfl)
  obtain ⟨a2, len2, cap2, rfl⟩ := okWide_slice Try.underlying36 (hval 2 36 v2 rfl rfl)
  have k2 := h2
  have lt2 : ∀ x ∈ p2, x.block < W.heap.size := by obtain ⟨m, hm⟩ := k2; exact DataW.trod_lt m _ _ _ hm
  obtain ⟨fuel2, hf2⟩ := h2
  obtain ⟨z2, zl2, zm2, zw2, zr2⟩ := reads_row Try.underlying36 Try.underlying5 (by kernel_rfl) hf2
  obtain ⟨b2, bl2, be2⟩ := bytes_of z2 zw2
  rw [be2] at zr2
  obtain ⟨a3, rfl, rfl, rfl, w3⟩ := open_int Try.underlying3 (hval 3 3 v3 rfl rfl) h3
  clear hA0 hval0 hsz0
  have hF := L_ParentIs n0 n1 b2 a3 na0 nb0 nc0 na1 nb1 nc1 (by omega)
  refine ((ok_law08_ParentIs.2 W (Kept W) [innerD n0, innerD n1, ysD b2, iD a3] _ _ trivial hF ⟨rfl, fun j d v hj hv => ?_⟩ (kept_lt W))).mono fun e W' ⟨u, he, bel, hr⟩ => ?_
  · match j, hj, hv with
    | 0, hj, hv => cases hj; cases hv; exact nr0
    | 1, hj, hv => cases hj; cases hv; exact nr1
    | 2, hj, hv => cases hj; cases hv; exact zr2
    | 3, hj, hv => cases hj; cases hv; exact .int _ _
  cases hr
  subst he
  exact ⟨_, rfl, _, _, _, [], _, [], hW', trodAll_mk1 (shut_bool Try.underlying4 _), (trodAll_cons_mk (Below.trod laidOut (by kernel_rfl) (of_decide_eq_true (by kernel_rfl)) k0 bel lt0) (trodAll_cons_mk (Below.trod laidOut (by kernel_rfl) (of_decide_eq_true (by kernel_rfl)) k1 bel lt1) (trodAll_cons_mk (Below.trod laidOut (by kernel_rfl) (of_decide_eq_true (by kernel_rfl)) k2 bel lt2) (trodAll_cons_mk (shut_int Try.underlying3 w3) trodAll_mk0)))), rfl, bel.frame _, fun h => by cases h⟩
theorem over : Rows.parentIsRow.holds Try.pinned (OpenSpec.ofChange Rows.parentIsSpec) :=
  OpenClaim.holds_of_wide 4 Try.f4 rfl rfl rfl rfl rfl rfl rfl ⟨rfl, rfl, rfl, rfl, rfl⟩ rfl rfl rfl rfl rfl (by kernel_rfl) Try.func4 (by kernel_rfl)
    (of_decide_eq_true (by kernel_rfl)) (by unfold Func.isWrapper; first | (rw [if_pos (by decide +kernel)]; kernel_rfl) | (rw [if_neg (by decide +kernel)]; exact ⟨rfl, rfl⟩))
    (fun os started H enc _ => lifted os started H enc)
theorem proved : Rows.ParentIsSaid := over
end Go.Proofs.Ytcnedmkfcbcjkaa.parentIs
namespace Go.Proofs.Ytcnedmkfcbcjkaa
theorem parentIs_holds : Rows.ParentIsSaid := parentIs.proved
end Go.Proofs.Ytcnedmkfcbcjkaa

