/- The law ParentBack answers true, whatever it is given; what it is given reads as it did. Condition: none. -/
import Derived.Test.YtcnedmkfcbcjkaaLw
import Derived.Test.YtcnedmkfcbcjkaaSp9
import Derived.Test.YtcnedmkfcbcjkaaLw2
namespace Go.Proofs.Ytcnedmkfcbcjkaa.parentBack
open Go Go.RowKit Go.Proofs.Ytcnedmkfcbcjkaa.Ra Go.Proofs.Ytcnedmkfcbcjkaa.Pl Go.ChangeShapes Go.WideShapes Go.ChangeAt
open Go.ChangeMaps (open_string shut_string)
set_option linter.unusedVariables false
set_option maxRecDepth 100000 in
theorem lifted (os : Os) (started : os.Started) (H : Type) (enc : TypeId × Value → H) :
    ReturnsInHanded {} Try.checked os 5 .any (Rows.parentBackSpec.pre6 enc Try.prog Try.f5 Rows.parentBackRow.domain false) (Rows.parentBackSpec.post enc Try.prog Try.f5 false true false false) := by
  refine returnsInHanded_of_change_sized (C := Try.checked) own started (by kernel_rfl) Try.func5
    (ChangeSpec.witness6 (enc := enc) (C := Try.checked) false ⟨#[], #[.agg #[.slice none 0 0, .slice none 0 0, .slice none 0 0], .slice none 0 0, .int .i64 0], []⟩ 8 (by kernel_rfl) (by kernel_rfl) (by kernel_rfl) (by kernel_rfl)) ?_
  intro W base args ds gs before hval0 hW hcnd hsz0 _
  have hsz : (DataW.weightsEach Try.prog (Try.f5.params.toList ++ Rows.parentBackSpec.plain.varTypes Try.prog) (ds ++ gs)).all (· ≤ reachBytes) = true := hsz0
  have hval : ∀ (j : Nat) t v, Try.f5.params[j]? = some t → args[j]? = some v → Value.okWide Try.prog W .any base t v := hval0
  have hW' := hW
  obtain ⟨p, q, hA0, hV, rfl, hfz, hnd⟩ := hW
  have hA : DataW.TrodAll enc Try.prog W 0 (fun _ => true) true Try.f5.params.toList args.toList ds p := hA0
  rw [Try.params5] at hA hval hsz
  obtain ⟨v0, vs0, d0, ds0, p0, q0, hargs, rfl, rfl, h0, r0⟩ := trodAll_cons hA
  obtain ⟨v1, vs1, d1, ds1, p1, q1, rfl, rfl, rfl, h1, r1⟩ := trodAll_cons r0
  obtain ⟨v2, vs2, d2, ds2, p2, q2, rfl, rfl, rfl, h2, r2⟩ := trodAll_cons r1
  obtain ⟨rfl, rfl, rfl⟩ := trodAll_nil r2
  obtain rfl : args = #[v0, v1, v2] := by cases args; simp_all
  obtain ⟨rfl, rfl⟩ := trodVars_none hV
  have k0 := h0
  have lt0 : ∀ x ∈ p0, x.block < W.heap.size := by obtain ⟨m, hm⟩ := k0; exact DataW.trod_lt m _ _ _ hm
  obtain ⟨n0, ⟨na0, nb0, nc0⟩, nr0⟩ := reads_inner (hval 0 38 v0 rfl rfl) h0 (arg_size hsz (j := 0) rfl rfl)
  obtain ⟨a1, len1, cap1, rfl⟩ := okWide_slice Try.underlying36 (hval 1 36 v1 rfl rfl)
  have k1 := h1
  have lt1 : ∀ x ∈ p1, x.block < W.heap.size := by obtain ⟨m, hm⟩ := k1; exact DataW.trod_lt m _ _ _ hm
  obtain ⟨fuel1, hf1⟩ := h1
  obtain ⟨z1, zl1, zm1, zw1, zr1⟩ := reads_row Try.underlying36 Try.underlying5 (by kernel_rfl) hf1
  obtain ⟨b1, bl1, be1⟩ := bytes_of z1 zw1
  rw [be1] at zr1
  obtain ⟨a2, rfl, rfl, rfl, w2⟩ := open_int Try.underlying3 (hval 2 3 v2 rfl rfl) h2
  clear hA0 hval0 hsz0
  have hF := L_ParentBack n0 b1 a2 na0 nb0 nc0 (by omega)
  refine ((ok_law08_ParentBack.2 W (Kept W) [innerD n0, ysD b1, iD a2] _ _ trivial hF ⟨rfl, fun j d v hj hv => ?_⟩ (kept_lt W))).mono fun e W' ⟨u, he, bel, hr⟩ => ?_
  · match j, hj, hv with
    | 0, hj, hv => cases hj; cases hv; exact nr0
    | 1, hj, hv => cases hj; cases hv; exact zr1
    | 2, hj, hv => cases hj; cases hv; exact .int _ _
  cases hr
  subst he
  exact ⟨_, rfl, _, _, _, [], _, [], hW', trodAll_mk1 (shut_bool Try.underlying4 _), (trodAll_cons_mk (Below.trod laidOut (by kernel_rfl) (of_decide_eq_true (by kernel_rfl)) k0 bel lt0) (trodAll_cons_mk (Below.trod laidOut (by kernel_rfl) (of_decide_eq_true (by kernel_rfl)) k1 bel lt1) (trodAll_cons_mk (shut_int Try.underlying3 w2) trodAll_mk0))), rfl, bel.frame _, fun h => by cases h⟩
theorem over : Rows.parentBackRow.holds Try.pinned (OpenSpec.ofChange Rows.parentBackSpec) :=
  OpenClaim.holds_of_wide 5 Try.f5 rfl rfl rfl rfl rfl rfl rfl ⟨rfl, rfl, rfl, rfl, rfl⟩ rfl rfl rfl rfl rfl (by kernel_rfl) Try.func5 (by kernel_rfl)
    (of_decide_eq_true (by kernel_rfl)) (by unfold Func.isWrapper; first | (rw [if_pos (by decide +kernel)]; kernel_rfl) | (rw [if_neg (by decide +kernel)]; exact ⟨rfl, rfl⟩))
    (fun os started H enc _ => lifted os started H enc)
theorem proved : Rows.ParentBackSaid := over
end Go.Proofs.Ytcnedmkfcbcjkaa.parentBack
namespace Go.Proofs.Ytcnedmkfcbcjkaa
theorem parentBack_holds : Rows.ParentBackSaid := parentBack.proved
end Go.Proofs.Ytcnedmkfcbcjkaa

