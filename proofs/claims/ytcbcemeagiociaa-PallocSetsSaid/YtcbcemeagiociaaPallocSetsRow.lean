/-
  The law PallocSets (P5.1): of all bits, and numbers, whether a block is used is told; it is set, and nothing else is: it answers true. No condition.
-/
import Derived.Test.YtcbcemeagiociaaLaw
import Derived.Test.YtcbcemeagiociaaOpen
import Derived.Test.YtcbcemeagiociaaPallocSetsWalk
namespace Go.Proofs.Ytcbcemeagiociaa.pallocSets
open Go.ChangeShapes Go.WideShapes Go.ChangeAt Go.RowKit
theorem list4 : ∀ (zs : List Int), zs.length = 4 → ∃ x0 x1 x2 x3 : Int, zs = [x0, x1, x2, x3]
  | [x0, x1, x2, x3], _ => ⟨x0, x1, x2, x3, rfl⟩

set_option maxRecDepth 100000 in
theorem lifted (os : Os) (started : os.Started) (H : Type) (enc : TypeId × Value → H) :
    ReturnsInHanded {} Try.checked os 11 .any (Rows.pallocSetsSpec.pre6 enc Try.prog Try.f11 Rows.pallocSetsRow.domain false) (Rows.pallocSetsSpec.post enc Try.prog Try.f11 false true false false) := by
  refine returnsInHanded_of_change (C := Try.checked) Try.own started (by kernel_rfl) Try.func11
    (ChangeSpec.witness6 (enc := enc) (C := Try.checked) false ⟨#[], #[.agg #[.int .u64 0, .int .u64 0, .int .u64 0, .int .u64 0], .int .i64 0, .bool false], []⟩ 40 (by kernel_rfl) (by kernel_rfl) (by kernel_rfl) (by kernel_rfl)) ?_
  intro W base args ds gs before hval0 hW hcnd _
  clear hcnd
  have hval : ∀ (j : Nat) t v, Try.f11.params[j]? = some t → args[j]? = some v → Value.okWide Try.prog W .any base t v := hval0
  clear hval0
  have hW' := hW
  obtain ⟨p, q, hA0, hV, rfl, hfz, hnd⟩ := hW
  have hA : DataW.TrodAll enc Try.prog W 0 (fun _ => true) true Try.f11.params.toList args.toList ds p := hA0
  rw [Try.params11] at hA hval
  clear hA0
  obtain ⟨rfl, rfl⟩ := trodVars_none hV
  simp only [List.append_nil] at hW'
  obtain ⟨v0, vs0, d0, ds0, p0, q0, hargs, rfl, rfl, h0, r0⟩ := trodAll_cons hA
  obtain ⟨v1, vs1, d1, ds1, p1, q1, rfl, rfl, rfl, h1, r1⟩ := trodAll_cons r0
  obtain ⟨v2, vs2, d2, ds2, p2, q2, rfl, rfl, rfl, h2, r2⟩ := trodAll_cons r1
  obtain ⟨rfl, rfl, rfl⟩ := trodAll_nil r2
  obtain rfl : args = #[v0, v1, v2] := by cases args; simp_all
  obtain ⟨zs, rfl, hlen, hwf⟩ := open_arr_ints Try.underlying68 Try.underlying26 (by kernel_rfl) (by kernel_rfl) (hval 0 68 v0 rfl rfl) h0
  obtain ⟨x0, x1, x2, x3, rfl⟩ := list4 zs hlen
  have hwf' : ∀ z ∈ [x0, x1, x2, x3], 0 ≤ z ∧ z < 18446744073709551616 := fun z hz => wf_u64 (hwf z hz)
  obtain ⟨n1, rfl, rfl, rfl, w1⟩ := open_int Try.underlying3 (hval 1 3 v1 rfl rfl) h1
  obtain ⟨u1, rfl, rfl, rfl⟩ := open_bool Try.underlying4 (hval 2 4 v2 rfl rfl) h2
  refine (law_sets4 x0 x1 x2 x3 hwf' n1 u1 W).mono fun e W' ⟨he, hB⟩ => ?_
  subst he
  exact ⟨_, rfl, post_law Try.laidOut (readable_all (by kernel_rfl)) rfl Try.underlying4 rfl rfl hW' hB⟩

theorem over : Rows.pallocSetsRow.holds Try.pinned (OpenSpec.ofChange Rows.pallocSetsSpec) :=
  OpenClaim.holds_of_wide 11 Try.f11 rfl rfl rfl rfl rfl rfl rfl ⟨rfl, rfl, rfl, rfl, rfl⟩ rfl rfl rfl rfl rfl (by kernel_rfl) Try.func11 (by kernel_rfl)
    (of_decide_eq_true (by kernel_rfl)) (by unfold Func.isWrapper; first | (rw [if_pos (by decide +kernel)]; kernel_rfl) | (rw [if_neg (by decide +kernel)]; exact ⟨rfl, rfl⟩))
    (fun os started H enc _ => lifted os started H enc)

theorem proved : Rows.PallocSetsSaid := over
end Go.Proofs.Ytcbcemeagiociaa.pallocSets
