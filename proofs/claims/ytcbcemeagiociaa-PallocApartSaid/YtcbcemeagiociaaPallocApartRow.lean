/-
  The law PallocApart (P5.2): what is taken twice has no block in both; together they are as many as were free less those that are: it answers true. No condition.
-/
import Derived.Test.YtcbcemeagiociaaLaw
import Derived.Test.YtcbcemeagiociaaOpen
import Derived.Test.YtcbcemeagiociaaPallocApartWalk
namespace Go.Proofs.Ytcbcemeagiociaa.pallocApart
open Go.ChangeShapes Go.WideShapes Go.ChangeAt Go.RowKit
theorem list4 : ∀ (zs : List Int), zs.length = 4 → ∃ x0 x1 x2 x3 : Int, zs = [x0, x1, x2, x3]
  | [x0, x1, x2, x3], _ => ⟨x0, x1, x2, x3, rfl⟩

set_option maxRecDepth 100000 in
theorem lifted (os : Os) (started : os.Started) (H : Type) (enc : TypeId × Value → H) :
    ReturnsInHanded {} Try.checked os 10 .any (Rows.pallocApartSpec.pre6 enc Try.prog Try.f10 Rows.pallocApartRow.domain false) (Rows.pallocApartSpec.post enc Try.prog Try.f10 false true false false) := by
  refine returnsInHanded_of_change (C := Try.checked) Try.own started (by kernel_rfl) Try.func10
    (ChangeSpec.witness6 (enc := enc) (C := Try.checked) false ⟨#[], #[.agg #[.int .u64 0, .int .u64 0, .int .u64 0, .int .u64 0], .int .u8 0, .int .u8 0], []⟩ 40 (by kernel_rfl) (by kernel_rfl) (by kernel_rfl) (by kernel_rfl)) ?_
  intro W base args ds gs before hval0 hW hcnd _
  clear hcnd
  have hval : ∀ (j : Nat) t v, Try.f10.params[j]? = some t → args[j]? = some v → Value.okWide Try.prog W .any base t v := hval0
  clear hval0
  have hW' := hW
  obtain ⟨p, q, hA0, hV, rfl, hfz, hnd⟩ := hW
  have hA : DataW.TrodAll enc Try.prog W 0 (fun _ => true) true Try.f10.params.toList args.toList ds p := hA0
  rw [Try.params10] at hA hval
  clear hA0
  obtain ⟨rfl, rfl⟩ := trodVars_none hV
  simp only [List.append_nil] at hW'
  obtain ⟨v0, vs0, d0, ds0, p0, q0, hargs, rfl, rfl, h0, r0⟩ := trodAll_cons hA
  obtain ⟨v1, vs1, d1, ds1, p1, q1, rfl, rfl, rfl, h1, r1⟩ := trodAll_cons r0
  obtain ⟨v2, vs2, d2, ds2, p2, q2, rfl, rfl, rfl, h2, r2⟩ := trodAll_cons r1
  obtain ⟨rfl, rfl, rfl⟩ := trodAll_nil r2
  obtain rfl : args = #[v0, v1, v2] := by cases args; simp_all
  obtain ⟨zs, rfl, hlen, hwf⟩ := open_arr_ints Try.underlying68 Try.underlying26 (by kernel_rfl) (by kernel_rfl) (hval 0 68 v0 rfl rfl) h0
  obtain ⟨x0, x1, x2, x3, rfl⟩ := list4 zs hlen
  have hwf' : ∀ z ∈ [x0, x1, x2, x3], 0 ≤ z ∧ z < 18446744073709551616 := fun z hz => wf_u64 (hwf z hz)
  obtain ⟨n1, rfl, rfl, rfl, w1⟩ := open_int Try.underlying5 (hval 1 5 v1 rfl rfl) h1
  obtain ⟨n2, rfl, rfl, rfl, w2⟩ := open_int Try.underlying5 (hval 2 5 v2 rfl rfl) h2
  obtain ⟨a0, a1⟩ := wf_u8 w1
  obtain ⟨b0, b1⟩ := wf_u8 w2
  obtain ⟨m1, rfl⟩ := Int.eq_ofNat_of_zero_le a0
  obtain ⟨m2, rfl⟩ := Int.eq_ofNat_of_zero_le b0
  refine (law_apart4 x0 x1 x2 x3 hwf' m1 m2 (by omega) (by omega) W).mono fun e W' ⟨he, hB⟩ => ?_
  subst he
  exact ⟨_, rfl, post_law Try.laidOut (readable_all (by kernel_rfl)) rfl Try.underlying4 rfl rfl hW' hB⟩

theorem over : Rows.pallocApartRow.holds Try.pinned (OpenSpec.ofChange Rows.pallocApartSpec) :=
  OpenClaim.holds_of_wide 10 Try.f10 rfl rfl rfl rfl rfl rfl rfl ⟨rfl, rfl, rfl, rfl, rfl⟩ rfl rfl rfl rfl rfl (by kernel_rfl) Try.func10 (by kernel_rfl)
    (of_decide_eq_true (by kernel_rfl)) (by unfold Func.isWrapper; first | (rw [if_pos (by decide +kernel)]; kernel_rfl) | (rw [if_neg (by decide +kernel)]; exact ⟨rfl, rfl⟩))
    (fun os started H enc _ => lifted os started H enc)

theorem proved : Rows.PallocApartSaid := over
end Go.Proofs.Ytcbcemeagiociaa.pallocApart
