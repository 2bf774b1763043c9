/-
  The law PmemLasts (P1.3): what is flushed, and fenced, stays in a crash, whatever is stored elsewhere: it answers true. No condition.
-/
import Derived.Test.YtfpnmphmngdkdaaLaw
import Derived.Test.YtfpnmphmngdkdaaOpenOp1
import Derived.Test.YtfpnmphmngdkdaaPmemLastsWalk
namespace Go.Proofs.Ytfpnmphmngdkdaa.pmemLasts
open Go.ChangeShapes Go.WideShapes Go.ChangeAt Go.RowKit

set_option maxRecDepth 100000 in
theorem lifted (os : Os) (started : os.Started) (H : Type) (enc : TypeId × Value → H) :
    ReturnsInHanded {} Try.checked os 10 .any (Rows.pmemLastsSpec.pre6 enc Try.prog Try.f10 Rows.pmemLastsRow.domain false) (Rows.pmemLastsSpec.post enc Try.prog Try.f10 false true false false) := by
  refine returnsInHanded_of_change (C := Try.checked) Try.own started (by kernel_rfl) Try.func10
    (ChangeSpec.witness6 (enc := enc) (C := Try.checked) false ⟨#[], #[.agg #[.int .u8 0, .int .i64 0, .int .i64 0, .int .u64 0, .slice none 0 0], .slice none 0 0], []⟩ 40 (by kernel_rfl) (by kernel_rfl) (by kernel_rfl) (by kernel_rfl)) ?_
  intro W base args ds gs before hval0 hW hcnd _
  clear hcnd
  have hval : ∀ (j : Nat) t v, Try.f10.params[j]? = some t → args[j]? = some v → Value.okWide Try.prog W .any base t v := hval0
  clear hval0
  have hW' := hW
  obtain ⟨p, q, hA0, hV, rfl, hfz, hnd⟩ := hW
  have hA : DataW.TrodAll enc Try.prog W 0 (fun _ => true) true Try.f10.params.toList args.toList ds p := hA0
  rw [Try.params10] at hA hval
  clear hA0
  obtain ⟨rfl, rfl⟩ := trodVars_none hV
  simp only [List.append_nil] at hW'
  obtain ⟨v0, vs0, d0, ds0, p0, q0, hargs, rfl, rfl, h0, r0⟩ := trodAll_cons hA
  obtain ⟨v1, vs1, d1, ds1, p1, q1, rfl, rfl, rfl, h1, r1⟩ := trodAll_cons r0
  obtain ⟨rfl, rfl, rfl⟩ := trodAll_nil r1
  obtain rfl : args = #[v0, v1] := by cases args; simp_all
  obtain ⟨x, kv, rfl, hx, hkv⟩ := open_op1 (hval 0 69 v0 rfl rfl) h0
  obtain ⟨l, hl⟩ := open_ops1 (hval 1 64 v1 rfl rfl) h1
  refine (law_lasts0 hl x hx hkv).mono fun e W' ⟨he, hB⟩ => ?_
  subst he
  exact ⟨_, rfl, post_law Try.laidOut (readable_all (by kernel_rfl)) rfl Try.underlying4 rfl rfl hW' hB⟩

theorem over : Rows.pmemLastsRow.holds Try.pinned (OpenSpec.ofChange Rows.pmemLastsSpec) :=
  OpenClaim.holds_of_wide 10 Try.f10 rfl rfl rfl rfl rfl rfl rfl ⟨rfl, rfl, rfl, rfl, rfl⟩ rfl rfl rfl rfl rfl (by kernel_rfl) Try.func10 (by kernel_rfl)
    (of_decide_eq_true (by kernel_rfl)) (by unfold Func.isWrapper; first | (rw [if_pos (by decide +kernel)]; kernel_rfl) | (rw [if_neg (by decide +kernel)]; exact ⟨rfl, rfl⟩))
    (fun os started H enc _ => lifted os started H enc)

theorem proved : Rows.PmemLastsSaid := over
end Go.Proofs.Ytfpnmphmngdkdaa.pmemLasts
