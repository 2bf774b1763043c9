/-
  The law PmemEither (P1.2, P1.3): behind a crash each word is as it was stored last, or as it lasted; a second crash changes nothing: it answers true. No condition.
-/
import Derived.Test.YtfpnmphmngdkdaaLaw
import Derived.Test.YtfpnmphmngdkdaaOp1
import Derived.Test.YtfpnmphmngdkdaaPmemEitherWalk
namespace Go.Proofs.Ytfpnmphmngdkdaa.pmemEither
open Go.ChangeShapes Go.WideShapes Go.ChangeAt Go.RowKit
set_option maxRecDepth 100000 in
theorem open_bytes {H : Type} {enc : TypeId × Value → H} {W : World} {r : Reach} {base b0 : Nat} {sp : Nat → Bool} {held : Bool} {v : Value} {d : DataW H} {p : List MemPlace}
    (hok : Value.okWide Try.prog W r b0 65 v) (h : DataW.Trod enc Try.prog W base sp held 65 v d p) : ∃ l : List Nat, HoldsB W v l := by
  obtain ⟨a, l, c, rfl⟩ := okWide_slice Try.underlying65 hok
  obtain ⟨fuel, hf⟩ := h
  exact bytes_of Try.underlying65 Try.underlying5 (by kernel_rfl) hf

set_option maxRecDepth 100000 in
theorem lifted (os : Os) (started : os.Started) (H : Type) (enc : TypeId × Value → H) :
    ReturnsInHanded {} Try.checked os 9 .any (Rows.pmemEitherSpec.pre6 enc Try.prog Try.f9 Rows.pmemEitherRow.domain false) (Rows.pmemEitherSpec.post enc Try.prog Try.f9 false true false false) := by
  refine returnsInHanded_of_change (C := Try.checked) Try.own started (by kernel_rfl) Try.func9
    (ChangeSpec.witness6 (enc := enc) (C := Try.checked) false ⟨#[], #[.slice none 0 0, .slice none 0 0], []⟩ 40 (by kernel_rfl) (by kernel_rfl) (by kernel_rfl) (by kernel_rfl)) ?_
  intro W base args ds gs before hval0 hW hcnd _
  clear hcnd
  have hval : ∀ (j : Nat) t v, Try.f9.params[j]? = some t → args[j]? = some v → Value.okWide Try.prog W .any base t v := hval0
  clear hval0
  have hW' := hW
  obtain ⟨p, q, hA0, hV, rfl, hfz, hnd⟩ := hW
  have hA : DataW.TrodAll enc Try.prog W 0 (fun _ => true) true Try.f9.params.toList args.toList ds p := hA0
  rw [Try.params9] at hA hval
  clear hA0
  obtain ⟨rfl, rfl⟩ := trodVars_none hV
  simp only [List.append_nil] at hW'
  obtain ⟨v0, vs0, d0, ds0, p0, q0, hargs, rfl, rfl, h0, r0⟩ := trodAll_cons hA
  obtain ⟨v1, vs1, d1, ds1, p1, q1, rfl, rfl, rfl, h1, r1⟩ := trodAll_cons r0
  obtain ⟨rfl, rfl, rfl⟩ := trodAll_nil r1
  obtain rfl : args = #[v0, v1] := by cases args; simp_all
  obtain ⟨l, hl⟩ := open_ops1 (hval 0 64 v0 rfl rfl) h0
  obtain ⟨k, hk⟩ := open_bytes (hval 1 65 v1 rfl rfl) h1
  refine (law_either0 hl hk).mono fun e W' ⟨he, hB⟩ => ?_
  subst he
  exact ⟨_, rfl, post_law Try.laidOut (readable_all (by kernel_rfl)) rfl Try.underlying4 rfl rfl hW' hB⟩

theorem over : Rows.pmemEitherRow.holds Try.pinned (OpenSpec.ofChange Rows.pmemEitherSpec) :=
  OpenClaim.holds_of_wide 9 Try.f9 rfl rfl rfl rfl rfl rfl rfl ⟨rfl, rfl, rfl, rfl, rfl⟩ rfl rfl rfl rfl rfl (by kernel_rfl) Try.func9 (by kernel_rfl)
    (of_decide_eq_true (by kernel_rfl)) (by unfold Func.isWrapper; first | (rw [if_pos (by decide +kernel)]; kernel_rfl) | (rw [if_neg (by decide +kernel)]; exact ⟨rfl, rfl⟩))
    (fun os started H enc _ => lifted os started H enc)

theorem proved : Rows.PmemEitherSaid := over
end Go.Proofs.Ytfpnmphmngdkdaa.pmemEither
