/-
  The law InodePlays (P8.2): of each sequence of calls what is put, new and dropped is told as the table tells it, and each inode is read as it was put: it answers true. No condition.
-/
import Derived.Test.YtlopdbhjdijlmaaQLaw
import Derived.Test.YtlopdbhjdijlmaaQOpenSt
import Derived.Test.YtlopdbhjdijlmaaQInodePlaysWalk

namespace Go.Proofs.Ytlopdbhjdijlmaa.inodePlays
open Go.ChangeShapes Go.WideShapes Go.ChangeAt Go.RowKit

theorem list4 : ∀ (zs : List Int), zs.length = 4 → ∃ x0 x1 x2 x3 : Int, zs = [x0, x1, x2, x3]
  | [x0, x1, x2, x3], _ => ⟨x0, x1, x2, x3, rfl⟩

def four4 (x0 x1 x2 x3 : Int) (i : Nat) : Int := if i = 0 then x0 else if i = 1 then x1 else if i = 2 then x2 else x3

set_option maxRecDepth 100000 in
theorem lifted (os : Os) (started : os.Started) (H : Type) (enc : TypeId × Value → H) :
    ReturnsInHanded {} Try.checked os 4 .any (Rows.inodePlaysSpec.pre6 enc Try.prog Try.f4 Rows.inodePlaysRow.domain false) (Rows.inodePlaysSpec.post enc Try.prog Try.f4 false true false false) := by
  refine returnsInHanded_of_change (C := Try.checked) Try.own started (by kernel_rfl) Try.func4
    (ChangeSpec.witness6 (enc := enc) (C := Try.checked) false ⟨#[], #[.agg #[.int .u64 0, .int .u64 0, .int .u64 0, .int .u64 0], .slice none 0 0], []⟩ 40 (by kernel_rfl) (by kernel_rfl) (by kernel_rfl) (by kernel_rfl)) ?_
  intro W base args ds gs before hval0 hW hcnd _
  clear hcnd
  have hval : ∀ (j : Nat) t v, Try.f4.params[j]? = some t → args[j]? = some v → Value.okWide Try.prog W .any base t v := hval0
  clear hval0
  have hW' := hW
  obtain ⟨p, q, hA0, hV, rfl, hfz, hnd⟩ := hW
  have hA : DataW.TrodAll enc Try.prog W 0 (fun _ => true) true Try.f4.params.toList args.toList ds p := hA0
  rw [Try.params4] at hA hval
  clear hA0
  obtain ⟨rfl, rfl⟩ := trodVars_none hV
  simp only [List.append_nil] at hW'
  obtain ⟨v0, vs0, d0, ds0, p0, q0, hargs, rfl, rfl, h0, r0⟩ := trodAll_cons hA
  obtain ⟨v1, vs1, d1, ds1, p1, q1, rfl, rfl, rfl, h1, r1⟩ := trodAll_cons r0
  obtain ⟨rfl, rfl, rfl⟩ := trodAll_nil r1
  obtain rfl : args = #[v0, v1] := by cases args; simp_all
  obtain ⟨zs, rfl, hlen, hwf⟩ := open_arr_ints Try.underlying38 Try.underlying37 (by kernel_rfl) (by kernel_rfl) (hval 0 38 v0 rfl rfl) h0
  obtain ⟨x0, x1, x2, x3, rfl⟩ := list4 zs hlen
  have hwf' : ∀ z ∈ [x0, x1, x2, x3], 0 ≤ z ∧ z < 18446744073709551616 := fun z hz => wf_u64 (hwf z hz)
  obtain ⟨l, hl⟩ := open_ops8 (hval 1 39 v1 rfl rfl) h1
  have ha : ∀ i, 0 ≤ four4 x0 x1 x2 x3 i ∧ four4 x0 x1 x2 x3 i < 18446744073709551616 := by
    have g0 := hwf' x0 (by simp)
    have g1 := hwf' x1 (by simp)
    have g2 := hwf' x2 (by simp)
    have g3 := hwf' x3 (by simp)
    intro i
    unfold four4
    split
    · exact g0
    · split
      · exact g1
      · split
        · exact g2
        · exact g3
  refine (law_plays (four4 x0 x1 x2 x3) ha hl).mono fun e W' ⟨he, hB⟩ => ?_
  subst he
  exact ⟨_, rfl, post_law Try.laidOut (readable_all (by kernel_rfl)) rfl Try.underlying4 rfl rfl hW' hB⟩

theorem over : Rows.inodePlaysRow.holds Try.pinned (OpenSpec.ofChange Rows.inodePlaysSpec) :=
  OpenClaim.holds_of_wide 4 Try.f4 rfl rfl rfl rfl rfl rfl rfl ⟨rfl, rfl, rfl, rfl, rfl⟩ rfl rfl rfl rfl rfl (by kernel_rfl) Try.func4 (by kernel_rfl)
    (of_decide_eq_true (by kernel_rfl)) (by unfold Func.isWrapper; first | (rw [if_pos (by decide +kernel)]; kernel_rfl) | (rw [if_neg (by decide +kernel)]; exact ⟨rfl, rfl⟩))
    (fun os started H enc _ => lifted os started H enc)

theorem proved : Rows.InodePlaysSaid := over
end Go.Proofs.Ytlopdbhjdijlmaa.inodePlays
