/-
  The law TxPlays (P4.1): whatever is put, got, and undone, each word, and how many puts are left, are the reference's: it answers true. No condition.
-/
import Derived.Test.YtcbcemeagiociaaLaw
import Derived.Test.YtcbcemeagiociaaOpen2
import Derived.Test.YtcbcemeagiociaaTxPlaysWalk
namespace Go.Proofs.Ytcbcemeagiociaa.txPlays
open Go.ChangeShapes Go.WideShapes Go.ChangeAt Go.RowKit
set_option maxRecDepth 100000 in
theorem open_ops {H : Type} {enc : TypeId × Value → H} {W : World} {r : Reach} {base b0 : Nat} {sp : Nat → Bool} {held : Bool} {v : Value} {d : DataW H} {p : List MemPlace}
    (hok : Value.okWide Try.prog W r b0 44 v) (h : DataW.Trod enc Try.prog W base sp held 44 v d p) :
    ∃ l : List (Nat × Int × Nat), HoldsO W v l ∧ ∀ j, j < l.length → (l.getD j (0, 0, 0)).2.2 < 18446744073709551616 := by
  obtain ⟨ao, len, cap, rfl, h1, h2, h3, h4⟩ := open_rows Try.underlying44 Try.underlying49 (by kernel_rfl) (by kernel_rfl) (Nat.zero_lt_succ _) hok h
  obtain ⟨l, hl, hp⟩ := list_of (0, 0, 0) (P := fun j (x : Nat × Int × Nat) => (∃ g o, ao = some ⟨g, o, none⟩ ∧ W.cell? ⟨g, o + j * 3, none⟩ = some (.int .u8 (x.1 : Nat)) ∧ W.cell? ⟨g, o + j * 3 + 1, none⟩ = some (.int .i64 x.2.1) ∧ W.cell? ⟨g, o + j * 3 + 2, none⟩ = some (.int .u64 (x.2.2 : Nat))) ∧ x.2.2 < 18446744073709551616) len (by
    intro j hj
    obtain ⟨g, o, ha, hc⟩ := h4 j hj
    obtain ⟨c0, y0, n0, e0, t0⟩ := hc 0 _ rfl
    obtain ⟨c1, y1, n1, e1, t1⟩ := hc 1 _ rfl
    obtain ⟨c2, y2, n2, e2, t2⟩ := hc 2 _ rfl
    obtain ⟨z0, rfl, w0⟩ := int_of Try.underlying5 t0
    obtain ⟨z1, rfl, w1⟩ := int_of Try.underlying3 t1
    obtain ⟨z2, rfl, w2⟩ := int_of Try.underlying26 t2
    obtain ⟨a0, a1⟩ := wf_u8 w0
    obtain ⟨b0, b1⟩ := wf_u64 w2
    obtain ⟨m0, rfl⟩ := Int.eq_ofNat_of_zero_le a0
    obtain ⟨m2, rfl⟩ := Int.eq_ofNat_of_zero_le b0
    exact ⟨(m0, z1, m2), ⟨g, o, ha, e0, e1, e2⟩, by simp only; omega⟩)
  rw [← hl] at hp h1 h3 ⊢
  exact ⟨l, ⟨ao, cap, rfl, h1, h2, fun j hj => (hp j hj).1⟩, fun j hj => (hp j hj).2⟩

set_option maxRecDepth 100000 in
theorem lifted (os : Os) (started : os.Started) (H : Type) (enc : TypeId × Value → H) :
    ReturnsInHanded {} Try.checked os 7 .any (Rows.txPlaysSpec.pre6 enc Try.prog Try.f7 Rows.txPlaysRow.domain false) (Rows.txPlaysSpec.post enc Try.prog Try.f7 false true false false) := by
  refine returnsInHanded_of_change (C := Try.checked) Try.own started (by kernel_rfl) Try.func7
    (ChangeSpec.witness6 (enc := enc) (C := Try.checked) false ⟨#[], #[.slice none 0 0, .slice none 0 0], []⟩ 40 (by kernel_rfl) (by kernel_rfl) (by kernel_rfl) (by kernel_rfl)) ?_
  intro W base args ds gs before hval0 hW hcnd _
  clear hcnd
  have hval : ∀ (j : Nat) t v, Try.f7.params[j]? = some t → args[j]? = some v → Value.okWide Try.prog W .any base t v := hval0
  clear hval0
  have hW' := hW
  obtain ⟨p, q, hA0, hV, rfl, hfz, hnd⟩ := hW
  have hA : DataW.TrodAll enc Try.prog W 0 (fun _ => true) true Try.f7.params.toList args.toList ds p := hA0
  rw [Try.params7] at hA hval
  clear hA0
  obtain ⟨rfl, rfl⟩ := trodVars_none hV
  simp only [List.append_nil] at hW'
  obtain ⟨v0, vs0, d0, ds0, p0, q0, hargs, rfl, rfl, h0, r0⟩ := trodAll_cons hA
  obtain ⟨v1, vs1, d1, ds1, p1, q1, rfl, rfl, rfl, h1, r1⟩ := trodAll_cons r0
  obtain ⟨rfl, rfl, rfl⟩ := trodAll_nil r1
  obtain rfl : args = #[v0, v1] := by cases args; simp_all
  obtain ⟨xs, hxs, hwf⟩ := open_u64s (hval 0 24 v0 rfl rfl) h0
  obtain ⟨l, hl, hlw⟩ := open_ops (hval 1 44 v1 rfl rfl) h1
  refine (law_plays0 _ _ rfl rfl hxs hwf hl hlw).mono fun e W' ⟨he, hB⟩ => ?_
  subst he
  exact ⟨_, rfl, post_law Try.laidOut (readable_all (by kernel_rfl)) rfl Try.underlying4 rfl rfl hW' hB⟩

theorem over : Rows.txPlaysRow.holds Try.pinned (OpenSpec.ofChange Rows.txPlaysSpec) :=
  OpenClaim.holds_of_wide 7 Try.f7 rfl rfl rfl rfl rfl rfl rfl ⟨rfl, rfl, rfl, rfl, rfl⟩ rfl rfl rfl rfl rfl (by kernel_rfl) Try.func7 (by kernel_rfl)
    (of_decide_eq_true (by kernel_rfl)) (by unfold Func.isWrapper; first | (rw [if_pos (by decide +kernel)]; kernel_rfl) | (rw [if_neg (by decide +kernel)]; exact ⟨rfl, rfl⟩))
    (fun os started H enc _ => lifted os started H enc)

theorem proved : Rows.TxPlaysSaid := over
end Go.Proofs.Ytcbcemeagiociaa.txPlays
