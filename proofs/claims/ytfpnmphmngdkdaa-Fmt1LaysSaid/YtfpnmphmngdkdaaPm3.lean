/-
  A memory that may last: a word stored: a contract. No condition but the bounds that are typed.
-/
import Derived.Test.YtfpnmphmngdkdaaPm2
namespace Go.Proofs.Ytfpnmphmngdkdaa
open Go.ChangeShapes Go.WideShapes Go.ChangeAt Go.RowKit
set_option linter.unusedSimpArgs false
set_option linter.unusedVariables false

theorem updO_same (f : Nat → Option Int) (n : Nat) (x : Option Int) (h : f n = x) : updO f n x = f := by
  funext k
  unfold updO
  split
  · rename_i e; rw [e, h]
  · rfl

theorem Pm.Ok.setOld {S : Pm} (h : S.Ok) (n : Nat) (hn : n < S.n) (x : Int) (h0 : 0 ≤ x) (h1 : x < 18446744073709551616) : ({ S with old := updO S.old n (some x) } : Pm).Ok := by
  refine ⟨h.n, h.now, fun k y hy => ?_, h.fl, h.fuse⟩
  simp only [updO] at hy
  split at hy
  · rename_i e; subst e; cases hy; exact ⟨hn, h0, h1⟩
  · exact h.old k y hy

theorem Pm.Ok.delOld {S : Pm} (h : S.Ok) (n : Nat) : ({ S with old := updO S.old n none } : Pm).Ok := by
  refine ⟨h.n, h.now, fun k y hy => ?_, h.fl, h.fuse⟩
  simp only [updO] at hy
  split at hy
  · cases hy
  · exact h.old k y hy

theorem Pm.Ok.delFl {S : Pm} (h : S.Ok) (n : Nat) : ({ S with fl := updO S.fl n none } : Pm).Ok := by
  refine ⟨h.n, h.now, h.old, fun k y hy => ?_, h.fuse⟩
  simp only [updO] at hy
  split at hy
  · cases hy
  · exact h.fl k y hy

theorem updO_twice (f : Nat → Option Int) (n : Nat) (x y : Option Int) : updO (updO f n x) n y = updO f n y := by
  funext k
  unfold updO
  split <;> simp_all

theorem Mod.step {D E : Nat → Prop} {a b c : World} (h : Mod D a b) (k : Mod E b c) (he : ∀ x, E x → D x) : Mod D a c :=
  h.trans (k.mono (fun b _ hb => .inl (he b hb)))

def StoreMid (w : World) (p n : Nat) (D : Nat → Prop) (S : Pm) (lv : Value) (wc : World) : Prop :=
  ∃ (l : Int) (v : Value) (ob fb : Nat), lv = .int .u64 l ∧ Hid (l = S.last n) ∧ Hid (PmR wc p D { S with old := updO S.old n (some (S.last n)) } v ob fb) ∧ Hid (Mod D w wc)

set_option maxRecDepth 20000 in
set_option maxHeartbeats 1000000 in
theorem pm_store {w : World} {p : Nat} {D : Nat → Prop} {S : Pm} (h : PmAt w p D S) (hd : S.deeds < 4611686018427387904) (i x : Int) (hx0 : 0 ≤ x) (hx1 : x < 18446744073709551616) :
    Calls Try.prog 45 #[.pointer (some ⟨p, 0, none⟩), .int .i64 i, .int .u64 x] w fun e w' => e = .returned (.int .i64 (S.may i)) ∧ PmAt w' p D (S.store i x) ∧ Mod D w w' := by
  have HM := Lib.hid (pm_may h i)
  have HL := Lib.hid h
  have hl : S.store i x = if S.may i = 0 then (S.put i.toNat x).deed else S := rfl
  by_cases hm : S.may i = 0
  · obtain ⟨h0, h1, -⟩ := Pm.may_ok hm
    obtain ⟨n, rfl⟩ := Int.eq_ofNat_of_zero_le h0
    have hn : n < S.n := by omega
    have hN := h.ok.n
    rw [if_pos hm] at hl
    rw [hm] at HM ⊢
    have HLL := Lib.hid hl
    obtain ⟨v, ob, fb, h⟩ := h
    obtain ⟨g, cap, rfl, -, -, hgs, hc⟩ := h.now.pos (by omega)
    obtain ⟨c0, c1, -, -, -, -⟩ := h.cells
    have d1 := (hc n hn).1
    have HR := Lib.hid h
    have hwd := h.ok.now n
    clear h hl hc hm
    go_enter Try.func45, Try.ntmps45
    go_upto_if 26 with (first | (go_at_call 106; refine HM.out.mono ?_; rintro e w' ⟨rfl, rfl⟩) | (at_lookup; refine wp_lookR rfl _ _ rfl ob S.n S.old rfl HR.out.old n hn hN rfl ?_))
    have hlast : S.last n = (S.old n).getD (S.now n) := rfl
    have HLAST := Lib.hid hlast
    have hlok := HR.out.ok.last n
    clear hlast
    go_cut [8, 9] (fun lv _ wc => StoreMid w p n D S lv wc)
    case first =>
      cases ho : S.old n with
      | none =>
        have HO := Lib.hid ho
        clear ho
        generalize hy : S.now n = y at d1 hwd HLAST
        have HY := Lib.hid hy
        clear hy
        go_wp2_with (at_mapUpdate; refine wp_putR rfl _ _ _ rfl ob S.n S.old rfl HR.out.old n hn hN rfl y hwd.1 hwd.2 rfl ?_; intro w1 hm1 hg1)
        go_meet
        case rel =>
          have hly : S.last n = y := by rw [HLAST.out, HO.out]; rfl
          exact ⟨y, _, ob, fb, rfl, hly.symm, by rw [hly]; exact HR.out.setOld hg1 hm1 (HR.out.ok.setOld n hn y hwd.1 hwd.2), (mod_of_grown hg1).mono (fun b _ hb => by cases hb; exact HR.out.dob)⟩
      | some z =>
        have HO := Lib.hid ho
        clear ho
        go_wp2_with fail
        go_meet
        case rel =>
          have hly : S.last n = z := by rw [HLAST.out, HO.out]; rfl
          have he : updO S.old n (some z) = S.old := updO_same _ _ _ HO.out
          exact ⟨z, _, ob, fb, rfl, hly.symm, by rw [hly, he]; exact HR.out, Mod.refl _ _⟩
    case rest =>
      clear HR c0 c1 d1 hgs
      obtain ⟨l, v2, ob2, fb2, rfl, hll, HRC, HMC⟩ := hcut
      rw [← hll.out] at hlok
      obtain ⟨g2, cap2, rfl, -, -, hgs, hc⟩ := HRC.out.now.pos (show 0 < S.n by omega)
      obtain ⟨c0, c1, c2, -, -, -⟩ := HRC.out.cells
      have d1 := (hc n hn).1
      have f1 := (hc n hn).2
      have hgp : ¬ g2 = p := (HRC.out.vb g2 rfl).1
      have hpg : ¬ p = g2 := fun e => hgp e.symm
      have HRD := Lib.hid (HRC.out.setNow n x hx0 hx1)
      simp only at c0 c1 c2 d1
      clear hc
      have hfin : Hid (∀ T : Pm, T = { S with now := upd S.now n x, old := updO S.old n (if l = x then none else some l), fl := updO S.fl n none } → T.deed = S.store (n : Int) x) := by
        intro T hT
        rw [HLL.out, hT, hll.out]
        rfl
      have armF : True := trivial
      by_cases hlx : l = x
      · have hbq : (l == x) = true := by simpa using hlx
        have HLX := Lib.hid hlx
        clear hlx
        go_wp2_with (first
          | (at_delete; refine wp_delR rfl (.tmp 50) (.tmp 51) rfl fb2 S.n S.fl rfl HRD.out.fl n hn hN rfl ?_; intro w3 hm3 hg3; have HR3 := Lib.hid (HRD.out.setFl hg3 hm3 (HRD.out.ok.delFl n)); have e1 := HR3.out.cells.2.1; have HM3 := Lib.hid (mod_of_grown hg3); clear hm3 hg3)
          | (at_delete; refine wp_delR rfl (.tmp 58) (.tmp 59) rfl ob2 S.n _ rfl HR3.out.old n hn hN rfl ?_; intro w4 hm4 hg4; have HR4 := Lib.hid (HR3.out.setOld hg4 hm4 (HR3.out.ok.delOld n)); have HM4 := Lib.hid (mod_of_grown hg4); clear hm4 hg4)
          | (go_at_call 107; refine (pm_deed ⟨_, _, _, HR4.out⟩ hd).mono ?_; rintro e w5 ⟨rfl, h5, m5, -⟩))
        go_ret
        refine ⟨rfl, ?_, (((HMC.out.setCell (a := ⟨g2, n, none⟩) (.inl (HRC.out.dv g2 rfl)) _).step HM3.out (fun b hb => by cases hb; exact HRC.out.dfb)).step HM4.out (fun b hb => by cases hb; exact HRC.out.dob)).step m5 (fun _ h => h)⟩
        have e := hfin.out _ rfl
        rw [if_pos HLX.out] at e
        rw [← e]
        simp only [updO_twice] at h5
        exact h5
      · have hbq : (l == x) = false := by simpa using hlx
        have HLX := Lib.hid hlx
        clear hlx
        go_wp2_with (first
          | (at_delete; refine wp_delR rfl (.tmp 50) (.tmp 51) rfl fb2 S.n S.fl rfl HRD.out.fl n hn hN rfl ?_; intro w3 hm3 hg3; have HR3 := Lib.hid (HRD.out.setFl hg3 hm3 (HRD.out.ok.delFl n)); have e1 := HR3.out.cells.2.1; have HM3 := Lib.hid (mod_of_grown hg3); clear hm3 hg3)
          | (go_at_call 107; refine (pm_deed ⟨_, _, _, HR3.out⟩ hd).mono ?_; rintro e w5 ⟨rfl, h5, m5, -⟩))
        go_ret
        refine ⟨rfl, ?_, ((HMC.out.setCell (a := ⟨g2, n, none⟩) (.inl (HRC.out.dv g2 rfl)) _).step HM3.out (fun b hb => by cases hb; exact HRC.out.dfb)).step m5 (fun _ h => h)⟩
        have e := hfin.out _ rfl
        rw [if_neg HLX.out] at e
        rw [← e]
        rw [← hll.out] at h5
        exact h5
  · have hne : ((S.may i) != 0) = true := by simpa using hm
    rw [if_neg hm] at hl
    have HLL := Lib.hid hl
    generalize S.may i = m at HM hne ⊢
    clear h hl hm
    go_enter Try.func45, Try.ntmps45
    go_wp2_with (go_at_call 106; refine HM.out.mono ?_; rintro e w' ⟨rfl, rfl⟩)
    go_ret
    rw [HLL.out]
    exact ⟨rfl, HL.out, Mod.refl _ _⟩
end Go.Proofs.Ytfpnmphmngdkdaa
