/-
  The document's memory (imagoref01): a crash: a contract. No condition but the bounds that are typed.
-/
import Derived.Test.YtfpnmphmngdkdaaRm1
import Derived.Test.YtfpnmphmngdkdaaBytes
namespace Go.Proofs.Ytfpnmphmngdkdaa
open Go.ChangeShapes Go.WideShapes Go.ChangeAt Go.RowKit
set_option linter.unusedSimpArgs false
set_option linter.unusedVariables false

theorem upd_eq {f : Nat → Int} {i : Nat} {x : Int} (h : f i = x) : upd f i x = f := by
  funext k
  unfold upd
  split
  · rename_i e; rw [e, h]
  · rfl

theorem Rm.crashTo_zero (R : Rm) (keep : List Nat) : R.crashTo keep 0 = R := by
  unfold Rm.crashTo
  simp

theorem upto_succ {α : Type} (f g : Nat → α) (i : Nat) : (fun j => if j < i + 1 then f j else g j) = fun k => if k = i then f i else (fun j => if j < i then f j else g j) k := by
  funext k
  by_cases e : k = i
  · subst e
    simp
  · by_cases h : k < i
    · simp [e, h, show k < i + 1 by omega]
    · simp [e, h, show ¬ k < i + 1 by omega]

theorem Rm.crashTo_succ (R : Rm) (keep : List Nat) (i : Nat) :
    R.crashTo keep (i + 1) = { R.crashTo keep i with now := upd (R.crashTo keep i).now i (R.left keep i), last := upd (R.crashTo keep i).last i (R.left keep i), fl := updB (R.crashTo keep i).fl i false } := by
  unfold Rm.crashTo
  simp only [upto_succ]
  rfl

theorem Rm.crashTo_at (R : Rm) (keep : List Nat) (i : Nat) : (R.crashTo keep i).now i = R.now i ∧ (R.crashTo keep i).last i = R.last i := by
  unfold Rm.crashTo
  simp

set_option maxRecDepth 20000 in
set_option maxHeartbeats 1000000 in
theorem rm_crash {w : World} {q : Nat} {D : Nat → Prop} {R : Rm} (h : RmAt w q D R) {kv : Value} {keep : List Nat} (hk : HoldsB w kv keep) (hkd : keep ≠ [] → ∀ g, kv.ownBlock = some g → ¬ D g) :
    Calls Try.prog 110 #[.pointer (some ⟨q, 0, none⟩), kv] w fun e w' => e = .returned (.tuple #[]) ∧ RmAt w' q D (R.crash keep) ∧ Mod D w w' := by
  obtain ⟨nv, lv, fv, h⟩ := h
  obtain ⟨m, hm⟩ : ∃ m, m = R.n := ⟨_, rfl⟩
  obtain ⟨mk, hmk⟩ : ∃ mk, mk = keep.length := ⟨_, rfl⟩
  have HK := Lib.hid hk
  have HKD := Lib.hid hkd
  obtain ⟨ka, kc, rfl, hk1, hk2, -⟩ := hk
  rw [← hmk] at hk1 HK HKD ⊢
  have HMK := Lib.hid hmk
  obtain ⟨ao, cap, e1, k1, k2⟩ := h.now.shape
  subst e1
  have H := Lib.hid h
  obtain ⟨c0, -, -, -, -⟩ := h.cells
  have hn := h.hn
  rw [← hm] at c0 hn
  have HM := Lib.hid hm
  have hdq := h.dq
  clear h k1 k2 hm hmk hkd
  go_enter Try.func110, Try.ntmps110
  go_wp2_with fail
  go_loopg [4, 5] m (fun gk cv iv wr => ∃ i : Nat, i + gk = m ∧ iv = .int .i64 i ∧ cv = .int .i64 (cnt R.dirt i : Nat) ∧ Hid (RmR wr q D (R.crashTo keep i) (.slice ao R.n cap) lv fv) ∧ Hid (Mod D w wr))
  case atStart => exact ⟨0, by omega, rfl, rfl, by rw [Rm.crashTo_zero]; exact H.out, Mod.refl _ _⟩
  case round =>
    obtain ⟨i, hi, rfl, rfl, HR, HMO⟩ := hrel
    obtain ⟨d0, d1, d2, d3, d4⟩ := HR.out.cells
    have hcl := cnt_le R.dirt i
    rw [← HM.out] at d0
    clear c0
    by_cases hlt : i < m
    · have hli : (i : Int) < (m : Int) := by omega
      have hi0 : (0 : Int) ≤ (i : Int) := Int.natCast_nonneg _
      have hCn : (R.crashTo keep i).n = m := HM.out.symm
      obtain ⟨g, cap', e1, k1, k2, -, hc⟩ := HR.out.now.pos (by rw [hCn]; omega)
      simp only [Value.slice.injEq] at e1
      obtain ⟨rfl, -, rfl⟩ := e1
      obtain ⟨gl, capl, rfl, k3, k4, -, hc2⟩ := HR.out.last.pos (by rw [hCn]; omega)
      obtain ⟨gf, capf, rfl, k5, k6, -, hc3⟩ := HR.out.fl.shape
      rw [hCn] at d1 d2 hc hc2 hc3
      obtain ⟨a1, f1⟩ := hc i hlt
      obtain ⟨a2, f2⟩ := hc2 i hlt
      obtain ⟨a3, f3⟩ := hc3 i hlt
      rw [(R.crashTo_at keep i).1] at a1
      rw [(R.crashTo_at keep i).2] at a2
      have n1 : ¬ g = q := HR.out.nq g rfl
      have n1' : ¬ q = g := fun e => n1 e.symm
      have n2 : ¬ gl = q := HR.out.lq gl rfl
      have n2' : ¬ q = gl := fun e => n2 e.symm
      have n3 : ¬ gf = q := HR.out.fq gf rfl
      have n3' : ¬ q = gf := fun e => n3 e.symm
      have n4 : ¬ gl = g := fun e => HR.out.nl g rfl (by rw [e]; rfl)
      have n4' : ¬ g = gl := fun e => n4 e.symm
      have n5 : ¬ gf = g := fun e => HR.out.nf g rfl (by rw [e]; rfl)
      have n5' : ¬ g = gf := fun e => n5 e.symm
      have n6 : ¬ gf = gl := fun e => HR.out.lf gl rfl (by rw [e]; rfl)
      have n6' : ¬ gl = gf := fun e => n6 e.symm
      have hgd := HR.out.dn g rfl
      have hld := HR.out.dl gl rfl
      have hfd := HR.out.df gf rfl
      have HSU := Lib.hid (R.crashTo_succ keep i)
      have hcs : cnt R.dirt (i + 1) = cnt R.dirt i + if R.now i = R.last i then 0 else 1 := by
        simp only [cnt, Rm.dirt]
        by_cases e : R.now i = R.last i <;> simp [e]
      have HCS := Lib.hid hcs
      have hle : R.left keep i = if R.now i ≠ R.last i ∧ back keep (cnt R.dirt i) = false then R.now i else R.last i := rfl
      have HLE := Lib.hid hle
      have HNW := Lib.hid (R.crashTo_at keep i).1
      have HLW := Lib.hid (R.crashTo_at keep i).2
      have hxw : 0 ≤ R.now i ∧ R.now i < 18446744073709551616 := by have := HR.out.ok.now i; rw [(R.crashTo_at keep i).1] at this; exact this
      have hyw : 0 ≤ R.last i ∧ R.last i < 18446744073709551616 := by have := HR.out.ok.last i; rw [(R.crashTo_at keep i).2] at this; exact this
      have HXW := Lib.hid hxw
      have HYW := Lib.hid hyw
      obtain ⟨x, hx⟩ : ∃ x, x = R.now i := ⟨_, rfl⟩
      obtain ⟨y, hy⟩ : ∃ y, y = R.last i := ⟨_, rfl⟩
      obtain ⟨c, hcc⟩ : ∃ c, c = cnt R.dirt i := ⟨_, rfl⟩
      rw [← hx, ← hy, ← hcc] at HCS HLE
      rw [← hx] at a1 HNW HXW
      rw [← hy] at a2 HLW HYW
      rw [← hcc] at hcl ⊢
      clear hc hc2 hc3 hcs k1 k2 k3 k4 k5 k6 hx hy hcc hCn hle d3 d4 hxw hyw
      have hgo : ∀ z, z = R.left keep i → ∀ wd, RmR wd q D { R.crashTo keep i with now := upd (R.crashTo keep i).now i z, last := upd (R.crashTo keep i).last i z, fl := updB (R.crashTo keep i).fl i false } (.slice (some ⟨g, 0, none⟩) R.n cap) (.slice (some ⟨gl, 0, none⟩) (R.crashTo keep i).n capl) (.slice (some ⟨gf, 0, none⟩) (R.crashTo keep i).n capf) →
          RmR wd q D (R.crashTo keep (i + 1)) (.slice (some ⟨g, 0, none⟩) R.n cap) (.slice (some ⟨gl, 0, none⟩) (R.crashTo keep i).n capl) (.slice (some ⟨gf, 0, none⟩) (R.crashTo keep i).n capf) := by
        intro z hz wd h
        rw [HSU.out, ← hz]
        exact h
      have HGO := Lib.hid hgo
      clear hgo HSU
      by_cases e : x = y
      · subst e
        go_wp2_with fail
        go_region
        go_wp2_with fail
        go_region
        go_wp2_with fail
        go_roundg (gk - 1)
        case measure => omega
        case rel =>
          refine ⟨i + 1, by omega, by go_num, by rw [HCS.out]; simp, HGO.out x (by rw [HLE.out]; simp) _ ?_, ?_⟩
          · have h1 := ((HR.out.mod (D0 := nob) ((Mod.refl nob wr).drew.drew) (fun _ _ h => h)).setNow i x HXW.out.1 HXW.out.2).setFl i false
            rw [upd_eq (f := (R.crashTo keep i).last) HLW.out]
            exact h1
          · exact ((HMO.out.drew.drew).setCell (a := ⟨g, i, none⟩) (.inl hgd) _).setCell (a := ⟨gf, i, none⟩) (.inl hfd) _
      · have hne : (x != y) = true := by simpa using e
        have HE := Lib.hid e
        clear e
        rcases (show mk = 0 ∨ 0 < mk by omega) with hm0 | hm0
        · subst hm0
          have hb : Hid (back keep c = true) := by
            unfold Hid back
            rw [← HMK.out]
            rfl
          go_wp2_with fail
          go_region
          go_wp2_with fail
          go_region
          go_wp2_with fail
          go_roundg (gk - 1)
          case measure => omega
          case rel =>
            refine ⟨i + 1, by omega, by go_num, by rw [HCS.out, if_neg HE.out]; go_num, HGO.out y (by rw [HLE.out, if_neg (fun h => by rw [hb.out] at h; cases h.2)]) _ ?_, ?_⟩
            · have h1 := ((HR.out.mod (D0 := nob) ((Mod.refl nob wr).drew.drew) (fun _ _ h => h)).setNow i y HYW.out.1 HYW.out.2).setFl i false
              rw [upd_eq (f := (R.crashTo keep i).last) HLW.out]
              exact h1
            · exact ((HMO.out.drew.drew).setCell (a := ⟨g, i, none⟩) (.inl hgd) _).setCell (a := ⟨gf, i, none⟩) (.inl hfd) _
        · have hmod : ((c : Int) % (mk : Int)) = ((c % mk : Nat) : Int) := rfl
          obtain ⟨z, hz⟩ : ∃ z, z = c % mk := ⟨_, rfl⟩
          have hzm : z < mk := by rw [hz]; exact Nat.mod_lt _ hm0
          rw [← hz] at hmod
          obtain ⟨ka', kc', e1, -, -, hcell⟩ := HK.out
          simp only [Value.slice.injEq] at e1
          obtain ⟨rfl, -, rfl⟩ := e1
          obtain ⟨⟨gk2, ok2, rfl, hkc⟩, hc256⟩ := hcell z (by rw [← HMK.out]; exact hzm)
          obtain ⟨b, hbq⟩ : ∃ b, b = keep.getD z 0 := ⟨_, rfl⟩
          rw [← hbq] at hkc hc256
          have hkd2 : ¬ D gk2 := HKD.out (fun e => by have := HMK.out; rw [e] at this; simp at this; omega) gk2 rfl
          have hkc3 := HMO.out.cell hkc hkd2
          have hback : back keep c = (b % 2 == 0) := by
            unfold back
            rw [← HMK.out, ← hz, ← hbq]
            have : (mk == 0) = false := by simp; omega
            rw [this]
            rfl
          have HBACK := Lib.hid hback
          have hm0' : (0 : Int) < (mk : Int) := by omega
          have hz0 : (0 : Int) ≤ (z : Int) := Int.natCast_nonneg _
          have hz1 : (z : Int) < (mk : Int) := by omega
          clear hcell hback hbq hkc hz
          by_cases hev : b % 2 = 0
          · have hevi : ((b : Int) % 2 == 1) = false := by simp; omega
            have hb : Hid (back keep c = true) := by
              unfold Hid
              rw [HBACK.out]
              simp [hev]
            clear hev
            go_wp2_with fail
            go_region
            go_wp2_with fail
            go_region
            go_wp2_with fail
            go_roundg (gk - 1)
            case measure => omega
            case rel =>
              refine ⟨i + 1, by omega, by go_num, by rw [HCS.out, if_neg HE.out]; go_num, HGO.out y (by rw [HLE.out, if_neg (fun h => by rw [hb.out] at h; cases h.2)]) _ ?_, ?_⟩
              · have h1 := ((HR.out.mod (D0 := nob) ((Mod.refl nob wr).drew.drew) (fun _ _ h => h)).setNow i y HYW.out.1 HYW.out.2).setFl i false
                rw [upd_eq (f := (R.crashTo keep i).last) HLW.out]
                exact h1
              · exact ((HMO.out.drew.drew).setCell (a := ⟨g, i, none⟩) (.inl hgd) _).setCell (a := ⟨gf, i, none⟩) (.inl hfd) _
          · have hevi : ((b : Int) % 2 == 1) = true := by simp; omega
            have hb : Hid (back keep c = false) := by
              unfold Hid
              rw [HBACK.out]
              simp [hev]
            clear hev
            go_wp2_with fail
            go_region
            go_wp2_with fail
            go_region
            go_wp2_with fail
            go_region
            go_wp2_with fail
            go_roundg (gk - 1)
            case measure => omega
            case rel =>
              refine ⟨i + 1, by omega, by go_num, by rw [HCS.out, if_neg HE.out]; go_num, HGO.out x (by rw [HLE.out, if_pos ⟨HE.out, hb.out⟩]) _ ?_, ?_⟩
              · exact (((HR.out.mod (D0 := nob) ((Mod.refl nob wr).drew.drew.drew) (fun _ _ h => h)).setLast i x HXW.out.1 HXW.out.2).setNow i x HXW.out.1 HXW.out.2).setFl i false
              · exact (((HMO.out.drew.drew.drew).setCell (a := ⟨gl, i, none⟩) (.inl hld) _).setCell (a := ⟨g, i, none⟩) (.inl hgd) _).setCell (a := ⟨gf, i, none⟩) (.inl hfd) _
    · have hge : ¬ (i : Int) < (m : Int) := by omega
      obtain rfl : i = m := by omega
      have f4 := HR.out.frozen 4
      go_wp2_with fail
      go_end0
      have hm2 : Mod (fun b => b = q) wr (wr.setCell ⟨q, 4, none⟩ (.int .i64 (-1))) := (Mod.refl (fun b => b = q) wr).setCell (a := ⟨q, 4, none⟩) (.inl rfl) _
      refine ⟨rfl, ⟨_, _, _, HR.out.setHead (R' := R.crash keep) hm2 ?_ rfl ?_ ?_ ?_ ⟨Int.le_refl _, by show (-1 : Int) ≤ _; omega⟩⟩, HMO.out.setCell (a := ⟨q, 4, none⟩) (.inl hdq) _⟩
      · rw [heap_setCell_same wr q 4 _ _ _ HR.out.head]
        rfl
      · rw [HM.out]; rfl
      · rw [HM.out]; rfl
      · rw [HM.out]; rfl
end Go.Proofs.Ytfpnmphmngdkdaa
