/-
  imagoref10.Count: a contract. No condition but the bounds that are typed.
  imagoref10.Links: a contract. No condition but the bounds that are typed.
  imagolaw10.Made: a contract. No condition but the inodes' being read.
-/
import Derived.Test.YtlopdbhjdijlmaaQBelGot
import Derived.Test.YtlopdbhjdijlmaaQRefBel9
import Derived.Test.YtlopdbhjdijlmaaQTabL
import Derived.Test.YtlopdbhjdijlmaaQOpenSt
import Derived.Test.YtlopdbhjdijlmaaQFew6

namespace Go.Proofs.Ytlopdbhjdijlmaa
open Go.ChangeShapes Go.WideShapes Go.ChangeAt Go.RowKit
set_option linter.unusedSimpArgs false
set_option linter.unusedVariables false

set_option maxRecDepth 20000 in
set_option maxHeartbeats 4000000 in
theorem ref_count10 {w : World} {t : Nat → Ino} {ev : Nat → Value} (hl : Len13 t) (he : HoldsT w t ev) (hn : ∀ k, k < 32 → (t k).ents.length ≤ 24) (i : Nat) :
    Calls Try.prog 41 #[.agg (tabL t ev).toArray, .int .i64 (i : Nat)] w fun e w' => e = .returned (.int .i64 (cntT t i 32 : Nat)) ∧ Below w.heap.size w w' := by
  have hb := TabB.new hl (ev := ev) w
  have HBEL : Hid (Below w.heap.size w (w.alloc (.cells (tabL t ev).toArray 44))) := (Below.refl _ _).alloc (Nat.le_refl _) _
  have HM0 : Hid (Mod nob w (w.alloc (.cells (tabL t ev).toArray 44))) := (Mod.refl nob w).alloc _
  have HT := Lib.hid hb
  have HE := Lib.hid (he.still HM0.out)
  have HNL := Lib.hid hn
  have HCT : Hid (∀ k, k ≤ 32 → cntT t i k ≤ 768) := fun k hk => by
    have := cntT_le hn i k hk
    omega
  clear hb he hl hn
  go_enter Try.func41, Try.ntmps41
  go_wp2_with fail
  generalize w.alloc (.cells (tabL t ev).toArray 44) = w0 at *
  obtain ⟨X, hX⟩ : ∃ X, X = w.heap.size := ⟨_, rfl⟩
  rw [← hX] at HT ⊢
  clear hX HM0
  go_loopg [5, 6] 32 (fun gk nv iv wr => ∃ k : Nat, k + gk = 32 ∧ iv = .int .i64 (k : Nat) ∧ nv = .int .i64 (cntT t i k : Nat) ∧ w0 = wr)
  case atStart => exact ⟨0, by omega, rfl, rfl, rfl⟩
  case round =>
    obtain ⟨k, hk, rfl, rfl, rfl⟩ := hrel
    by_cases hlt : k < 32
    · have hki : (k : Int) < 32 := by omega
      have hk0 : (0 : Int) ≤ (k : Int) := Int.natCast_nonneg _
      have ec := HT.out.evc k hlt
      obtain ⟨ao, c, hev, hc1, hc2, -, hcells⟩ := HE.out k hlt
      rw [hev] at ec
      have hul := HCT.out k (by omega)
      obtain ⟨L, hL⟩ : ∃ L, L = (t k).ents.length := ⟨_, rfl⟩
      have hL24 : L ≤ 24 := by rw [hL]; exact HNL.out k hlt
      have hnx : cntT t i (k + 1) = cntT t i k + cntL (t k).ents i L := by rw [hL]; rfl
      obtain ⟨u, hu⟩ : ∃ u, u = cntT t i k := ⟨_, rfl⟩
      rw [← hu] at hnx hul ⊢
      rw [← hL] at ec hcells
      have HCE : Hid (∀ j, j < L → ∃ g o, ao = some ⟨g, o, none⟩ ∧ w0.cell? ⟨g, o + j * 2 + 1, none⟩ = some (.int .i64 ((t k).ents.getD j default).ino)) := fun j hj => by
        obtain ⟨g, o, h1, -, h3⟩ := hcells j hj
        exact ⟨g, o, h1, h3⟩
      have HNX := Lib.hid hnx
      unfold maxLen at hc2
      rw [← hL] at hc1
      obtain ⟨es, hes⟩ : ∃ es, es = (t k).ents := ⟨_, rfl⟩
      rw [← hes] at HCE HNX
      have HCL : Hid (∀ j, cntL es i j ≤ j) := fun j => cntL_le es i j
      clear hu hnx hev hcells hL hes
      go_wp2_with fail
      go_loopg [5, 7] L (fun gk nv jv wr => ∃ j : Nat, j + gk = L ∧ jv = .int .i64 (j : Nat) ∧ nv = .int .i64 ((u + cntL es i j : Nat) : Int) ∧ w0 = wr)
      case atStart => exact ⟨0, by omega, rfl, rfl, rfl⟩
      case round =>
        obtain ⟨j, hj, rfl, rfl, rfl⟩ := hrel
        have hcl := HCL.out j
        have hst : cntL es i (j + 1) = cntL es i j + if (es.getD j default).ino = (i : Int) then 1 else 0 := rfl
        obtain ⟨q, hq⟩ : ∃ q, q = u + cntL es i j := ⟨_, rfl⟩
        have hq2 : q ≤ 800 := by omega
        have hst2 : u + cntL es i (j + 1) = q + if (es.getD j default).ino = (i : Int) then 1 else 0 := by rw [hst, hq]; omega
        have HST := Lib.hid hst2
        have HQ := Lib.hid hq
        rw [← hq]
        clear hst hst2 hq hcl
        by_cases hltj : j < L
        · have hji : (j : Int) < (L : Int) := by omega
          obtain ⟨g1, o1, rfl, e1⟩ := HCE.out j hltj
          obtain ⟨x, hx⟩ : ∃ x, x = (es.getD j default).ino := ⟨_, rfl⟩
          rw [← hx] at e1
          have HST2 : Hid (u + cntL es i (j + 1) = q + if x = (i : Int) then 1 else 0) := by rw [hx]; exact HST.out
          clear hx HST
          by_cases hxi : x = (i : Int)
          · have HN : Hid (q + 1 = u + cntL es i (j + 1)) := by unfold Hid; rw [HST2.out, if_pos hxi]
            have hb : (x == (i : Int)) = true := by simpa using hxi
            clear HST2
            go_wp2_with fail
            go_roundg (gk - 1)
            case measure => omega
            case rel => exact ⟨j + 1, by omega, by go_num, by rw [← HN.out]; go_num, rfl⟩
          · have HN : Hid (q = u + cntL es i (j + 1)) := by unfold Hid; rw [HST2.out, if_neg hxi]; rfl
            have hb : (x == (i : Int)) = false := by simpa using hxi
            clear HST2
            go_wp2_with fail
            go_roundg (gk - 1)
            case measure => omega
            case rel => exact ⟨j + 1, by omega, by go_num, by rw [← HN.out], rfl⟩
        · obtain rfl : j = L := by omega
          have hji : ¬ (j : Int) < (j : Int) := by omega
          go_wp2_with fail
          go_roundg (32 - k - 1)
          case measure => omega
          case rel => exact ⟨k + 1, by omega, by go_num, by rw [HNX.out, HQ.out], rfl⟩
    · have hge : ¬ (k : Int) < 32 := by omega
      obtain rfl : k = 32 := by omega
      go_wp2_with fail
      go_ret
      exact ⟨rfl, HBEL.out⟩
end Go.Proofs.Ytlopdbhjdijlmaa

namespace Go.Proofs.Ytlopdbhjdijlmaa
open Go.ChangeShapes Go.WideShapes Go.ChangeAt Go.RowKit
set_option linter.unusedSimpArgs false
set_option linter.unusedVariables false

theorem TabB.setLinks {w : World} {B : Nat} {f : Nat → Ino} {ev : Nat → Value} (h : TabB w B f ev) (i : Nat) (hi : i < 32) (x : Int) : TabB (w.setCell ⟨B, i * 18 + 2, none⟩ (.int .i64 x)) B (setT f i { f i with links := x }) ev := by
  obtain ⟨post, h1, h2⟩ := tabTo_split f ev i 32 hi
  have hl := tabTo_len (ev := ev) h.2 i (by omega)
  have h3 := h2 { f i with links := x } (ev i)
  have he : setT ev i (ev i) = ev := by
    funext j
    unfold setT
    split
    · rename_i e; rw [e]
    · rfl
  rw [he] at h3
  have hh := h.1
  rw [show tabL f ev = tabTo f ev i ++ (inoL (f i) (ev i) ++ post) from h1] at hh
  have hs := heap_setCell_same w B (i * 18 + 2) _ _ (.int .i64 x) hh
  have harr : (tabTo f ev i ++ (inoL (f i) (ev i) ++ post)).toArray.setIfInBounds (i * 18 + 2) (.int .i64 x) = (tabTo f ev i ++ (inoL { f i with links := x } (ev i) ++ post)).toArray := by
    rw [List.setIfInBounds_toArray, ← hl, list_set_mid]
    rfl
  rw [harr] at hs
  refine ⟨?_, fun j hj => ?_⟩
  · rw [show tabL (setT f i { f i with links := x }) ev = tabTo f ev i ++ (inoL { f i with links := x } (ev i) ++ post) from h3]
    exact hs
  · by_cases e : j = i
    · subst e; rw [setT_same]; exact h.2 j hj
    · rw [setT_ne _ _ e]; exact h.2 j hj
theorem TabB.lnk {w : World} {B : Nat} {f : Nat → Ino} {ev : Nat → Value} (h : TabB w B f ev) (i : Nat) (hi : i < 32) : w.cell? ⟨B, i * 18 + 2, none⟩ = some (.int .i64 (f i).links) := by
  have := h.range i hi 2 (.int .i64 (f i).links) rfl
  simpa using this
/-- Tables whose entries, and formats, are the same. -/
def Alike (t t' : Nat → Ino) : Prop := ∀ j, j < 32 → (t' j).Ok ∧ (t' j).ents = (t j).ents ∧ (t' j).format = (t j).format
theorem Alike.set {t t' : Nat → Ino} (h : Alike t t') {i : Nat} (hi : i < 32) {x : Int} (hx : i64 x) : Alike t (setT t' i { t' i with links := x }) := fun j hj => by
  by_cases e : j = i
  · subst e
    rw [setT_same]
    obtain ⟨⟨a, b, c, d, e, f, g⟩, h2, h3⟩ := h j hj
    exact ⟨⟨a, b, hx, d, e, f, g⟩, h2, h3⟩
  · rw [setT_ne _ _ e]
    exact h j hj
theorem cntT_alike {t t' : Nat → Ino} (h : Alike t t') (i : Nat) : ∀ k, k ≤ 32 → cntT t' i k = cntT t i k
  | 0, _ => rfl
  | k + 1, hk => by
    unfold cntT
    rw [cntT_alike h i k (by omega), (h k (by omega)).2.1]

set_option maxRecDepth 20000 in
set_option maxHeartbeats 4000000 in
theorem ref_links10 {w : World} {t : Nat → Ino} {ev : Nat → Value} (hk : ∀ j, j < 32 → (t j).Ok) (he : HoldsT w t ev) (hn : ∀ k, k < 32 → (t k).ents.length ≤ 24) :
    Calls Try.prog 66 #[.agg (tabL t ev).toArray] w fun e w' => (∃ t', e = .returned (.agg (tabL t' ev).toArray) ∧ Alike t t') ∧ Below w.heap.size w w' := by
  have hl : Len13 t := fun j hj => (hk j hj).len
  have hb := TabB.new hl (ev := ev) w
  have HB0 : Hid (TabB ((w.alloc (.cells (tabL t ev).toArray 44)).alloc (.cells Try.zeroCells44 44)) w.heap.size t ev) := hb.mod ((Mod.refl nob _).alloc _) (fun h => h)
  have HZ0 : Hid (TabB ((w.alloc (.cells (tabL t ev).toArray 44)).alloc (.cells Try.zeroCells44 44)) (w.heap.size + 1) inoT0 nilT) := by
    have := TabB.new len13_0 (ev := nilT) (w.alloc (.cells (tabL t ev).toArray 44))
    rw [show (w.alloc (.cells (tabL t ev).toArray 44)).heap.size = w.heap.size + 1 by simp] at this
    rw [zeroT_eq]
    exact this
  have HM0 : Hid (Mod nob w ((w.alloc (.cells (tabL t ev).toArray 44)).alloc (.cells Try.zeroCells44 44))) := ((Mod.refl nob w).alloc _).alloc _
  have HE := Lib.hid he
  have HNL := Lib.hid hn
  have HAK : Hid (Alike t t) := fun j hj => ⟨hk j hj, rfl, rfl⟩
  have HONE : Hid (∀ i, i < 32 → (ev i).oneCell' = true) := fun i hi => by obtain ⟨a, c, e, -⟩ := he i hi; rw [e]; rfl
  clear hb he hl hn hk
  go_enter Try.func66, Try.ntmps66
  go_upto_region 1 with (fail)
  generalize (w.alloc (.cells (tabL t ev).toArray 44)).alloc (.cells Try.zeroCells44 44) = w0 at *
  obtain ⟨X, hX⟩ : ∃ X, X = w.heap.size := ⟨_, rfl⟩
  rw [← hX] at HB0 HZ0 ⊢
  have HXX := Lib.hid hX
  clear hX
  go_wp2_with fail
  go_loopg [3] 32 (fun gk iv wr => ∃ (k : Nat) (t' : Nat → Ino), k + gk = 32 ∧ iv = .int .i64 (k : Nat) ∧ Hid (Alike t t') ∧ Hid (TabB wr X t' ev) ∧ Hid (TabB wr (X + 1) inoT0 nilT) ∧ Hid (Mod nob w wr))
  case atStart => exact ⟨0, t, by omega, rfl, HAK.out, HB0.out, HZ0.out, HM0.out⟩
  case round =>
    obtain ⟨k, t', hk, rfl, HA, HB, HZ, HM⟩ := hrel
    clear HB0 HZ0 HM0 HAK
    have HU44 := Lib.hid Try.underlying44
    have HISL : Hid ((Try.prog.info? 44).map (·.size) = some (tabL t' ev).length) := by unfold Hid; rw [tabL_len HB.out.2]; exact Try.info576
    have HRT := Lib.hid HB.out.all
    by_cases hlt : k < 32
    · have hki : (k : Int) < 32 := by omega
      have hk0 : (0 : Int) ≤ (k : Int) := Int.natCast_nonneg _
      have c0 := HB.out.fmt k hlt
      obtain ⟨fo, hfo⟩ : ∃ x, x = (t' k).format := ⟨_, rfl⟩
      rw [← hfo] at c0
      clear hfo
      by_cases h0 : 0 < fo
      · have HCN : Hid (Calls Try.prog 41 #[.agg (tabL t' ev).toArray, .int .i64 (k : Nat)] wr fun e w' => e = .returned (.int .i64 (cntT t' k 32 : Nat)) ∧ Below wr.heap.size wr w') := ref_count10 HB.out.2 (fun j hj => by rw [(HA.out j hj).2.1]; exact (HE.out j hj).mod HM.out (fun _ _ _ h => h)) (fun j hj => by rw [(HA.out j hj).2.1]; exact HNL.out j hj) k
        have hcl : cntT t' k 32 ≤ 768 := by
          have := cntT_le (t := t') (fun j hj => by rw [(HA.out j hj).2.1]; exact HNL.out j hj) k 32 (Nat.le_refl _)
          omega
        obtain ⟨c, hc⟩ : ∃ c, c = cntT t' k 32 := ⟨_, rfl⟩
        rw [← hc] at HCN hcl
        clear hc
        obtain ⟨AT, hAT⟩ : ∃ v, v = Value.agg (tabL t' ev).toArray := ⟨_, rfl⟩
        rw [← hAT] at HCN
        have HAT := Lib.hid hAT
        clear hAT
        go_wp2_with (first
          | (with_reducible refine wpList_load_mid (op := ⟨some 14, _, _, _, _, _⟩) rfl 44 _ rfl X 0 rfl (tabL t' ev) _ HRT.out HU44.out rfl HISL.out ?_; rw [← HAT.out])
          | (go_at_call 41; (with_reducible refine HCN.out.mono ?_); (rintro e w5 ⟨rfl, hb5⟩); (have HX5 : Hid (Mod nob wr w5) := mod_of_below hb5); (have HB5 : Hid (TabB w5 X t' ev) := HB.out.mod HX5.out (fun h => h)); (have c2 := HB5.out.lnk k hlt); (have f2 := HB5.out.frozen (k * 18 + 2)); (clear hb5)))
        all_goals
          go_roundg (gk - 1)
          case measure => omega
          case rel => exact ⟨k + 1, _, by omega, by go_num, HA.out.set hlt (by unfold i64; omega), HB5.out.setLinks k hlt _, (HZ.out.mod HX5.out (fun h => h)).mod ((Mod.refl (fun q => q = X) w5).setCell (a := ⟨X, k * 18 + 2, none⟩) (.inl rfl) _) (by show ¬ X + 1 = X; omega), (HM.out.step HX5.out (fun _ h => h)).setCell (.inr (by rw [HXX.out]; exact Nat.le_refl _)) _⟩
      · have hb0 : decide (0 < fo) = false := decide_eq_false h0
        go_wp2_with fail
        go_roundg (gk - 1)
        case measure => omega
        case rel => exact ⟨k + 1, t', by omega, by go_num, HA.out, HB.out, HZ.out, HM.out⟩
    · obtain rfl : k = 32 := by omega
      have hki : ¬ ((32 : Nat) : Int) < 32 := by omega
      have hs5 : (tabL t' ev).toArray.size = 576 := by rw [List.size_toArray, tabL_len HB.out.2]
      have HISZ : Hid ((Try.prog.info? 44).map (·.size) = some (tabL t' ev).toArray.size) := by unfold Hid; rw [hs5]; exact Try.info576
      have HON : Hid ((tabL t' ev).toArray.all (·.oneCell') = true) := all_oneCell_toArray (tabL_one HONE.out 32 (Nat.le_refl _))
      have HTH : Hid (wr.there (X + 1) 0 (tabL t' ev).toArray.size) := by unfold Hid; rw [hs5]; exact HZ.out.there 0 576 (by omega)
      have HTN : Hid (TabB (wr.setCells (X + 1) 0 (tabL t' ev)) (X + 1) t' ev) := HZ.out.whole HB.out.2
      have HMW : Hid (Mod nob w (wr.setCells (X + 1) 0 (tabL t' ev))) := Mod.setCells (X + 1) (.inr (by have := HXX.out; omega)) _ _ _ HM.out
      clear hs5
      go_upto_region 6 with (fail)
      go_cut [20] (fun _ wc => Hid (TabB wc (X + 1) t' ev) ∧ Hid (Mod nob w wc))
      case first =>
        go_wp2_with (first
          | (with_reducible refine wpList_load_mid (op := ⟨some 20, _, _, _, _, _⟩) rfl 44 _ rfl X 0 rfl (tabL t' ev) _ HRT.out HU44.out rfl HISL.out ?_)
          | (with_reducible refine wpList_store_mid (op := ⟨none, _, _, _, _, _⟩) rfl 44 _ _ rfl (X + 1) 0 (tabL t' ev).toArray rfl rfl HTH.out HISZ.out HON.out ?_))
        go_meet
        case rel => exact ⟨HTN.out, HMW.out⟩
      case rest =>
        obtain ⟨HTC, HMC⟩ := hcut
        have hlv := run_loadVar_mid (P := Try.prog) wc (X + 1) 0 44 _ _ HTC.out.all HU44.out rfl HISL.out
        have HLV := Lib.hid hlv
        clear hlv
        rename_i K9 hK9
        refine hK9 _ _ ?_
        refine wp_ret ?_
        refine bodyPost_ret (v := .agg (tabL t' ev).toArray) ?_ rfl ⟨⟨t', rfl, HA.out⟩, nob_mod_below HMC.out⟩
        have hlv := HLV.out
        simp [results, Try.results66, asAddr, hlv]
end Go.Proofs.Ytlopdbhjdijlmaa

namespace Go.Proofs.Ytlopdbhjdijlmaa
open Go.ChangeShapes Go.WideShapes Go.ChangeAt Go.RowKit
set_option linter.unusedSimpArgs false
set_option linter.unusedVariables false

theorem ino0_ok10 : ino0.Ok := by
  refine ⟨?_, ?_, ?_, ?_, rfl, ?_, ?_⟩
  all_goals first | (show i64 0; unfold i64; omega) | skip
  · intro x hx
    have : x = 0 := List.eq_of_mem_replicate hx
    subst this
    unfold i64; omega
  · intro x hx
    cases hx
/-- What stands while a sheet is made. -/
structure MadeS (w wr : World) (p BT : Nat) (n : Nat) (S : Sh) (t : Nat → Ino) (ev : Nat → Value) (D : Nat → Prop) : Prop where
  ok : ∀ j, j < 32 → (t j).Ok ∧ (t j).ents.length ≤ 24
  holds : HoldsT w t ev
  sheet : SheetAt wr p D S
  apart : ¬ D BT
  new : ∀ b, D b → w.heap.size ≤ b
  box : TabB wr BT t ev
  bt : w.heap.size ≤ BT
  mod : Mod nob w wr
  was : S.was.length ≤ n
theorem MadeS.len {w wr : World} {p BT n : Nat} {S : Sh} {t : Nat → Ino} {ev : Nat → Value} {D : Nat → Prop} (h : MadeS w wr p BT n S t ev D) : Len13 t := fun j hj => (h.ok j hj).1.len
theorem MadeS.still {w wr w' : World} {p BT n : Nat} {S : Sh} {t : Nat → Ino} {ev : Nat → Value} {D : Nat → Prop} (h : MadeS w wr p BT n S t ev D) (hm : Mod nob wr w') : MadeS w w' p BT n S t ev D :=
  ⟨h.ok, h.holds, h.sheet.mod hm (fun _ _ h => h), h.apart, h.new, h.box.mod hm (fun h => h), h.bt, h.mod.step hm (fun _ h => h), h.was⟩
theorem MadeS.le {w wr : World} {p BT n n' : Nat} {S : Sh} {t : Nat → Ino} {ev : Nat → Value} {D : Nat → Prop} (h : MadeS w wr p BT n S t ev D) (hn : n ≤ n') : MadeS w wr p BT n' S t ev D :=
  ⟨h.ok, h.holds, h.sheet, h.apart, h.new, h.box, h.bt, h.mod, Nat.le_trans h.was hn⟩
theorem MadeS.sh {w wr w' : World} {p BT n n' : Nat} {S S' : Sh} {t : Nat → Ino} {ev : Nat → Value} {D : Nat → Prop} (h : MadeS w wr p BT n S t ev D) (hk : ShStep wr p D w' S') (hn : S'.was.length ≤ n') : MadeS w w' p BT n' S' t ev (grow D wr w') := by
  have hlt := h.box.lt
  have hsz := h.mod.size
  refine ⟨h.ok, h.holds, hk.1, fun hd => ?_, fun b hb => ?_, h.box.mod hk.2 h.apart, h.bt, h.mod.trans (hk.2.mono (fun b hb e => .inr ⟨h.new b e, hb⟩)), hn⟩
  · rcases hd with hd | hd
    · exact h.apart hd
    · omega
  · rcases hb with hb | hb
    · exact h.new b hb
    · omega
theorem MadeS.put {w wr : World} {p BT n : Nat} {S : Sh} {t : Nat → Ino} {ev : Nat → Value} {D : Nat → Prop} (h : MadeS w wr p BT n S t ev D) {k : Nat} (hk : k < 32) {m : Ino} {v : Value} (hm : m.Ok) (hm2 : m.ents.length ≤ 24) (hv : HoldsE w v m.ents) :
    MadeS w (wr.setCells BT (k * 18) (inoL m v)) p BT n S (setT t k m) (setT ev k v) D :=
  ⟨fun j hj => by
    by_cases e : j = k
    · subst e; rw [setT_same]; exact ⟨hm, hm2⟩
    · rw [setT_ne _ _ e]; exact h.ok j hj, h.holds.set k hv, h.sheet.mod (Mod.setCells (D := fun q => q = BT) BT (.inl rfl) _ _ _ (Mod.refl _ wr)) (fun b hb e => h.apart (e ▸ hb)), h.apart, h.new, h.box.set k hk hm.len v, h.bt, Mod.setCells BT (.inr h.bt) _ _ _ h.mod, h.was⟩
theorem MadeS.whole {w wr : World} {p BT n : Nat} {S : Sh} {t t' : Nat → Ino} {ev : Nat → Value} {D : Nat → Prop} (h : MadeS w wr p BT n S t ev D) (ha : Alike t t') : MadeS w (wr.setCells BT 0 (tabL t' ev)) p BT n S t' ev D :=
  ⟨fun j hj => ⟨(ha j hj).1, by rw [(ha j hj).2.1]; exact (h.ok j hj).2⟩, fun j hj => by rw [(ha j hj).2.1]; exact h.holds j hj, h.sheet.mod (Mod.setCells (D := fun q => q = BT) BT (.inl rfl) _ _ _ (Mod.refl _ wr)) (fun b hb e => h.apart (e ▸ hb)), h.apart, h.new, h.box.whole (fun j hj => (ha j hj).1.len), h.bt, Mod.setCells BT (.inr h.bt) _ _ _ h.mod, h.was⟩
theorem TabB.blc {w : World} {B : Nat} {f : Nat → Ino} {ev : Nat → Value} (h : TabB w B f ev) (i : Nat) (hi : i < 32) (j : Nat) (hj : j < 13) : w.cell? ⟨B, i * 18 + 4 + j, none⟩ = some (.int .i64 ((f i).bl.getD j 0)) := by
  have := h.range i hi (4 + j) _ ((inoL_get (h.2 i hi) (ev i)).2.2.2.2.1 j hj)
  rw [← Nat.add_assoc] at this
  exact this
theorem MadeS.ev1 {w wr : World} {p BT n : Nat} {S : Sh} {t : Nat → Ino} {ev : Nat → Value} {D : Nat → Prop} (h : MadeS w wr p BT n S t ev D) : ∀ j, j < 32 → (ev j).oneCell' = true := fun j hj => by
  obtain ⟨a, c, e, -⟩ := h.holds j hj
  rw [e]; rfl

set_option maxRecDepth 20000 in
set_option maxHeartbeats 8000000 in
theorem made10 {w : World} {lv : Value} {l : List InV} (hl : HoldsV w lv l) (fx : Bool) :
    Calls Try.prog 35 #[lv, .bool fx] w fun e w' => ∃ (p : Nat) (D : Nat → Prop) (S : Sh), e = .returned (.pointer (some ⟨p, 0, none⟩)) ∧ SheetAt w' p D S ∧ S.was.length ≤ 200000 ∧ (∀ b, D b → w.heap.size ≤ b) ∧ Below w.heap.size w w' := by
  have HL := Lib.hid hl
  obtain ⟨ao, c, rfl, hlc, hcm, -⟩ := hl
  obtain ⟨m, hm⟩ : ∃ m, m = l.length := ⟨_, rfl⟩
  rw [← hm] at HL hlc ⊢
  have HM := Lib.hid hm
  unfold maxLen at hcm
  have HTX : Hid (∀ wx, Calls Try.prog 30 #[.slice none 0 0] wx fun e w' => ∃ p, e = .returned (.pointer (some ⟨p, 0, none⟩)) ∧ SheetAt w' p (grow nob wx w') (Sh.new []) ∧ Below wx.heap.size wx w') := fun wx => tx_new (HoldsU.nil wx) (fun z hz => by cases hz)
  clear hm
  go_enter Try.func35, Try.ntmps35
  go_upto_region 2 with (go_at_call 30; refine (HTX.out _).mono ?_; rintro e ws ⟨p, rfl, hs, hbz⟩)
  have HMS : Hid (Mod nob w ws) := mod_of_below hbz
  obtain ⟨D, hD⟩ : ∃ D, D = grow nob w ws := ⟨_, rfl⟩
  rw [← hD] at hs
  have HDN : Hid (∀ b, D b → w.heap.size ≤ b) := fun b hb => by
    rw [hD] at hb
    rcases hb with hb | hb
    · exact hb.elim
    · exact hb.1
  have HP1 := Lib.hid (sheet_put hs (show (0 : Nat) < _ by omega) 0 7596835243318849792 (by omega) (by omega))
  have HW1 : Hid (((Sh.new []).put 0 7596835243318849792).was.length ≤ 1) := Nat.le_trans (Sh.put_was_le _ _ _) (Nat.le_refl _)
  clear hs hbz hD HTX
  go_upto_region 3 with (go_at_call 31; (with_reducible refine HP1.out.mono ?_); rintro e w2 ⟨rfl, hs2, hm2⟩)
  obtain ⟨S2, hS2⟩ : ∃ S, S = (Sh.new []).put 0 7596835243318849792 := ⟨_, rfl⟩
  rw [← hS2] at hs2 HW1
  obtain ⟨D2, hD2⟩ : ∃ D2, D2 = grow D ws w2 := ⟨_, rfl⟩
  rw [← hD2] at hs2
  have hsz := HMS.out.size
  have HDN2 : Hid (∀ b, D2 b → w.heap.size ≤ b) := fun b hb => by
    rw [hD2] at hb
    rcases hb with hb | hb
    · exact HDN.out b hb
    · omega
  have HM2 : Hid (Mod nob w w2) := HMS.out.trans (hm2.mono (fun b hb e => .inr ⟨HDN.out b e, hb⟩))
  have HP2 := Lib.hid (sheet_put hs2 (by have := HW1.out; omega) 1 2 (by omega) (by omega))
  have HW2 : Hid ((S2.put 1 2).was.length ≤ 2) := Nat.le_trans (Sh.put_was_le _ _ _) (by have := HW1.out; omega)
  clear hs2 hm2 HP1 hS2 hD2 HDN HMS HW1 hsz
  go_upto_region 4 with (go_at_call 31; (with_reducible refine HP2.out.mono ?_); rintro e w3 ⟨rfl, hs3, hm3⟩)
  obtain ⟨S, hS⟩ : ∃ S, S = S2.put 1 2 := ⟨_, rfl⟩
  rw [← hS] at hs3 HW2
  obtain ⟨D3, hD3⟩ : ∃ D3, D3 = grow D2 w2 w3 := ⟨_, rfl⟩
  rw [← hD3] at hs3
  have hsz := HM2.out.size
  have HDN3 : Hid (∀ b, D3 b → w.heap.size ≤ b) := fun b hb => by
    rw [hD3] at hb
    rcases hb with hb | hb
    · exact HDN2.out b hb
    · omega
  have HM3 : Hid (Mod nob w w3) := HM2.out.trans (hm3.mono (fun b hb e => .inr ⟨HDN2.out b e, hb⟩))
  have HBT : Hid (TabB (w3.alloc (.cells Try.zeroCells44 44)) w3.heap.size inoT0 nilT) := by rw [zeroT_eq]; exact TabB.new len13_0 w3
  have HMA : Hid (Mod nob w3 (w3.alloc (.cells Try.zeroCells44 44))) := (Mod.refl nob w3).alloc _
  have HP0 : Hid (MadeS w (w3.alloc (.cells Try.zeroCells44 44)) p w3.heap.size 10 S inoT0 nilT D3) :=
    ⟨fun j hj => ⟨ino0_ok10, Nat.zero_le _⟩, fun j hj => HoldsE.nil w, hs3.mod HMA.out (fun _ _ h => h), fun h => by have := hs3.lt _ h; omega, HDN3.out, HBT.out, HM3.out.size, HM3.out.step HMA.out (fun _ h => h), by have := HW2.out; omega⟩
  clear hs3 hm3 HP2 hS hD3 HDN2 HM2 HW2 HDN3 HM3 HBT HMA hsz
  go_upto_region 5 with (fail)
  generalize w3.alloc (.cells Try.zeroCells44 44) = w4 at *
  obtain ⟨BT, hBT⟩ : ∃ B, B = w3.heap.size := ⟨_, rfl⟩
  rw [← hBT] at HP0 ⊢
  clear hBT
  go_wp2_with fail
  go_loopg [7] m (fun gk iv wr => ∃ (k : Nat), k + gk = m ∧ k ≤ 32 ∧ iv = .int .i64 (k : Nat) ∧ Hid (∃ t ev, MadeS w wr p BT 10 S t ev D3))
  case atStart => exact ⟨0, by omega, by omega, rfl, _, _, HP0.out⟩
  case round =>
    obtain ⟨k, hk, hk32, rfl, HPR⟩ := hrel
    clear HP0
    obtain ⟨t, ev, hP⟩ := HPR.out
    have HP := Lib.hid hP
    clear HPR hP
    by_cases hlt : k < m ∧ k < 32
    · obtain ⟨hkm, hk3⟩ := hlt
      have hki : (k : Int) < (m : Int) := by omega
      have hki2 : (k : Int) < 32 := by omega
      obtain ⟨ao', c', e, -, -, hc⟩ := HL.out.old HP.out.mod (fun _ h => h.elim)
      rw [← HM.out] at e
      simp only [Value.slice.injEq] at e
      obtain ⟨rfl, -, rfl⟩ := e
      obtain ⟨⟨g, o, rfl, hr⟩, hno, hev⟩ := hc k (by rw [← HM.out]; exact hkm)
      have hev0 : HoldsE w (l.getD k default).ev (l.getD k default).n.ents := by
        obtain ⟨_, _, _, -, -, hc2⟩ := HL.out
        exact (hc2 k (by rw [← HM.out]; exact hkm)).2.2
      obtain ⟨n, hn⟩ : ∃ n, n = (l.getD k default).n := ⟨_, rfl⟩
      obtain ⟨v, hv⟩ : ∃ v, v = (l.getD k default).ev := ⟨_, rfl⟩
      rw [← hn, ← hv] at hr hev hev0
      rw [← hn] at hno
      have HR := Lib.hid hr
      have HNO := Lib.hid hno
      have HEV0 := Lib.hid hev0
      have HV1 : Hid (v.oneCell' = true) := by obtain ⟨a, c, e, -⟩ := hev; unfold Hid; rw [e]; rfl
      have HSA : Hid ((Try.prog.info? 25).map (·.size) = some (inoL n v).length) := by unfold Hid; rw [inoL_len hno.len]; exact Try.info18
      have hszA : (inoL n v).toArray.size = 18 := by rw [List.size_toArray]; exact inoL_len hno.len _
      have HISZ : Hid ((Try.prog.info? 25).map (·.size) = some (inoL n v).toArray.size) := by unfold Hid; rw [hszA]; exact Try.info18
      have HONE : Hid ((inoL n v).toArray.all (·.oneCell') = true) := all_oneCell_toArray (inoL_one HV1.out)
      have HSZ := Lib.hid hszA
      have hrb := ref_right (w := wr) hno hev
      obtain ⟨b, hb⟩ : ∃ b, b = rightB n := ⟨_, rfl⟩
      rw [← hb] at hrb
      have HRB : Hid (Calls Try.prog 11 #[.agg (inoL n v).toArray] wr fun e w' => e = .returned (.bool b) ∧ Below wr.heap.size wr w') := hrb
      have HBE := Lib.hid hb
      clear hc hr hno hev hev0 hn hv hszA hrb hb
      cases b with
      | true =>
        have H24 : Hid (n.ents.length ≤ 24) := by
          have hrp := of_rightB HBE.out.symm
          rcases hrp.2.2.2 with ⟨-, hf⟩ | ⟨-, hd⟩
          · unfold Hid; rw [hf.2.2.2]; exact Nat.zero_le _
          · exact hd.2.1
        go_upto_region 9 with (first
          | (with_reducible refine wpList_load_mid (op := ⟨some 29, _, _, _, _, _⟩) rfl 25 _ rfl g (o + k * 18) rfl (inoL n v) _ HR.out Try.underlying25 rfl HSA.out ?_)
          | (go_at_call 11; (with_reducible refine HRB.out.mono ?_); (rintro e w5 ⟨rfl, hb5⟩)))
        have HX5 : Hid (Mod nob wr w5) := mod_of_below hb5
        have HP5 := Lib.hid (HP.out.still HX5.out)
        have HR5 : Hid (w5.rangeAt g (o + k * 18) (inoL n v)) := fun j u hj => HX5.out.cell (HR.out j u hj) (fun h => h)
        have HTH : Hid (w5.there BT (k * 18) (inoL n v).toArray.size) := by unfold Hid; rw [HSZ.out]; exact HP5.out.box.there (k * 18) 18 (by omega)
        have HPN := Lib.hid (HP5.out.put hk3 HNO.out H24.out HEV0.out)
        clear hb5 HP HR HX5
        go_wp2_with (first
          | (with_reducible refine wpList_load_mid (op := ⟨some 35, _, _, _, _, _⟩) rfl 25 _ rfl g (o + k * 18) rfl (inoL n v) _ HR5.out Try.underlying25 rfl HSA.out ?_)
          | (with_reducible refine wpList_store_mid (op := ⟨none, _, _, _, _, _⟩) rfl 25 _ _ rfl BT (k * 18) (inoL n v).toArray rfl rfl HTH.out HISZ.out HONE.out ?_))
        go_roundg (gk - 1)
        case measure => omega
        case rel => exact ⟨k + 1, by omega, by omega, by go_num, _, _, HPN.out⟩
      | false =>
        go_wp2_with (first
          | (with_reducible refine wpList_load_mid (op := ⟨some 29, _, _, _, _, _⟩) rfl 25 _ rfl g (o + k * 18) rfl (inoL n v) _ HR.out Try.underlying25 rfl HSA.out ?_)
          | (go_at_call 11; (with_reducible refine HRB.out.mono ?_); (rintro e w5 ⟨rfl, hb5⟩)))
        have HP5 := Lib.hid (HP.out.still (mod_of_below hb5))
        go_roundg (gk - 1)
        case measure => omega
        case rel => exact ⟨k + 1, by omega, by omega, by go_num, _, _, HP5.out⟩
    · rcases (show ¬ k < m ∨ (k < m ∧ ¬ k < 32) by omega) with h | ⟨h, h2⟩
      all_goals
        try have hki : ¬ (k : Int) < (m : Int) := by omega
        try have hkj : (k : Int) < (m : Int) := by omega
        try have hkl : ¬ (k : Int) < 32 := by omega
        go_upto_region 10 with (fail)
        have HU44 := Lib.hid Try.underlying44
        have HISL : Hid ((Try.prog.info? 44).map (·.size) = some (tabL t ev).length) := by unfold Hid; rw [tabL_len HP.out.len]; exact Try.info576
        have HRT := Lib.hid HP.out.box.all
        have HLC := Lib.hid (ref_links10 (w := wr) (fun j hj => (HP.out.ok j hj).1) (HP.out.holds.still HP.out.mod) (fun j hj => (HP.out.ok j hj).2))
        have HEO := Lib.hid HP.out.ev1
        cases fx with
        | true =>
          go_upto_region 12 with (first
            | (with_reducible refine wpList_load_mid (op := ⟨some 38, _, _, _, _, _⟩) rfl 44 _ rfl BT 0 rfl (tabL t ev) _ HRT.out HU44.out rfl HISL.out ?_)
            | (go_at_call 66; (with_reducible refine HLC.out.mono ?_); (rintro e w5 ⟨⟨t', rfl, ha⟩, hb5⟩); (have HA := Lib.hid ha); (have HP5 := Lib.hid (HP.out.still (mod_of_below hb5))); (have hs5 : (tabL t' ev).toArray.size = 576 := by rw [List.size_toArray, tabL_len (fun j hj => (ha j hj).1.len)]); (have HISZ : Hid ((Try.prog.info? 44).map (·.size) = some (tabL t' ev).toArray.size) := by unfold Hid; rw [hs5]; exact Try.info576); (have HON : Hid ((tabL t' ev).toArray.all (·.oneCell') = true) := all_oneCell_toArray (tabL_one HEO.out 32 (Nat.le_refl _))); (have HTH : Hid (w5.there BT 0 (tabL t' ev).toArray.size) := by unfold Hid; rw [hs5]; exact HP5.out.box.there 0 576 (by omega)); (clear ha hb5 hs5))
            | (with_reducible refine wpList_store_mid (op := ⟨none, _, _, _, _, _⟩) rfl 44 _ _ rfl BT 0 (tabL t' ev).toArray rfl rfl HTH.out HISZ.out HON.out ?_))
          try simp only [Act.put]
          have hpq := HP5.out.whole HA.out
          generalize w5.setCells BT 0 (tabL t' ev) = wq at hpq ⊢
          have HPQ : Hid (∃ t ev, MadeS w wq p BT 10 S t ev D3) := ⟨_, _, hpq⟩
          clear hpq
          clear HP HU44 HISL HRT HLC HEO HA HP5 HISZ HON HTH
          obtain ⟨t, ev, hP⟩ := HPQ.out
          have HP := Lib.hid hP
          clear HPQ hP
          go_wp2_with fail
          have HP8 : Hid (∃ S D, MadeS w _ p BT (10 + 13 * 0) S t ev D) := ⟨_, _, HP.out.le (by omega)⟩
          go_loopg [8] 32 (fun gk iv wr => ∃ (k : Nat), k + gk = 32 ∧ iv = .int .i64 (k : Nat) ∧ Hid (∃ S D, MadeS w wr p BT (10 + 13 * k) S t ev D))
          case atStart => exact ⟨0, by omega, rfl, HP8.out⟩
          case round =>
            obtain ⟨k, hk, rfl, HPR⟩ := hrel
            clear HP8 HP
            by_cases hlt : k < 32
            · have hki : (k : Int) < 32 := by omega
              go_wp2_with fail
              go_loopg [9] 13 (fun gk iv wr => ∃ (j : Nat), j + gk = 13 ∧ iv = .int .i64 (j : Nat) ∧ Hid (∃ S D, MadeS w wr p BT (10 + 13 * k + j) S t ev D))
              case atStart => exact ⟨0, by omega, rfl, HPR.out⟩
              case round =>
                obtain ⟨j, hj, rfl, HPJ⟩ := hrel
                clear HPR
                by_cases hltj : j < 13
                · have hji : (j : Int) < 13 := by omega
                  have hk0 : (0 : Int) ≤ (k : Int) := Int.natCast_nonneg _
                  have hj0 : (0 : Int) ≤ (j : Int) := Int.natCast_nonneg _
                  obtain ⟨S5, D5, hP⟩ := HPJ.out
                  have bc := hP.box.blc k hlt j hltj
                  have HP := Lib.hid hP
                  obtain ⟨x, hx⟩ : ∃ x, x = (t k).bl.getD j 0 := ⟨_, rfl⟩
                  rw [← hx] at bc
                  have HSX := Lib.hid (set_int hP.sheet (by have := hP.was; omega) x true)
                  have HWS := Lib.hid (setI_was S5 x true)
                  clear HPJ hP hx
                  go_wp2_with (go_at_call 67; (with_reducible refine HSX.out.mono ?_); (rintro e w5 ⟨rfl, hk5⟩))
                  have HPN := Lib.hid (HP.out.sh (n' := 10 + 13 * k + (j + 1)) hk5 (by have h1 := HWS.out; have h2 := HP.out.was; omega))
                  go_roundg (gk - 1)
                  case measure => omega
                  case rel => exact ⟨j + 1, by omega, by go_num, _, _, HPN.out⟩
                · obtain rfl : j = 13 := by omega
                  have hji : ¬ ((13 : Nat) : Int) < 13 := by omega
                  go_wp2_with fail
                  go_roundg (32 - k - 1)
                  case measure => omega
                  case rel => exact ⟨k + 1, by omega, by go_num, HPJ.out⟩
            · obtain rfl : k = 32 := by omega
              have hki : ¬ ((32 : Nat) : Int) < 32 := by omega
              have HP4 : Hid (∃ S D, MadeS w wr p BT (500 + 3100 * 0) S t ev D) := by
                obtain ⟨S5, D5, hP⟩ := HPR.out
                exact ⟨S5, D5, ⟨hP.ok, hP.holds, hP.sheet, hP.apart, hP.new, hP.box, hP.bt, hP.mod, by have := hP.was; omega⟩⟩
              clear HPR
              go_wp2_with fail
              go_loopg [10] 32 (fun gk iv wr => ∃ (k : Nat), k + gk = 32 ∧ iv = .int .i64 (k : Nat) ∧ Hid (∃ S D, MadeS w wr p BT (500 + 3100 * k) S t ev D))
              case atStart => exact ⟨0, by omega, rfl, HP4.out⟩
              case round =>
                obtain ⟨k, hk, rfl, HPR⟩ := hrel
                clear HP4
                obtain ⟨S5, D5, hP⟩ := HPR.out
                have HP := Lib.hid hP
                clear HPR
                by_cases hlt : k < 32
                · have hki : (k : Int) < 32 := by omega
                  have hk0 : (0 : Int) ≤ (k : Int) := Int.natCast_nonneg _
                  have c0 := hP.box.fmt k hlt
                  have HRX := Lib.hid (hP.box.range k hlt)
                  have hno := (hP.ok k hlt).1
                  have hho := hP.holds k hlt
                  have HSX : Hid ((Try.prog.info? 25).map (·.size) = some (inoL (t k) (ev k)).length) := by unfold Hid; rw [inoL_len hno.len]; exact Try.info18
                  have HPU : Hid (Calls Try.prog 21 #[.pointer (some ⟨p, 0, none⟩), .int .i64 (k : Nat), .agg (inoL (t k) (ev k)).toArray] wr fun e w' => e = .returned (.int .i64 (putI S5 (k : Int) (t k)).1) ∧ ShStep wr p D5 w' (putI S5 (k : Int) (t k)).2) := put_ino hP.sheet (by have := hP.was; omega) (k : Nat) hno (hho.mod hP.mod (fun _ _ _ h => h)) (fun h0 g hg hd => by
                    have h1 := hho.lt h0 g hg
                    have h2 := hP.new g hd
                    omega)
                  have HWS := Lib.hid (putI_was (i := (k : Int)) hP.sheet.ok hno)
                  obtain ⟨fo, hfo⟩ : ∃ x, x = (t k).format := ⟨_, rfl⟩
                  rw [← hfo] at c0
                  obtain ⟨n, hn⟩ : ∃ x, x = t k := ⟨_, rfl⟩
                  obtain ⟨v, hv⟩ : ∃ x, x = ev k := ⟨_, rfl⟩
                  rw [← hn, ← hv] at HRX HSX HPU
                  rw [← hn] at HWS
                  obtain ⟨r, hr⟩ : ∃ r, r = putI S5 (k : Int) n := ⟨_, rfl⟩
                  rw [← hr] at HPU HWS
                  clear hr hn hv hfo hno hho hP
                  by_cases h0 : 0 < fo
                  · go_wp2_with (first
                      | (with_reducible refine wpList_load_mid (op := ⟨some 69, _, _, _, _, _⟩) rfl 25 _ rfl BT (k * 18) rfl (inoL n v) _ HRX.out Try.underlying25 rfl HSX.out ?_)
                      | (go_at_call 21; (with_reducible refine HPU.out.mono ?_); (rintro e w5 ⟨rfl, hk5⟩)))
                    have HPN := Lib.hid (HP.out.sh (n' := 500 + 3100 * (k + 1)) hk5 (by have h1 := HWS.out; have h2 := HP.out.was; omega))
                    go_roundg (gk - 1)
                    case measure => omega
                    case rel => exact ⟨k + 1, by omega, by go_num, _, _, HPN.out⟩
                  · have hb0 : decide (0 < fo) = false := decide_eq_false h0
                    have HPN : Hid (MadeS w wr p BT (500 + 3100 * (k + 1)) S5 t ev D5) := ⟨HP.out.ok, HP.out.holds, HP.out.sheet, HP.out.apart, HP.out.new, HP.out.box, HP.out.bt, HP.out.mod, by have := HP.out.was; omega⟩
                    go_wp2_with fail
                    go_roundg (gk - 1)
                    case measure => omega
                    case rel => exact ⟨k + 1, by omega, by go_num, _, _, HPN.out⟩
                · obtain rfl : k = 32 := by omega
                  have hki : ¬ ((32 : Nat) : Int) < 32 := by omega
                  clear hP
                  go_wp2_with fail
                  go_ret
                  exact ⟨p, rfl, D5, S5, HP.out.sheet, by have := HP.out.was; omega, HP.out.new, nob_mod_below HP.out.mod⟩
        | false =>
          go_upto_region 12 with (fail)
          have HPQ : Hid (∃ t ev, MadeS w wr p BT 10 S t ev D3) := ⟨_, _, HP.out⟩
          clear HP HU44 HISL HRT HLC HEO
          obtain ⟨t, ev, hP⟩ := HPQ.out
          have HP := Lib.hid hP
          clear HPQ hP
          go_wp2_with fail
          have HP8 : Hid (∃ S D, MadeS w _ p BT (10 + 13 * 0) S t ev D) := ⟨_, _, HP.out.le (by omega)⟩
          go_loopg [8] 32 (fun gk iv wr => ∃ (k : Nat), k + gk = 32 ∧ iv = .int .i64 (k : Nat) ∧ Hid (∃ S D, MadeS w wr p BT (10 + 13 * k) S t ev D))
          case atStart => exact ⟨0, by omega, rfl, HP8.out⟩
          case round =>
            obtain ⟨k, hk, rfl, HPR⟩ := hrel
            clear HP8 HP
            by_cases hlt : k < 32
            · have hki : (k : Int) < 32 := by omega
              go_wp2_with fail
              go_loopg [9] 13 (fun gk iv wr => ∃ (j : Nat), j + gk = 13 ∧ iv = .int .i64 (j : Nat) ∧ Hid (∃ S D, MadeS w wr p BT (10 + 13 * k + j) S t ev D))
              case atStart => exact ⟨0, by omega, rfl, HPR.out⟩
              case round =>
                obtain ⟨j, hj, rfl, HPJ⟩ := hrel
                clear HPR
                by_cases hltj : j < 13
                · have hji : (j : Int) < 13 := by omega
                  have hk0 : (0 : Int) ≤ (k : Int) := Int.natCast_nonneg _
                  have hj0 : (0 : Int) ≤ (j : Int) := Int.natCast_nonneg _
                  obtain ⟨S5, D5, hP⟩ := HPJ.out
                  have bc := hP.box.blc k hlt j hltj
                  have HP := Lib.hid hP
                  obtain ⟨x, hx⟩ : ∃ x, x = (t k).bl.getD j 0 := ⟨_, rfl⟩
                  rw [← hx] at bc
                  have HSX := Lib.hid (set_int hP.sheet (by have := hP.was; omega) x true)
                  have HWS := Lib.hid (setI_was S5 x true)
                  clear HPJ hP hx
                  go_wp2_with (go_at_call 67; (with_reducible refine HSX.out.mono ?_); (rintro e w5 ⟨rfl, hk5⟩))
                  have HPN := Lib.hid (HP.out.sh (n' := 10 + 13 * k + (j + 1)) hk5 (by have h1 := HWS.out; have h2 := HP.out.was; omega))
                  go_roundg (gk - 1)
                  case measure => omega
                  case rel => exact ⟨j + 1, by omega, by go_num, _, _, HPN.out⟩
                · obtain rfl : j = 13 := by omega
                  have hji : ¬ ((13 : Nat) : Int) < 13 := by omega
                  go_wp2_with fail
                  go_roundg (32 - k - 1)
                  case measure => omega
                  case rel => exact ⟨k + 1, by omega, by go_num, HPJ.out⟩
            · obtain rfl : k = 32 := by omega
              have hki : ¬ ((32 : Nat) : Int) < 32 := by omega
              have HP4 : Hid (∃ S D, MadeS w wr p BT (500 + 3100 * 0) S t ev D) := by
                obtain ⟨S5, D5, hP⟩ := HPR.out
                exact ⟨S5, D5, ⟨hP.ok, hP.holds, hP.sheet, hP.apart, hP.new, hP.box, hP.bt, hP.mod, by have := hP.was; omega⟩⟩
              clear HPR
              go_wp2_with fail
              go_loopg [10] 32 (fun gk iv wr => ∃ (k : Nat), k + gk = 32 ∧ iv = .int .i64 (k : Nat) ∧ Hid (∃ S D, MadeS w wr p BT (500 + 3100 * k) S t ev D))
              case atStart => exact ⟨0, by omega, rfl, HP4.out⟩
              case round =>
                obtain ⟨k, hk, rfl, HPR⟩ := hrel
                clear HP4
                obtain ⟨S5, D5, hP⟩ := HPR.out
                have HP := Lib.hid hP
                clear HPR
                by_cases hlt : k < 32
                · have hki : (k : Int) < 32 := by omega
                  have hk0 : (0 : Int) ≤ (k : Int) := Int.natCast_nonneg _
                  have c0 := hP.box.fmt k hlt
                  have HRX := Lib.hid (hP.box.range k hlt)
                  have hno := (hP.ok k hlt).1
                  have hho := hP.holds k hlt
                  have HSX : Hid ((Try.prog.info? 25).map (·.size) = some (inoL (t k) (ev k)).length) := by unfold Hid; rw [inoL_len hno.len]; exact Try.info18
                  have HPU : Hid (Calls Try.prog 21 #[.pointer (some ⟨p, 0, none⟩), .int .i64 (k : Nat), .agg (inoL (t k) (ev k)).toArray] wr fun e w' => e = .returned (.int .i64 (putI S5 (k : Int) (t k)).1) ∧ ShStep wr p D5 w' (putI S5 (k : Int) (t k)).2) := put_ino hP.sheet (by have := hP.was; omega) (k : Nat) hno (hho.mod hP.mod (fun _ _ _ h => h)) (fun h0 g hg hd => by
                    have h1 := hho.lt h0 g hg
                    have h2 := hP.new g hd
                    omega)
                  have HWS := Lib.hid (putI_was (i := (k : Int)) hP.sheet.ok hno)
                  obtain ⟨fo, hfo⟩ : ∃ x, x = (t k).format := ⟨_, rfl⟩
                  rw [← hfo] at c0
                  obtain ⟨n, hn⟩ : ∃ x, x = t k := ⟨_, rfl⟩
                  obtain ⟨v, hv⟩ : ∃ x, x = ev k := ⟨_, rfl⟩
                  rw [← hn, ← hv] at HRX HSX HPU
                  rw [← hn] at HWS
                  obtain ⟨r, hr⟩ : ∃ r, r = putI S5 (k : Int) n := ⟨_, rfl⟩
                  rw [← hr] at HPU HWS
                  clear hr hn hv hfo hno hho hP
                  by_cases h0 : 0 < fo
                  · go_wp2_with (first
                      | (with_reducible refine wpList_load_mid (op := ⟨some 69, _, _, _, _, _⟩) rfl 25 _ rfl BT (k * 18) rfl (inoL n v) _ HRX.out Try.underlying25 rfl HSX.out ?_)
                      | (go_at_call 21; (with_reducible refine HPU.out.mono ?_); (rintro e w5 ⟨rfl, hk5⟩)))
                    have HPN := Lib.hid (HP.out.sh (n' := 500 + 3100 * (k + 1)) hk5 (by have h1 := HWS.out; have h2 := HP.out.was; omega))
                    go_roundg (gk - 1)
                    case measure => omega
                    case rel => exact ⟨k + 1, by omega, by go_num, _, _, HPN.out⟩
                  · have hb0 : decide (0 < fo) = false := decide_eq_false h0
                    have HPN : Hid (MadeS w wr p BT (500 + 3100 * (k + 1)) S5 t ev D5) := ⟨HP.out.ok, HP.out.holds, HP.out.sheet, HP.out.apart, HP.out.new, HP.out.box, HP.out.bt, HP.out.mod, by have := HP.out.was; omega⟩
                    go_wp2_with fail
                    go_roundg (gk - 1)
                    case measure => omega
                    case rel => exact ⟨k + 1, by omega, by go_num, _, _, HPN.out⟩
                · obtain rfl : k = 32 := by omega
                  have hki : ¬ ((32 : Nat) : Int) < 32 := by omega
                  clear hP
                  go_wp2_with fail
                  go_ret
                  exact ⟨p, rfl, D5, S5, HP.out.sheet, by have := HP.out.was; omega, HP.out.new, nob_mod_below HP.out.mod⟩
end Go.Proofs.Ytlopdbhjdijlmaa
