/-
  The law InodePlays: the walk. No condition.
-/
import Derived.Test.YtlopdbhjdijlmaaQPlayKit8
import Derived.StillTailTactics

namespace Go.Proofs.Ytlopdbhjdijlmaa
open Go.ChangeShapes Go.WideShapes Go.ChangeAt Go.RowKit
set_option linter.unusedSimpArgs false
set_option linter.unusedVariables false

/-- What stands while the calls are made. -/
structure PlayR (w0 wr : World) (p BT : Nat) (room : Nat) (k : Nat) (S : Sh) (t : Nat → Ino) (ev : Nat → Value) (D : Nat → Prop) : Prop where
  tab : ∃ xs, TabR S t xs room
  right : RightT t
  holds : HoldsT w0 t ev
  old : ∀ i, i < 32 → (t i).ents ≠ [] → ∀ g, (ev i).ownBlock = some g → g < w0.heap.size
  sheet : SheetAt wr p D S
  apart : ¬ D BT
  new : ∀ b, D b → w0.heap.size ≤ b
  mod : Mod nob w0 wr
  box : TabB wr BT t ev
  was : S.was.length ≤ 3100 * k

theorem Mod.news {w0 a c : World} {E : Nat → Prop} (h : Mod nob w0 a) (k : Mod E a c) (he : ∀ x, E x → w0.heap.size ≤ x) : Mod nob w0 c :=
  h.trans (k.mono (fun b hb e => .inr ⟨he b e, hb⟩))

set_option maxRecDepth 20000 in
set_option maxHeartbeats 16000000 in
theorem law_plays {w : World} (a : Nat → Int) (ha : ∀ i, 0 ≤ a i ∧ a i < 18446744073709551616) {lv : Value} {l : List Op8} (hl : HoldsO8 w lv l) :
    Calls Try.prog 4 #[.agg #[.int .u64 (a 0), .int .u64 (a 1), .int .u64 (a 2), .int .u64 (a 3)], lv] w fun e w' => e = .returned (.bool true) ∧ Below w.heap.size w w' := by
  have HBEL : Hid (Below w.heap.size w (w.alloc (.cells #[.int .u64 (a 0), .int .u64 (a 1), .int .u64 (a 2), .int .u64 (a 3)] 38))) := (Below.refl _ _).alloc (Nat.le_refl _) _
  have HR4 : Hid ((w.alloc (.cells #[.int .u64 (a 0), .int .u64 (a 1), .int .u64 (a 2), .int .u64 (a 3)] 38)).rangeAt w.heap.size 0 [Value.int .u64 (a 0), .int .u64 (a 1), .int .u64 (a 2), .int .u64 (a 3)]) := by
    intro j v hv
    exact rangeAt_new w [Value.int .u64 (a 0), .int .u64 (a 1), .int .u64 (a 2), .int .u64 (a 3)] 38 (0, 0) j v hv
  have HS4 : Hid ((Try.prog.info? 38).map (·.size) = some ([Value.int .u64 (a 0), .int .u64 (a 1), .int .u64 (a 2), .int .u64 (a 3)]).length) := by unfold Hid; kernel_rfl
  have HL : Hid (HoldsO8 (w.alloc (.cells #[.int .u64 (a 0), .int .u64 (a 1), .int .u64 (a 2), .int .u64 (a 3)] 38)) lv l) := hl.old (mod_of_below HBEL.out) (fun _ h => h.elim)
  obtain ⟨ba, bc, rfl, q1, q2, -⟩ := hl
  obtain ⟨m0, hm0⟩ : ∃ m0, m0 = l.length := ⟨_, rfl⟩
  rw [← hm0] at HL q1 ⊢
  have HM0 := Lib.hid hm0
  unfold maxLen at q2
  have HAW : Hid (∀ wx, Calls Try.prog 17 #[] wx fun e w' => e = .returned (.bool true) ∧ Below wx.heap.size wx w') := fun wx => awake8 wx
  have HSH : Hid (∀ wx, Calls Try.prog 18 #[.agg ([Value.int .u64 (a 0), .int .u64 (a 1), .int .u64 (a 2), .int .u64 (a 3)]).toArray] wx fun e w' => ∃ p, e = .returned (.pointer (some ⟨p, 0, none⟩)) ∧ SheetAt w' p (grow nob wx w') (S6 a) ∧ Below wx.heap.size wx w') := fun wx => sheet6_any a ha
  have hsz0 : (w.alloc (.cells #[.int .u64 (a 0), .int .u64 (a 1), .int .u64 (a 2), .int .u64 (a 3)] 38)).heap.size = w.heap.size + 1 := by simp
  have HZ := Lib.hid hsz0
  clear ha hsz0 hm0
  go_enter Try.func4, Try.ntmps4
  go_wp2_with fail
  generalize w.alloc (.cells #[.int .u64 (a 0), .int .u64 (a 1), .int .u64 (a 2), .int .u64 (a 3)] 38) = w0 at *
  obtain ⟨n0, hn0⟩ : ∃ n0, n0 = w.heap.size := ⟨_, rfl⟩
  have HN0 := Lib.hid hn0
  rw [← hn0] at HZ HR4 ⊢
  clear hn0
  have HX : Hid (Mod nob w0 w0) := Mod.refl nob w0
  refine (HAW.out _).mono ?_
  rintro e wz ⟨rfl, hbz⟩
  have HX := Lib.hid (HX.out.step (mod_of_below hbz) (fun _ h => h))
  clear hbz
  by_cases h60 : m0 ≤ 60
  · have h60i : ¬ (60 : Int) < (m0 : Int) := by omega
    go_upto_region 3 with (fail)
    have HR4z : Hid (wz.rangeAt n0 0 [Value.int .u64 (a 0), .int .u64 (a 1), .int .u64 (a 2), .int .u64 (a 3)]) := fun j v hj => HX.out.cell (HR4.out j v hj) (fun h => h)
    go_upto_region 4 with (first
      | (with_reducible refine wpList_load_mid (op := ⟨some 29, _, _, _, _, _⟩) rfl 38 _ rfl n0 0 rfl ([Value.int .u64 (a 0), .int .u64 (a 1), .int .u64 (a 2), .int .u64 (a 3)]) _ HR4z.out Try.underlying38 rfl HS4.out ?_)
      | (go_at_call 18; with_reducible refine (HSH.out _).mono ?_; rintro e ws ⟨p, rfl, hs, hbz⟩))
    have HXS : Hid (Mod nob w0 ws) := HX.out.step (mod_of_below hbz) (fun _ h => h)
    have hz1 := HX.out.size
    have hz2 := HXS.out.size
    obtain ⟨D, hD⟩ : ∃ D, D = grow nob wz ws := ⟨_, rfl⟩
    rw [← hD] at hs
    have HD : Hid (∀ b, D b → n0 + 1 ≤ b ∧ b < ws.heap.size) := fun b hb => by
      rw [hD] at hb
      have := HZ.out
      rcases hb with hb | hb
      · exact hb.elim
      · exact ⟨by omega, by omega⟩
    obtain ⟨S, hS⟩ : ∃ S, S = S6 a := ⟨_, rfl⟩
    rw [← hS] at hs
    have hwas : S.was.length = 0 := by rw [hS]; rfl
    have hfr : freeN S ≤ 300 := by have := freeTo_le S 256; unfold freeN; omega
    obtain ⟨room, hroom⟩ : ∃ r, r = freeN S := ⟨_, rfl⟩
    have HTR : Hid (TabR S inoT0 (fun _ => []) room) := by rw [hroom, hS]; exact TabR.start (fun j h1 h2 => S6_zero8 a j (by omega))
    rw [← hroom] at hfr
    have HS := Lib.hid hs
    have HFC : Hid (Calls Try.prog 19 #[.pointer (some ⟨p, 0, none⟩)] ws fun e w' => e = .returned (.int .i64 (room : Nat)) ∧ ws = w') := by rw [hroom]; exact free_any hs
    have HWAS := Lib.hid hwas
    clear hs hbz hz1 hD hS hwas HAW HSH HX HR4z HR4 HS4 hroom
    go_upto_region 6 with (go_at_call 19; refine HFC.out.mono ?_; rintro e w' ⟨rfl, rfl⟩)
    have HT0 : Hid (TabB (ws.alloc (.cells Try.zeroCells44 44)) ws.heap.size inoT0 nilT) := by
      rw [zeroT_eq]
      exact TabB.new len13_0 ws
    have HM1 : Hid (Mod nob ws (ws.alloc (.cells Try.zeroCells44 44))) := (Mod.refl nob ws).alloc _
    generalize ws.alloc (.cells Try.zeroCells44 44) = w1 at *
    obtain ⟨BT, hBT⟩ : ∃ B, B = ws.heap.size := ⟨_, rfl⟩
    rw [← hBT] at HT0 HD ⊢
    have HP0 : Hid (PlayR w0 w1 p BT room 0 S inoT0 nilT D) := ⟨⟨_, HTR.out⟩, RightT.start, HoldsT.start w0, (fun i hi h => absurd rfl h), HS.out.mod HM1.out (fun _ _ h => h), (fun h => by have := (HD.out _ h).2; omega), (fun b h => by have := (HD.out _ h).1; have := HZ.out; omega), HXS.out.step HM1.out (fun _ h => h), HT0.out, by have := HWAS.out; omega⟩
    have HBT : Hid (w0.heap.size ≤ BT) := by unfold Hid; omega
    have HU46 := Lib.hid Try.underlying46
    have HU25 := Lib.hid Try.underlying25
    have HU44 := Lib.hid Try.underlying44
    clear hBT HT0 HM1 HD HTR HS HFC HWAS HXS hz2
    go_wp2_with fail
    go_loopg [8] m0 (fun gk iv wr => ∃ k : Nat, k + gk = m0 ∧ iv = .int .i64 k ∧ Hid (∃ S t ev D, PlayR w0 wr p BT room k S t ev D))
    case atStart => exact ⟨0, by omega, rfl, S, inoT0, nilT, D, HP0.out⟩
    case round =>
      obtain ⟨k, hk, rfl, HPR⟩ := hrel
      clear HP0
      by_cases hlt : k < m0
      · have hki : (k : Int) < (m0 : Int) := by omega
        obtain ⟨S, t, ev, D, hP⟩ := HPR.out
        have HP := Lib.hid hP
        have hol := HL.out.old hP.mod (fun _ h => h.elim)
        obtain ⟨ao', c', e, -, -, hcx⟩ := hol
        simp only [Value.slice.injEq] at e
        obtain ⟨rfl, -, rfl⟩ := e
        have hkl : k < l.length := by have := HM0.out; omega
        obtain ⟨⟨g, o, rfl, hrg⟩, hx1, hx2, hx3, hx4⟩ := hcx k hkl
        have HE0 : Hid (HoldsE w0 (l.getD k default).ev (l.getD k default).n.ents) := by
          obtain ⟨ao2, c2, e2, -, -, hc2⟩ := HL.out
          exact (hc2 k hkl).2.2.2.2
        obtain ⟨kd, hkd⟩ : ∃ x, x = (l.getD k default).kd := ⟨_, rfl⟩
        obtain ⟨i, hi⟩ : ∃ x, x = (l.getD k default).i := ⟨_, rfl⟩
        obtain ⟨n, hn⟩ : ∃ x, x = (l.getD k default).n := ⟨_, rfl⟩
        obtain ⟨v, hv⟩ : ∃ x, x = (l.getD k default).ev := ⟨_, rfl⟩
        rw [← hkd, ← hi, ← hn, ← hv] at hrg
        rw [← hkd] at hx1
        rw [← hi] at hx2
        rw [← hn] at hx3
        rw [← hn, ← hv] at hx4 HE0
        have HRG := Lib.hid hrg
        have HNO := Lib.hid hx3
        have HV := Lib.hid hx4
        have HV1 : Hid (v.oneCell' = true) := by obtain ⟨a, c, e, -⟩ := hx4; unfold Hid; rw [e]; rfl
        have hlen20 : (opL kd i n v).length = 20 := opL_len hx3.len
        have HS20 : Hid ((Try.prog.info? 46).map (·.size) = some (opL kd i n v).length) := by unfold Hid; rw [hlen20]; exact Try.info20
        have HS20a : Hid ((Try.prog.info? 46).map (·.size) = some (opL kd i n v).toArray.size) := by unfold Hid; rw [List.size_toArray, hlen20]; exact Try.info20
        have HO1 : Hid ((opL kd i n v).toArray.all (·.oneCell') = true) := all_oneCell_toArray (opL_one HV1.out)
        have HZB : Hid (OpB (wr.alloc (.cells z20 46)) wr.heap.size 0 0 ino0 (.slice none 0 0)) := ⟨heap_alloc_new _ _, rfl⟩
        have HTH : Hid ((wr.alloc (.cells z20 46)).there wr.heap.size 0 (opL kd i n v).toArray.size) := by
          unfold Hid; rw [show (opL kd i n v).toArray.size = 20 by rw [List.size_toArray]; exact hlen20]; exact HZB.out.there 0 20 (by omega)
        have HOB : Hid (OpB ((wr.alloc (.cells z20 46)).setCells wr.heap.size 0 (opL kd i n v)) wr.heap.size kd i n v) := by
          have h1 := HZB.out.1
          rw [← op_zero] at h1
          exact ⟨heap_setCells_all wr.heap.size 46 (opL kd i n v) [] z20.toList (wr.alloc (.cells z20 46)) h1 (by rw [hlen20]; rfl), hx3.len⟩
        have HMO : Hid (Mod nob wr ((wr.alloc (.cells z20 46)).setCells wr.heap.size 0 (opL kd i n v))) := mod_of_below (((Below.refl _ _).alloc (Nat.le_refl _) _).trans (Lib.below_setCells_w (Nat.le_refl _) _ _ _))
        have HWR : Hid (w0.heap.size ≤ wr.heap.size) := hP.mod.size
        obtain ⟨i64a, i64b⟩ := hx2
        obtain ⟨kd0, kd1⟩ := hx1
        clear hcx hkl hkd hi hn hv hrg hx3 hx4 hlen20 HPR
        go_upto_region 10 with (first
          | (with_reducible refine wpList_load_mid (op := ⟨some 42, _, _, _, _, _⟩) rfl 46 _ rfl g (o + k * 20) rfl (opL kd i n v) _ HRG.out HU46.out rfl HS20.out ?_)
          | (with_reducible refine wpList_store_mid (op := ⟨none, _, _, _, _, _⟩) rfl 46 _ _ rfl wr.heap.size 0 (opL kd i n v).toArray rfl rfl HTH.out HS20a.out HO1.out ?_))
        clear hP HZB HTH HS20a HO1 HRG HS20
        generalize (wr.alloc (.cells z20 46)).setCells wr.heap.size 0 (opL kd i n v) = w2 at *
        obtain ⟨X, hX⟩ : ∃ X, X = wr.heap.size := ⟨_, rfl⟩
        rw [← hX] at HOB HWR ⊢
        have HXR := Lib.hid hX
        clear hX
        have HRI := Lib.hid HOB.out.range
        have HSI : Hid ((Try.prog.info? 25).map (·.size) = some (inoL n v).length) := by unfold Hid; rw [inoL_len HNO.out.len]; exact Try.info18
        obtain ⟨bf, hbf⟩ : ∃ b, b = fewB n := ⟨_, rfl⟩
        have HFW : Hid (Calls Try.prog 10 #[.agg (inoL n v).toArray] w2 fun e w' => e = .returned (.bool bf) ∧ Below w2.heap.size w2 w') := by
          rw [hbf]
          exact few6 HNO.out (HV.out.mod HMO.out (fun _ _ _ h => h))
        have HM2 : Hid (Mod nob w0 w2) := HP.out.mod.step HMO.out (fun _ h => h)
        clear hbf
        cases bf with
        | false =>
          go_wp2_with (first
            | (with_reducible refine wpList_load_mid (op := ⟨some 44, _, _, _, _, _⟩) rfl 25 _ rfl X 2 rfl (inoL n v) _ HRI.out HU25.out rfl HSI.out ?_)
            | (go_at_call 10; with_reducible refine HFW.out.mono ?_; rintro e w3 ⟨rfl, hb3⟩))
          go_ret
          have hm3 : Mod nob w0 w3 := HM2.out.step (mod_of_below hb3) (fun _ h => h)
          exact ⟨rfl, HBEL.out.trans (hm3.below (by have := HZ.out; have := HN0.out; omega) (fun b h => h.elim))⟩
        | true =>
          go_upto_region 12 with (first
            | (with_reducible refine wpList_load_mid (op := ⟨some 44, _, _, _, _, _⟩) rfl 25 _ rfl X 2 rfl (inoL n v) _ HRI.out HU25.out rfl HSI.out ?_)
            | (go_at_call 10; with_reducible refine HFW.out.mono ?_; rintro e w3 ⟨rfl, hb3⟩))
          have HM3 : Hid (Mod nob wr w3) := HMO.out.step (mod_of_below hb3) (fun _ h => h)
          have HO3 := Lib.hid (HOB.out.mod (mod_of_below hb3) (fun h => h))
          have HRI3 := Lib.hid HO3.out.range
          have HEM0 := empty8 HNO.out (HV.out.mod HM3.out (fun _ _ _ h => h))
          obtain ⟨n2, hn2⟩ : ∃ x, x = emptyN n := ⟨_, rfl⟩
          have HN2 : Hid n2.Ok := by rw [hn2]; exact emptyN_ok HNO.out
          have HNZ : Hid (n2.bl = List.replicate 13 0) := by rw [hn2]; rfl
          have HE2 : Hid (HoldsE w0 v n2.ents) := by rw [hn2]; exact HE0.out
          rw [← hn2] at HEM0
          have HEM : Hid (Calls Try.prog 20 #[.agg (inoL n v).toArray] w3 fun e w' => e = .returned (.agg (inoL n2 v).toArray) ∧ Below w3.heap.size w3 w') := HEM0
          clear HEM0
          have hsz : (inoL n2 v).toArray.size = 18 := by rw [List.size_toArray]; exact inoL_len HN2.out.len v
          have HISZ : Hid ((Try.prog.info? 25).map (·.size) = some (inoL n2 v).toArray.size) := by unfold Hid; rw [hsz]; exact Try.info18
          have HONI : Hid ((inoL n2 v).toArray.all (·.oneCell') = true) := all_oneCell_toArray (inoL_one HV1.out)
          clear hb3 hn2 HFW HRI HM2 HOB HE0 HMO
          go_upto_region 13 with (first
            | (with_reducible refine wpList_load_mid (op := ⟨some 48, _, _, _, _, _⟩) rfl 25 _ rfl X 2 rfl (inoL n v) _ HRI3.out HU25.out rfl HSI.out ?_)
            | (go_at_call 20; with_reducible refine HEM.out.mono ?_; rintro e w4 ⟨rfl, hb4⟩; have HO4 := Lib.hid (HO3.out.mod (mod_of_below hb4) (fun h => h)); have HTH : Hid (w4.there X 2 (inoL n2 v).toArray.size) := (by unfold Hid; rw [hsz]; exact HO4.out.there 2 18 (by omega)))
            | (with_reducible refine wpList_store_mid (op := ⟨none, _, _, _, _, _⟩) rfl 25 _ _ rfl X 2 (inoL n2 v).toArray rfl rfl HTH.out HISZ.out HONI.out ?_))
          simp only [Act.put]
          have HO5 : Hid (OpB (w4.setCells X 2 (inoL n2 v)) X kd i n2 v) := HO4.out.set HN2.out.len v
          have HM5 : Hid (Mod nob wr (w4.setCells X 2 (inoL n2 v))) := Mod.setCells X (.inr (by rw [HXR.out]; exact Nat.le_refl _)) _ _ _ (HM3.out.step (mod_of_below hb4) (fun _ h => h))
          generalize w4.setCells X 2 (inoL n2 v) = w5 at *
          clear hb4 HO4 HTH HISZ HONI HO3 HRI3 HEM hsz HM3 HSI
          have HSI : Hid ((Try.prog.info? 25).map (·.size) = some (inoL n2 v).length) := by unfold Hid; rw [inoL_len HN2.out.len]; exact Try.info18
          have c0 := HO5.out.c0
          have c1 := HO5.out.c1
          have HRI := Lib.hid HO5.out.range
          have HXD : Hid (¬ D X) := fun h => by
            have h1 := HP.out.sheet.lt X h
            have h2 := HXR.out
            omega
          have HS5 : Hid (SheetAt w5 p D S) := HP.out.sheet.mod HM5.out (fun _ _ h => h)
          have HM05 : Hid (Mod nob w0 w5) := HP.out.mod.step HM5.out (fun _ h => h)
          have HE5 : Hid (HoldsE w5 v n2.ents) := HE2.out.mod HM05.out (fun _ _ _ h => h)
          have HED : Hid (n2.ents ≠ [] → ∀ g, v.ownBlock = some g → ¬ D g) := fun h0 g hg hd => by
            have h1 := HE2.out.lt h0 g hg
            have h2 := HP.out.new g hd
            omega
          have hwl : S.was.length + 10000 < 1099511627776 := by have := HP.out.was; omega
          have HPU : Hid (Calls Try.prog 21 #[.pointer (some ⟨p, 0, none⟩), .int .i64 i, .agg (inoL n2 v).toArray] w5 fun e w' => e = .returned (.int .i64 (putI S i n2).1) ∧ ShStep w5 p D w' (putI S i n2).2) := put_ino HS5.out hwl i HN2.out HE5.out HED.out
          have HNW : Hid (Calls Try.prog 22 #[.pointer (some ⟨p, 0, none⟩), .agg (inoL n2 v).toArray] w5 fun e w' => e = .returned (.tuple #[.int .i64 (newI S n2 0 32).1, .int .i64 (newI S n2 0 32).2.1]) ∧ ShStep w5 p D w' (newI S n2 0 32).2.2) := new_ino HS5.out hwl HN2.out HE5.out HED.out
          have HDR : Hid (Calls Try.prog 23 #[.pointer (some ⟨p, 0, none⟩), .int .i64 i] w5 fun e w' => e = .returned (.int .i64 (dropI S i).1) ∧ ShStep w5 p D w' (dropI S i).2) := drop_ino HS5.out hwl i
          obtain ⟨r, hr⟩ : ∃ r, r = playI S kd i n2 := ⟨_, rfl⟩
          have HRR := Lib.hid hr
          obtain ⟨kq, hkq⟩ : ∃ q, q = kd % 3 := ⟨_, rfl⟩
          have hkq3 : 0 ≤ kq ∧ kq < 3 := by omega
          have htm : Int.tmod kd 3 = kq := by rw [Int.tmod_eq_emod_of_nonneg kd0]; exact hkq.symm
          have hkm : kd % 3 = kq := hkq.symm
          have HKQ := Lib.hid hkm
          clear hr hkq
          go_upto_block 2 with (fail)
          go_cut [10, 11] (fun v10 v11 wc => v10 = .int .i64 r.1 ∧ v11 = .int .i64 r.2.1 ∧ Hid (ShStep w5 p D wc r.2.2))
          case first =>
            rcases (show kq = 0 ∨ kq = 1 ∨ kq = 2 by omega) with rfl | rfl | rfl
            · have hrr : r = (i, (putI S i n2).1, (putI S i n2).2) := by rw [HRR.out]; unfold playI; rw [if_pos HKQ.out]
              have HRS := Lib.hid hrr
              clear hrr HNW HDR
              generalize putI S i n2 = pq at *
              go_wp2_with (first
                | (with_reducible refine wpList_load_mid (op := ⟨some 64, _, _, _, _, _⟩) rfl 25 _ rfl X 2 rfl (inoL n2 v) _ HRI.out HU25.out rfl HSI.out ?_)
                | (go_at_call 21; (with_reducible refine HPU.out.mono ?_); (rintro e w6 ⟨rfl, hk6⟩; have HO6 := Lib.hid (HO5.out.mod hk6.2 HXD.out); have c16 := HO6.out.c1; have HK6 := Lib.hid hk6; clear hk6)))
              go_meet
              case rel => rw [HRS.out]; exact ⟨rfl, rfl, HK6.out⟩
            · have hrr : r = newI S n2 0 32 := by rw [HRR.out]; unfold playI; rw [if_neg (by rw [HKQ.out]; decide), if_pos HKQ.out]
              rw [← hrr] at HNW
              clear hrr HPU HDR
              go_wp2_with (first
                | (with_reducible refine wpList_load_mid (op := ⟨some 73, _, _, _, _, _⟩) rfl 25 _ rfl X 2 rfl (inoL n2 v) _ HRI.out HU25.out rfl HSI.out ?_)
                | (go_at_call 22; with_reducible refine HNW.out.mono ?_; rintro e w6 ⟨rfl, hk6⟩; have HK6 := Lib.hid hk6; clear hk6))
              go_meet
              case rel => exact ⟨rfl, rfl, HK6.out⟩
            · have hrr : r = (0, (dropI S i).1, (dropI S i).2) := by rw [HRR.out]; unfold playI; rw [if_neg (by rw [HKQ.out]; decide), if_neg (by rw [HKQ.out]; decide)]
              have HRS := Lib.hid hrr
              clear hrr HPU HNW
              generalize dropI S i = pq at *
              go_wp2_with (first
                | (go_at_call 23; with_reducible refine HDR.out.mono ?_; rintro e w6 ⟨rfl, hk6⟩; have HK6 := Lib.hid hk6; clear hk6))
              go_meet
              case rel => rw [HRS.out]; exact ⟨rfl, rfl, HK6.out⟩
          case rest =>
            obtain ⟨rfl, rfl, HKC⟩ := hcut
            clear HPU HNW HDR HRI
            have HOC := Lib.hid (HO5.out.mod HKC.out.2 HXD.out)
            have HTC : Hid (TabB wc BT t ev) := (HP.out.box.mod HM5.out (fun h => h)).mod HKC.out.2 HP.out.apart
            have HMC : Hid (Mod nob w0 wc) := HM05.out.news HKC.out.2 HP.out.new
            have HDO := Lib.hid (do_tab (w := wc) HP.out.right (HP.out.holds.still HMC.out) HN2.out (HE2.out.mod HMC.out (fun _ _ _ h => h)) kd i (room : Int) ⟨kd0, kd1⟩ ⟨by omega, by omega⟩)
            obtain ⟨xs, htr⟩ := HP.out.tab
            have hst := play_step htr ev kd i kd0 HN2.out HNZ.out v
            rw [← HRR.out] at hst
            have hkp := do_keeps HP.out.right HP.out.holds HN2.out HE2.out kd i (room : Int)
            have hod := do_old (k0 := w0.heap.size) HP.out.old (HE2.out.lt) kd i (room : Int)
            have hws := playI_was HS5.out.ok kd i HN2.out
            rw [← HRR.out] at hws
            obtain ⟨R2, hR2⟩ : ∃ x, x = doT t ev kd i n2 v (room : Int) := ⟨_, rfl⟩
            rw [← hR2] at HDO hst hkp hod
            clear hR2
            obtain ⟨t2, ev2, mm, ff⟩ := R2
            obtain ⟨rn, re, rS⟩ := r
            simp only at hst hkp hod hws
            obtain ⟨hst1, hst2, hst3⟩ := hst
            obtain rfl : re = ff := hst1
            have HST := Lib.hid hst3
            have HKP := Lib.hid hkp
            have HOD := Lib.hid hod
            have hcnt : freeN rS + usedT t2 32 = room := by obtain ⟨_, h⟩ := hst3; exact h.count
            have HCNT := Lib.hid hcnt
            have HWS := Lib.hid hws
            have hful := usedT_le hkp.1 32 (Nat.le_refl _)
            clear hst3 hkp hod hws htr c0 c1 hcnt HRR HM05 HE5 HED HS5 HSI
            have HA1 := Lib.hid HTC.out.all
            have HA2 := Lib.hid HOC.out.all
            have HL1 : Hid ((Try.prog.info? 44).map (·.size) = some (tabL t ev).length) := by unfold Hid; rw [tabL_len HTC.out.2]; exact Try.info576
            have HL2 : Hid ((Try.prog.info? 46).map (·.size) = some (opL kd i n2 v).length) := by unfold Hid; rw [opL_len HOC.out.2]; exact Try.info20
            have HSZ2 : Hid ((tabL t2 ev2).toArray.size = 576) := by unfold Hid; rw [List.size_toArray, tabL_len HKP.out.1.len]
            have HISZ : Hid ((Try.prog.info? 44).map (·.size) = some (tabL t2 ev2).toArray.size) := by unfold Hid; rw [HSZ2.out]; exact Try.info576
            have HISL : Hid ((Try.prog.info? 44).map (·.size) = some (tabL t2 ev2).length) := by unfold Hid; rw [tabL_len HKP.out.1.len]; exact Try.info576
            have HONE : Hid ((tabL t2 ev2).toArray.all (·.oneCell') = true) := all_oneCell_toArray (tabL_one HKP.out.2.one 32 (Nat.le_refl _))
            have HD2 : Hid (Calls Try.prog 24 #[.agg (tabL t ev).toArray, .agg (opL kd i n2 v).toArray, .int .i64 (room : Int)] wc fun e w' => e = .returned (.tuple #[.agg (tabL t2 ev2).toArray, .int .i64 mm, .int .i64 re]) ∧ Below wc.heap.size wc w') := HDO.out
            clear HDO
            go_upto_region 24 with (first
              | (with_reducible refine wpList_load_mid (op := ⟨some 80, _, _, _, _, _⟩) rfl 44 _ rfl BT 0 rfl (tabL t ev) _ HA1.out HU44.out rfl HL1.out ?_)
              | (with_reducible refine wpList_load_mid (op := ⟨some 81, _, _, _, _, _⟩) rfl 46 _ rfl X 0 rfl (opL kd i n2 v) _ HA2.out HU46.out rfl HL2.out ?_)
              | (go_at_call 24; (with_reducible refine HD2.out.mono ?_); (rintro e w7 ⟨rfl, hb7⟩; have HTZ : Hid (TabB (w7.alloc (.cells Try.zeroCells44 44)) w7.heap.size inoT0 nilT) := (by rw [zeroT_eq]; exact TabB.new len13_0 w7); have HTH : Hid ((w7.alloc (.cells Try.zeroCells44 44)).there w7.heap.size 0 (tabL t2 ev2).toArray.size) := (by unfold Hid; rw [HSZ2.out]; exact HTZ.out.there 0 576 (by omega))))
              | (with_reducible refine wpList_store_mid (op := ⟨none, _, _, _, _, _⟩) rfl 44 _ _ rfl w7.heap.size 0 (tabL t2 ev2).toArray rfl rfl HTH.out HISZ.out HONE.out ?_))
            try simp only [Act.put]
            have HB14 : Hid (TabB ((w7.alloc (.cells Try.zeroCells44 44)).setCells w7.heap.size 0 (tabL t2 ev2)) w7.heap.size t2 ev2) := HTZ.out.whole HKP.out.1.len
            have hwc7 := hb7.size
            have HM8 : Hid (Mod nob wc ((w7.alloc (.cells Try.zeroCells44 44)).setCells w7.heap.size 0 (tabL t2 ev2))) := Mod.setCells w7.heap.size (.inr hwc7) _ _ _ ((mod_of_below hb7).alloc _)
            generalize (w7.alloc (.cells Try.zeroCells44 44)).setCells w7.heap.size 0 (tabL t2 ev2) = w8 at *
            obtain ⟨B14, hB14⟩ : ∃ B, B = w7.heap.size := ⟨_, rfl⟩
            rw [← hB14] at HB14 ⊢
            clear hB14 HTZ HTH hb7 hwc7 HA1 HA2 HL1 HL2 HD2
            have HR14 := Lib.hid HB14.out.all
            have HT8 := Lib.hid (HTC.out.mod HM8.out (fun h => h))
            have HTH : Hid (w8.there BT 0 (tabL t2 ev2).toArray.size) := by unfold Hid; rw [HSZ2.out]; exact HT8.out.there 0 576 (by omega)
            go_upto_region 25 with (first
              | (with_reducible refine wpList_load_mid (op := ⟨some 87, _, _, _, _, _⟩) rfl 44 _ rfl B14 0 rfl (tabL t2 ev2) _ HR14.out HU44.out rfl HISL.out ?_)
              | (with_reducible refine wpList_store_mid (op := ⟨none, _, _, _, _, _⟩) rfl 44 _ _ rfl BT 0 (tabL t2 ev2).toArray rfl rfl HTH.out HISZ.out HONE.out ?_))
            try simp only [Act.put]
            have HT9 : Hid (TabB (w8.setCells BT 0 (tabL t2 ev2)) BT t2 ev2) := HT8.out.whole HKP.out.1.len
            have HM9 : Hid (Mod (fun b => b = BT) wc (w8.setCells BT 0 (tabL t2 ev2))) := Mod.setCells (D := fun b => b = BT) BT (.inl rfl) _ _ _ (HM8.out.mono (fun _ _ h => h.elim))
            have HM09 : Hid (Mod nob w0 (w8.setCells BT 0 (tabL t2 ev2))) := Mod.setCells BT (.inr HBT.out) _ _ _ (HMC.out.step HM8.out (fun _ h => h))
            generalize w8.setCells BT 0 (tabL t2 ev2) = w9 at *
            clear HM8 HTC HT8 HR14 HB14 HTH HISZ HONE HSZ2
            obtain ⟨D2, hD2⟩ : ∃ D', D' = grow D w5 wc := ⟨_, rfl⟩
            have hkc := HKC.out.1
            rw [← hD2] at hkc
            have HAP : Hid (¬ D2 BT) := fun h => by
              rw [hD2] at h
              rcases h with h | h
              · exact HP.out.apart h
              · have h1 := HP.out.box.lt
                have h2 := HM5.out.size
                omega
            have HNW2 : Hid (∀ b, D2 b → w0.heap.size ≤ b) := fun b h => by
              rw [hD2] at h
              rcases h with h | h
              · exact HP.out.new b h
              · have h1 := HP.out.mod.size
                have h2 := HM5.out.size
                omega
            have HS9 : Hid (SheetAt w9 p D2 rS) := hkc.mod HM9.out (fun b h e => HAP.out (e ▸ h))
            have HWP : Hid (rS.was.length ≤ 3100 * (k + 1)) := by have h1 := HWS.out; have h2 := HP.out.was; unfold Hid; omega
            clear hkc hD2 HKC HM9 HMC HM5 HP HO5 HOC HXD HXR HWR
            have HRT : Hid (w9.drew.rangeAt BT 0 (tabL t2 ev2)) := (HT9.out.mod ((Mod.refl nob w9).drew) (fun h => h)).all
            have HFR : Hid (Calls Try.prog 19 #[.pointer (some ⟨p, 0, none⟩)] w9.drew fun e w' => e = .returned (.int .i64 (freeN rS : Nat)) ∧ w9.drew = w') := free_any (HS9.out.mod ((Mod.refl nob w9).drew) (fun _ _ h => h))
            obtain ⟨F, hF⟩ : ∃ F, F = freeN rS := ⟨_, rfl⟩
            rw [← hF] at HFR
            obtain ⟨U, hU⟩ : ∃ u, u = usedT t2 32 := ⟨_, rfl⟩
            have HUS : Hid (Calls Try.prog 25 #[.agg (tabL t2 ev2).toArray] w9.drew fun e w' => e = .returned (.int .i64 (U : Nat)) ∧ Below w9.drew.heap.size w9.drew w') := by
              rw [hU]
              exact used_tab HKP.out.1 (HKP.out.2.still (HM09.out.step ((Mod.refl nob w9).drew) (fun _ h => h)))
            have hful2 : U ≤ 1280 := by rw [hU]; omega
            have hFU : F + U = room := by rw [hF, hU]; exact HCNT.out
            have HFU : Hid ((room : Int) - (U : Int) = (F : Int)) := by unfold Hid; omega
            clear hF hU hful HCNT
            have iU : IntKind.i64.wrap ((room : Int) - (U : Int)) = (room : Int) - (U : Int) := by rw [IntKind.wrap_i64]; omega
            have dFU : decide ((F : Int) = (room : Int) - (U : Int)) = true := decide_eq_true (by omega)
            obtain ⟨AT, hAT⟩ : ∃ v, v = Value.agg (tabL t2 ev2).toArray := ⟨_, rfl⟩
            rw [← hAT] at HUS
            have HAT := Lib.hid hAT
            clear hAT hFU
            by_cases hre : re = 0
            · subst hre
              obtain rfl : rn = mm := hst2 rfl
              refine wp_region_noPanic ?_
              refine wp_region_held_drew (S := fun w' => w'.rangeAt BT 0 (tabL t2 ev2)) (by kernel_rfl) HRT.out (fun hHeld => ?_)
              refine wpAnyH_take (i := 0) (v := .int .i64 0) rfl (by kernel_rfl) (by kernel_rfl) (by kernel_rfl) (fun _ _ _ h => h) (Or.inl ⟨by kernel_rfl, ?_⟩) hHeld ?_
              case refine_1 =>
                rintro wx -
                go_simp
              change wpAnyH _ _ _ _ _ _ _ (Act.put _ (some 88) _) _
              simp only [Act.put, List.setIfInBounds_toArray, List.set_cons_zero, List.set_cons_succ]
              refine wpAnyH_take (i := 1) (v := .int .i64 0) rfl (by kernel_rfl) (by kernel_rfl) (by kernel_rfl) (fun _ _ _ h => h) (Or.inl ⟨by kernel_rfl, ?_⟩) hHeld ?_
              case refine_1 =>
                rintro wx -
                go_simp
              change wpAnyH _ _ _ _ _ _ _ (Act.put _ (some 89) _) _
              simp only [Act.put, List.setIfInBounds_toArray, List.set_cons_zero, List.set_cons_succ]
              refine wpAnyH_take (i := 2) (v := .bool false) rfl (by kernel_rfl) (by kernel_rfl) (by kernel_rfl) (fun _ _ _ h => h) (Or.inl ⟨by kernel_rfl, ?_⟩) hHeld ?_
              case refine_1 =>
                rintro wx -
                go_simp
              change wpAnyH _ _ _ _ _ _ _ (Act.put _ (some 90) _) _
              simp only [Act.put, List.setIfInBounds_toArray, List.set_cons_zero, List.set_cons_succ]
              refine wpAnyH_take (i := 3) (v := .bool false) rfl (by kernel_rfl) (by kernel_rfl) (by kernel_rfl) (fun _ _ _ h => h) (Or.inl ⟨by kernel_rfl, ?_⟩) hHeld ?_
              case refine_1 =>
                rintro wx -
                go_simp
              change wpAnyH _ _ _ _ _ _ _ (Act.put _ (some 91) _) _
              simp only [Act.put, List.setIfInBounds_toArray, List.set_cons_zero, List.set_cons_succ]
              refine wpAnyH_take (i := 4) (v := .int .i64 0) rfl (by kernel_rfl) (by kernel_rfl) (by kernel_rfl) (fun _ _ _ h => h) (Or.inl ⟨by kernel_rfl, ?_⟩) hHeld ?_
              case refine_1 =>
                rintro wx -
                go_simp
              change wpAnyH _ _ _ _ _ _ _ (Act.put _ (some 92) _) _
              simp only [Act.put, List.setIfInBounds_toArray, List.set_cons_zero, List.set_cons_succ]
              refine wpAnyH_take (i := 5) (v := .bool true) rfl (by kernel_rfl) (by kernel_rfl) (by kernel_rfl) (fun _ _ _ h => h) (Or.inl ⟨by kernel_rfl, ?_⟩) hHeld ?_
              case refine_1 =>
                rintro wx -
                go_simp
              change wpAnyH _ _ _ _ _ _ _ (Act.put _ (some 93) _) _
              simp only [Act.put, List.setIfInBounds_toArray, List.set_cons_zero, List.set_cons_succ]
              refine wpAnyH_take (i := 6) (v := .bool true) rfl (by kernel_rfl) (by kernel_rfl) (by kernel_rfl) (fun _ _ _ h => h) (Or.inl ⟨by kernel_rfl, ?_⟩) hHeld ?_
              case refine_1 =>
                rintro wx -
                go_simp
              change wpAnyH _ _ _ _ _ _ _ (Act.put _ (some 94) _) _
              simp only [Act.put, List.setIfInBounds_toArray, List.set_cons_zero, List.set_cons_succ]
              refine wpAnyH_take (i := 7) (v := .int .i64 rn) rfl (by kernel_rfl) (by kernel_rfl) (by kernel_rfl) (fun _ _ _ h => h) (Or.inl ⟨by kernel_rfl, ?_⟩) hHeld ?_
              case refine_1 =>
                rintro wx -
                go_simp
              change wpAnyH _ _ _ _ _ _ _ (Act.put _ (some 95) _) _
              simp only [Act.put, List.setIfInBounds_toArray, List.set_cons_zero, List.set_cons_succ]
              refine wpAnyH_take (i := 8) (v := .int .i64 rn) rfl (by kernel_rfl) (by kernel_rfl) (by kernel_rfl) (fun _ _ _ h => h) (Or.inl ⟨by kernel_rfl, ?_⟩) hHeld ?_
              case refine_1 =>
                rintro wx -
                go_simp
              change wpAnyH _ _ _ _ _ _ _ (Act.put _ (some 96) _) _
              simp only [Act.put, List.setIfInBounds_toArray, List.set_cons_zero, List.set_cons_succ]
              refine wpAnyH_take (i := 9) (v := .bool false) rfl (by kernel_rfl) (by kernel_rfl) (by kernel_rfl) (fun _ _ _ h => h) (Or.inl ⟨by kernel_rfl, ?_⟩) hHeld ?_
              case refine_1 =>
                rintro wx -
                go_simp
              change wpAnyH _ _ _ _ _ _ _ (Act.put _ (some 97) _) _
              simp only [Act.put, List.setIfInBounds_toArray, List.set_cons_zero, List.set_cons_succ]
              refine wpAnyH_take (i := 10) (v := .bool false) rfl (by kernel_rfl) (by kernel_rfl) (by kernel_rfl) (fun _ _ _ h => h) (Or.inl ⟨by kernel_rfl, ?_⟩) hHeld ?_
              case refine_1 =>
                rintro wx -
                go_simp
              change wpAnyH _ _ _ _ _ _ _ (Act.put _ (some 98) _) _
              simp only [Act.put, List.setIfInBounds_toArray, List.set_cons_zero, List.set_cons_succ]
              refine wpAnyH_take (i := 11) (v := .bool false) rfl (by kernel_rfl) (by kernel_rfl) (by kernel_rfl) (fun _ _ _ h => h) (Or.inl ⟨by kernel_rfl, ?_⟩) hHeld ?_
              case refine_1 =>
                rintro wx -
                go_simp
              change wpAnyH _ _ _ _ _ _ _ (Act.put _ (some 99) _) _
              simp only [Act.put, List.setIfInBounds_toArray, List.set_cons_zero, List.set_cons_succ]
              refine wpAnyH_take (i := 12) (v := .bool false) rfl (by kernel_rfl) (by kernel_rfl) (by kernel_rfl) (fun _ _ _ h => h) (Or.inl ⟨by kernel_rfl, ?_⟩) hHeld ?_
              case refine_1 =>
                rintro wx -
                go_simp
              change wpAnyH _ _ _ _ _ _ _ (Act.put _ (some 100) _) _
              simp only [Act.put, List.setIfInBounds_toArray, List.set_cons_zero, List.set_cons_succ]
              refine wpAnyH_take (i := 13) (v := .pointer (some ⟨p, 0, none⟩)) rfl (by kernel_rfl) (by kernel_rfl) (by kernel_rfl) (fun _ _ _ h => h) (Or.inl ⟨by kernel_rfl, ?_⟩) hHeld ?_
              case refine_1 =>
                rintro wx -
                go_simp
              change wpAnyH _ _ _ _ _ _ _ (Act.put _ (some 101) _) _
              simp only [Act.put, List.setIfInBounds_toArray, List.set_cons_zero, List.set_cons_succ]
              refine wpAnyH_take (i := 15) (v := .int .i64 (room : Int)) rfl (by kernel_rfl) (by kernel_rfl) (by kernel_rfl) (fun _ _ _ h => h) (Or.inl ⟨by kernel_rfl, ?_⟩) hHeld ?_
              case refine_1 =>
                rintro wx -
                go_simp
              change wpAnyH _ _ _ _ _ _ _ (Act.put _ (some 103) _) _
              simp only [Act.put, List.setIfInBounds_toArray, List.set_cons_zero, List.set_cons_succ]
              refine wpAnyH_take (i := 16) (oi := ⟨some 104, .load 44 (.tmp 7), 44, _, _, some (12, false)⟩) (v := AT) rfl (by kernel_rfl) (by kernel_rfl) (by kernel_rfl) (fun _ _ _ h => h) (by rw [HAT.out]; exact yieldsIf_load_mid (by kernel_rfl) 44 (.tmp 7) rfl BT 0 rfl _ _ (fun _ h => h) HU44.out rfl HISL.out) hHeld ?_
              change wpAnyH _ _ _ _ _ _ _ (Act.put _ (some 104) _) _
              simp only [Act.put, List.setIfInBounds_toArray, List.set_cons_zero, List.set_cons_succ]
              refine wpAnyH_ready (rs := [14]) (by kernel_rfl) (by simp) ?_
              refine AllReadyH.cons rfl (fun K hK => ?_) AllReadyH.nil
              go_simp
              refine HFR.out.mono ?_
              rintro e w' ⟨rfl, rfl⟩
              go_wp2_with fail
              refine hK.out _ _ HRT.out (fun hHeld1 => ?_)
              clear hK K
              try simp only [Act.put, List.setIfInBounds_toArray, List.set_cons_zero, List.set_cons_succ]
              refine wpAnyH_ready (rs := [17]) (by kernel_rfl) (by simp) ?_
              refine AllReadyH.cons rfl (fun K hK => ?_) AllReadyH.nil
              go_simp
              refine HUS.out.mono ?_
              rintro e w10 ⟨rfl, hb10⟩
              have HX10 : Hid (Mod nob w9.drew w10) := mod_of_below hb10
              clear hb10
              go_wp2_with fail
              refine hK.out _ _ (fun j v hj => HX10.out.cell (HRT.out j v hj) (fun h => h)) (fun hHeld2 => ?_)
              clear hK K
              try simp only [Act.put, List.setIfInBounds_toArray, List.set_cons_zero, List.set_cons_succ]
              refine wpAnyH_take (i := 18) (v := .int .i64 ((room : Int) - (U : Int))) rfl (by kernel_rfl) (by kernel_rfl) (by kernel_rfl) (fun _ _ _ h => h) (Or.inl ⟨by kernel_rfl, ?_⟩) hHeld2 ?_
              case refine_1 =>
                rintro wx -
                go_simp
              change wpAnyH _ _ _ _ _ _ _ (Act.put _ (some 106) _) _
              simp only [Act.put, List.setIfInBounds_toArray, List.set_cons_zero, List.set_cons_succ]
              refine wpAnyH_take (i := 19) (v := .bool false) rfl (by kernel_rfl) (by kernel_rfl) (by kernel_rfl) (fun _ _ _ h => h) (Or.inl ⟨by kernel_rfl, ?_⟩) hHeld2 ?_
              case refine_1 =>
                rintro wx -
                go_simp
                rw [HFU.out]
              change wpAnyH _ _ _ _ _ _ _ (Act.put _ (some 107) _) _
              simp only [Act.put, List.setIfInBounds_toArray, List.set_cons_zero, List.set_cons_succ]
              refine wpAnyH_take (i := 20) (v := .bool false) rfl (by kernel_rfl) (by kernel_rfl) (by kernel_rfl) (fun _ _ _ h => h) (Or.inl ⟨by kernel_rfl, ?_⟩) hHeld2 ?_
              case refine_1 =>
                rintro wx -
                go_simp
              change wpAnyH _ _ _ _ _ _ _ (Act.put _ (some 108) _) _
              simp only [Act.put, List.setIfInBounds_toArray, List.set_cons_zero, List.set_cons_succ]
              refine wpAnyH_done (by kernel_rfl) ?_ _
              refine NoPanic.normal ?_
              have HM10 : Hid (Mod nob w9 w10) := ((Mod.refl nob w9).drew).step HX10.out (fun _ h => h)
              have HP2 : Hid (∃ S t ev D, PlayR w0 w10 p BT room (k + 1) S t ev D) := ⟨rS, t2, ev2, D2, HST.out, HKP.out.1, HKP.out.2, HOD.out, HS9.out.mod HM10.out (fun _ _ h => h), HAP.out, HNW2.out, HM09.out.step HM10.out (fun _ h => h), HT9.out.mod HM10.out (fun h => h), HWP.out⟩
              clear HM10 HX10 hHeld hHeld1 hHeld2 HRT HFR HUS HS9 HT9 HWP
              go_wp2_with fail
              go_roundg (gk - 1)
              case measure => omega
              case rel => exact ⟨k + 1, by omega, by go_num, HP2.out⟩
            · have hre' : decide (re = 0) = false := decide_eq_false hre
              refine wp_region_noPanic ?_
              refine wp_region_held_drew (S := fun w' => w'.rangeAt BT 0 (tabL t2 ev2)) (by kernel_rfl) HRT.out (fun hHeld => ?_)
              refine wpAnyH_take (i := 0) (v := .int .i64 re) rfl (by kernel_rfl) (by kernel_rfl) (by kernel_rfl) (fun _ _ _ h => h) (Or.inl ⟨by kernel_rfl, ?_⟩) hHeld ?_
              case refine_1 =>
                rintro wx -
                go_simp
              change wpAnyH _ _ _ _ _ _ _ (Act.put _ (some 88) _) _
              simp only [Act.put, List.setIfInBounds_toArray, List.set_cons_zero, List.set_cons_succ]
              refine wpAnyH_take (i := 1) (v := .int .i64 re) rfl (by kernel_rfl) (by kernel_rfl) (by kernel_rfl) (fun _ _ _ h => h) (Or.inl ⟨by kernel_rfl, ?_⟩) hHeld ?_
              case refine_1 =>
                rintro wx -
                go_simp
              change wpAnyH _ _ _ _ _ _ _ (Act.put _ (some 89) _) _
              simp only [Act.put, List.setIfInBounds_toArray, List.set_cons_zero, List.set_cons_succ]
              refine wpAnyH_take (i := 2) (v := .bool false) rfl (by kernel_rfl) (by kernel_rfl) (by kernel_rfl) (fun _ _ _ h => h) (Or.inl ⟨by kernel_rfl, ?_⟩) hHeld ?_
              case refine_1 =>
                rintro wx -
                go_simp
              change wpAnyH _ _ _ _ _ _ _ (Act.put _ (some 90) _) _
              simp only [Act.put, List.setIfInBounds_toArray, List.set_cons_zero, List.set_cons_succ]
              refine wpAnyH_take (i := 3) (v := .bool false) rfl (by kernel_rfl) (by kernel_rfl) (by kernel_rfl) (fun _ _ _ h => h) (Or.inl ⟨by kernel_rfl, ?_⟩) hHeld ?_
              case refine_1 =>
                rintro wx -
                go_simp
              change wpAnyH _ _ _ _ _ _ _ (Act.put _ (some 91) _) _
              simp only [Act.put, List.setIfInBounds_toArray, List.set_cons_zero, List.set_cons_succ]
              refine wpAnyH_take (i := 4) (v := .int .i64 re) rfl (by kernel_rfl) (by kernel_rfl) (by kernel_rfl) (fun _ _ _ h => h) (Or.inl ⟨by kernel_rfl, ?_⟩) hHeld ?_
              case refine_1 =>
                rintro wx -
                go_simp
              change wpAnyH _ _ _ _ _ _ _ (Act.put _ (some 92) _) _
              simp only [Act.put, List.setIfInBounds_toArray, List.set_cons_zero, List.set_cons_succ]
              refine wpAnyH_take (i := 5) (v := .bool false) rfl (by kernel_rfl) (by kernel_rfl) (by kernel_rfl) (fun _ _ _ h => h) (Or.inl ⟨by kernel_rfl, ?_⟩) hHeld ?_
              case refine_1 =>
                rintro wx -
                go_simp
              change wpAnyH _ _ _ _ _ _ _ (Act.put _ (some 93) _) _
              simp only [Act.put, List.setIfInBounds_toArray, List.set_cons_zero, List.set_cons_succ]
              refine wpAnyH_take (i := 6) (v := .bool false) rfl (by kernel_rfl) (by kernel_rfl) (by kernel_rfl) (fun _ _ _ h => h) (Or.inl ⟨by kernel_rfl, ?_⟩) hHeld ?_
              case refine_1 =>
                rintro wx -
                go_simp
              change wpAnyH _ _ _ _ _ _ _ (Act.put _ (some 94) _) _
              simp only [Act.put, List.setIfInBounds_toArray, List.set_cons_zero, List.set_cons_succ]
              refine wpAnyH_take (i := 7) (v := undef) rfl (by kernel_rfl) (by kernel_rfl) (by kernel_rfl) (fun _ _ _ h => h) (Or.inr ⟨by kernel_rfl, rfl⟩) hHeld ?_
              change wpAnyH _ _ _ _ _ _ _ (Act.put _ (some 95) _) _
              simp only [Act.put, List.setIfInBounds_toArray, List.set_cons_zero, List.set_cons_succ]
              refine wpAnyH_take (i := 8) (v := undef) rfl (by kernel_rfl) (by kernel_rfl) (by kernel_rfl) (fun _ _ _ h => h) (Or.inr ⟨by kernel_rfl, rfl⟩) hHeld ?_
              change wpAnyH _ _ _ _ _ _ _ (Act.put _ (some 96) _) _
              simp only [Act.put, List.setIfInBounds_toArray, List.set_cons_zero, List.set_cons_succ]
              refine wpAnyH_take (i := 9) (v := undef) rfl (by kernel_rfl) (by kernel_rfl) (by kernel_rfl) (fun _ _ _ h => h) (Or.inr ⟨by kernel_rfl, rfl⟩) hHeld ?_
              change wpAnyH _ _ _ _ _ _ _ (Act.put _ (some 97) _) _
              simp only [Act.put, List.setIfInBounds_toArray, List.set_cons_zero, List.set_cons_succ]
              refine wpAnyH_take (i := 10) (v := .bool false) rfl (by kernel_rfl) (by kernel_rfl) (by kernel_rfl) (fun _ _ _ h => h) (Or.inl ⟨by kernel_rfl, ?_⟩) hHeld ?_
              case refine_1 =>
                rintro wx -
                go_simp
              change wpAnyH _ _ _ _ _ _ _ (Act.put _ (some 98) _) _
              simp only [Act.put, List.setIfInBounds_toArray, List.set_cons_zero, List.set_cons_succ]
              refine wpAnyH_take (i := 11) (v := .bool false) rfl (by kernel_rfl) (by kernel_rfl) (by kernel_rfl) (fun _ _ _ h => h) (Or.inl ⟨by kernel_rfl, ?_⟩) hHeld ?_
              case refine_1 =>
                rintro wx -
                go_simp
              change wpAnyH _ _ _ _ _ _ _ (Act.put _ (some 99) _) _
              simp only [Act.put, List.setIfInBounds_toArray, List.set_cons_zero, List.set_cons_succ]
              refine wpAnyH_take (i := 12) (v := .bool false) rfl (by kernel_rfl) (by kernel_rfl) (by kernel_rfl) (fun _ _ _ h => h) (Or.inl ⟨by kernel_rfl, ?_⟩) hHeld ?_
              case refine_1 =>
                rintro wx -
                go_simp
              change wpAnyH _ _ _ _ _ _ _ (Act.put _ (some 100) _) _
              simp only [Act.put, List.setIfInBounds_toArray, List.set_cons_zero, List.set_cons_succ]
              refine wpAnyH_take (i := 13) (v := .pointer (some ⟨p, 0, none⟩)) rfl (by kernel_rfl) (by kernel_rfl) (by kernel_rfl) (fun _ _ _ h => h) (Or.inl ⟨by kernel_rfl, ?_⟩) hHeld ?_
              case refine_1 =>
                rintro wx -
                go_simp
              change wpAnyH _ _ _ _ _ _ _ (Act.put _ (some 101) _) _
              simp only [Act.put, List.setIfInBounds_toArray, List.set_cons_zero, List.set_cons_succ]
              refine wpAnyH_take (i := 15) (v := .int .i64 (room : Int)) rfl (by kernel_rfl) (by kernel_rfl) (by kernel_rfl) (fun _ _ _ h => h) (Or.inl ⟨by kernel_rfl, ?_⟩) hHeld ?_
              case refine_1 =>
                rintro wx -
                go_simp
              change wpAnyH _ _ _ _ _ _ _ (Act.put _ (some 103) _) _
              simp only [Act.put, List.setIfInBounds_toArray, List.set_cons_zero, List.set_cons_succ]
              refine wpAnyH_take (i := 16) (oi := ⟨some 104, .load 44 (.tmp 7), 44, _, _, some (12, false)⟩) (v := AT) rfl (by kernel_rfl) (by kernel_rfl) (by kernel_rfl) (fun _ _ _ h => h) (by rw [HAT.out]; exact yieldsIf_load_mid (by kernel_rfl) 44 (.tmp 7) rfl BT 0 rfl _ _ (fun _ h => h) HU44.out rfl HISL.out) hHeld ?_
              change wpAnyH _ _ _ _ _ _ _ (Act.put _ (some 104) _) _
              simp only [Act.put, List.setIfInBounds_toArray, List.set_cons_zero, List.set_cons_succ]
              refine wpAnyH_ready (rs := [14]) (by kernel_rfl) (by simp) ?_
              refine AllReadyH.cons rfl (fun K hK => ?_) AllReadyH.nil
              go_simp
              refine HFR.out.mono ?_
              rintro e w' ⟨rfl, rfl⟩
              go_wp2_with fail
              refine hK.out _ _ HRT.out (fun hHeld1 => ?_)
              clear hK K
              try simp only [Act.put, List.setIfInBounds_toArray, List.set_cons_zero, List.set_cons_succ]
              refine wpAnyH_ready (rs := [17]) (by kernel_rfl) (by simp) ?_
              refine AllReadyH.cons rfl (fun K hK => ?_) AllReadyH.nil
              go_simp
              refine HUS.out.mono ?_
              rintro e w10 ⟨rfl, hb10⟩
              have HX10 : Hid (Mod nob w9.drew w10) := mod_of_below hb10
              clear hb10
              go_wp2_with fail
              refine hK.out _ _ (fun j v hj => HX10.out.cell (HRT.out j v hj) (fun h => h)) (fun hHeld2 => ?_)
              clear hK K
              try simp only [Act.put, List.setIfInBounds_toArray, List.set_cons_zero, List.set_cons_succ]
              refine wpAnyH_take (i := 18) (v := .int .i64 ((room : Int) - (U : Int))) rfl (by kernel_rfl) (by kernel_rfl) (by kernel_rfl) (fun _ _ _ h => h) (Or.inl ⟨by kernel_rfl, ?_⟩) hHeld2 ?_
              case refine_1 =>
                rintro wx -
                go_simp
              change wpAnyH _ _ _ _ _ _ _ (Act.put _ (some 106) _) _
              simp only [Act.put, List.setIfInBounds_toArray, List.set_cons_zero, List.set_cons_succ]
              refine wpAnyH_take (i := 19) (v := .bool false) rfl (by kernel_rfl) (by kernel_rfl) (by kernel_rfl) (fun _ _ _ h => h) (Or.inl ⟨by kernel_rfl, ?_⟩) hHeld2 ?_
              case refine_1 =>
                rintro wx -
                go_simp
                rw [HFU.out]
              change wpAnyH _ _ _ _ _ _ _ (Act.put _ (some 107) _) _
              simp only [Act.put, List.setIfInBounds_toArray, List.set_cons_zero, List.set_cons_succ]
              refine wpAnyH_take (i := 20) (v := .bool false) rfl (by kernel_rfl) (by kernel_rfl) (by kernel_rfl) (fun _ _ _ h => h) (Or.inl ⟨by kernel_rfl, ?_⟩) hHeld2 ?_
              case refine_1 =>
                rintro wx -
                go_simp
              change wpAnyH _ _ _ _ _ _ _ (Act.put _ (some 108) _) _
              simp only [Act.put, List.setIfInBounds_toArray, List.set_cons_zero, List.set_cons_succ]
              refine wpAnyH_done (by kernel_rfl) ?_ _
              refine NoPanic.normal ?_
              have HM10 : Hid (Mod nob w9 w10) := ((Mod.refl nob w9).drew).step HX10.out (fun _ h => h)
              have HP2 : Hid (∃ S t ev D, PlayR w0 w10 p BT room (k + 1) S t ev D) := ⟨rS, t2, ev2, D2, HST.out, HKP.out.1, HKP.out.2, HOD.out, HS9.out.mod HM10.out (fun _ _ h => h), HAP.out, HNW2.out, HM09.out.step HM10.out (fun _ h => h), HT9.out.mod HM10.out (fun h => h), HWP.out⟩
              clear HM10 HX10 hHeld hHeld1 hHeld2 HRT HFR HUS HS9 HT9 HWP
              go_wp2_with fail
              go_roundg (gk - 1)
              case measure => omega
              case rel => exact ⟨k + 1, by omega, by go_num, HP2.out⟩
      · have hge : ¬ (k : Int) < (m0 : Int) := by omega
        obtain rfl : k = m0 := by omega
        obtain ⟨S, t, ev, D, hP⟩ := HPR.out
        have HP := Lib.hid hP
        obtain ⟨w1, hw1⟩ : ∃ x : World, x = wr := ⟨_, rfl⟩
        rw [← hw1] at HP ⊢
        clear hP HPR hw1
        have HB1 : Hid (Below w.heap.size w w1) := HBEL.out.trans (HP.out.mod.below (by have := HZ.out; have := HN0.out; omega) (fun b h => h.elim))
        have HS1 : Hid (SheetAt w1 p D S) := HP.out.sheet
        have HT1 : Hid (TabB w1 BT t ev) := HP.out.box
        have HE1 : Hid (HoldsT w1 t ev) := HP.out.holds.still HP.out.mod
        have HR1 : Hid (RightT t) := HP.out.right
        obtain ⟨xs, htr⟩ := HP.out.tab
        have HTR := Lib.hid htr
        clear HP htr HL HZ HN0 HBEL hk
        go_wp2_with fail
        go_loopg [17] 34 (fun gk iv wr => ∃ j : Int, j + (gk : Int) = 33 ∧ -1 ≤ j ∧ iv = .int .i64 j ∧ Hid (Mod nob w1 wr))
        case atStart => exact ⟨-1, by omega, by omega, rfl, Mod.refl nob w1⟩
        case round =>
          obtain ⟨j, hj, hj1, rfl, HMW⟩ := hrel
          by_cases hlt : j < 33
          · have HSW := Lib.hid (HS1.out.mod HMW.out (fun _ _ h => h))
            by_cases hout : j < 0 ∨ 31 < j
            · have e1 : getE S j = 1 := by unfold getE; rw [if_pos (by omega)]
              have e2 : getR S j = none := by unfold getR; rw [if_pos (by omega)]
              have e3 : freeI S j = false := freeI_false (by omega)
              have HG : Hid (Calls Try.prog 26 #[.pointer (some ⟨p, 0, none⟩), .int .i64 j] wr fun e w' => e = .returned (.tuple #[.agg (inoL ino0 (.slice none 0 0)).toArray, .slice none 0 0, .int .i64 1]) ∧ Below wr.heap.size wr w') := by
                have h := get_ino HSW.out j
                rw [e1, e2] at h
                exact h.mono (fun e w' hq => ⟨hq.2, hq.1⟩)
              have HFI : Hid (∀ wx D', SheetAt wx p D' S → Calls Try.prog 27 #[.pointer (some ⟨p, 0, none⟩), .int .i64 j] wx fun e w' => e = .returned (.bool false) ∧ wx = w') := fun wx D' h => by
                have := ino_free h j
                rw [e3] at this
                exact this
              clear e1 e2 e3
              rcases hout with hout | hout
              all_goals
                try have hout2 : ¬ j < 0 := by omega
                go_wp2_with fail
                refine HG.out.mono ?_
                rintro e w7 ⟨rfl, hb7⟩
                have HB7 := Lib.hid hb7
                clear hb7
                have hszA : (inoL ino0 (.slice none 0 0)).toArray.size = 18 := by rw [List.size_toArray]; exact inoL_len (show ino0.bl.length = 13 from rfl) _
                have HISZ : Hid ((Try.prog.info? 25).map (·.size) = some (inoL ino0 (.slice none 0 0)).toArray.size) := by unfold Hid; rw [hszA]; exact Try.info18
                have HISM : Hid ((Try.prog.info? 25).map (·.size) = some (inoL ino0 (.slice none 0 0)).length) := by unfold Hid; rw [inoL_len (show ino0.bl.length = 13 from rfl)]; exact Try.info18
                have HONE : Hid ((inoL ino0 (.slice none 0 0)).toArray.all (·.oneCell') = true) := all_oneCell_toArray (inoL_one rfl)
                have HTH : Hid ((w7.alloc (.cells z18 25)).there w7.heap.size 0 (inoL ino0 (.slice none 0 0)).toArray.size) := by unfold Hid; rw [hszA]; exact ino_there w7 _
                have HROW := Lib.hid (ino_row w7 25 (inoL ino0 (.slice none 0 0)) (inoL_len (show ino0.bl.length = 13 from rfl) _))
                clear hszA
                go_upto_region 31 with (with_reducible refine wpList_store_mid (op := ⟨none, _, _, _, _, _⟩) rfl 25 _ _ rfl w7.heap.size 0 (inoL ino0 (.slice none 0 0)).toArray rfl rfl HTH.out HISZ.out HONE.out ?_)
                try simp only [Act.put]
                have HHP : Hid (((w7.alloc (.cells z18 25)).setCells w7.heap.size 0 (inoL ino0 (.slice none 0 0))).heap[w7.heap.size]? = some (.cells (inoL ino0 (.slice none 0 0)).toArray 25 (0, 0))) := HROW.out.1
                have HMX : Hid (Mod nob w7 ((w7.alloc (.cells z18 25)).setCells w7.heap.size 0 (inoL ino0 (.slice none 0 0)))) := mod_of_below HROW.out.2
                clear HROW HTH HISZ HONE
                generalize (w7.alloc (.cells z18 25)).setCells w7.heap.size 0 (inoL ino0 (.slice none 0 0)) = w8 at *
                obtain ⟨X, hX⟩ : ∃ X, X = w7.heap.size := ⟨_, rfl⟩
                rw [← hX] at HHP ⊢
                clear hX
                have HM8 : Hid (Mod nob wr w8) := (mod_of_below HB7.out).step HMX.out (fun _ h => h)
                have HM18 : Hid (Mod nob w1 w8) := HMW.out.step HM8.out (fun _ h => h)
                have HS8 := Lib.hid (HS1.out.mod HM18.out (fun _ _ h => h))
                have HT8 := Lib.hid (HT1.out.mod HM18.out (fun h => h))
                have HM9 : Hid (Mod nob w1 w8) := HM18.out
                clear HMX HHP HISM
                go_wp2_with (first
                  | (go_at_call 27; refine (HFI.out _ _ HS8.out).mono ?_; rintro e w' ⟨rfl, rfl⟩))
                go_roundg (gk - 1)
                case measure => omega
                case rel => exact ⟨j + 1, by omega, by omega, by go_num, HM9⟩
            · have hn0 : ¬ j < 0 := by omega
              have hn31 : ¬ 31 < j := by omega
              obtain ⟨i, rfl⟩ := Int.eq_ofNat_of_zero_le (show 0 ≤ j by omega)
              have hi32 : i < 32 := by omega
              have hlt32 : (i : Int) < 32 := by omega
              clear hout
              have HFI : Hid (∀ wx D', SheetAt wx p D' S → Calls Try.prog 27 #[.pointer (some ⟨p, 0, none⟩), .int .i64 (i : Nat)] wx fun e w' => e = .returned (.bool (freeI S (i : Nat))) ∧ wx = w') := fun wx D' h => ino_free h (i : Nat)
              have hget := HTR.out.get hi32
              rcases hget with ⟨h0, e3, e1, e2, -⟩ | ⟨h0, -, e1, e2, -⟩
              · have HG : Hid (Calls Try.prog 26 #[.pointer (some ⟨p, 0, none⟩), .int .i64 (i : Nat)] wr fun e w' => e = .returned (.tuple #[.agg (inoL ino0 (.slice none 0 0)).toArray, .slice none 0 0, .int .i64 2]) ∧ Below wr.heap.size wr w') := by
                  have h := get_ino HSW.out (i : Nat)
                  rw [e1, e2] at h
                  exact h.mono (fun e w' hq => ⟨hq.2, hq.1⟩)
                have HAL : Hid (∀ wx D', SheetAt wx p D' S → Calls Try.prog 28 #[.pointer (some ⟨p, 0, none⟩), .int .i64 (i : Nat)] wx fun e w' => ∃ ao c, e = .returned (.slice ao (0 : Nat) c) ∧ Below wx.heap.size wx w') := fun wx D' h => by
                  have h1 := all_ino h (i : Nat)
                  have h2 : allI S (i : Nat) = [] := by unfold allI; rw [e2]
                  rw [h2] at h1
                  refine h1.mono ?_
                  rintro e w' ⟨v, rfl, ⟨ao, c, rfl, -⟩, -, hb⟩
                  exact ⟨ao, c, rfl, hb⟩
                rw [e3] at HFI
                clear e1 e2 e3
                go_wp2_with fail
                refine HG.out.mono ?_
                rintro e w7 ⟨rfl, hb7⟩
                have HB7 := Lib.hid hb7
                clear hb7
                have hszA : (inoL ino0 (.slice none 0 0)).toArray.size = 18 := by rw [List.size_toArray]; exact inoL_len (show ino0.bl.length = 13 from rfl) _
                have HISZ : Hid ((Try.prog.info? 25).map (·.size) = some (inoL ino0 (.slice none 0 0)).toArray.size) := by unfold Hid; rw [hszA]; exact Try.info18
                have HISM : Hid ((Try.prog.info? 25).map (·.size) = some (inoL ino0 (.slice none 0 0)).length) := by unfold Hid; rw [inoL_len (show ino0.bl.length = 13 from rfl)]; exact Try.info18
                have HONE : Hid ((inoL ino0 (.slice none 0 0)).toArray.all (·.oneCell') = true) := all_oneCell_toArray (inoL_one rfl)
                have HTH : Hid ((w7.alloc (.cells z18 25)).there w7.heap.size 0 (inoL ino0 (.slice none 0 0)).toArray.size) := by unfold Hid; rw [hszA]; exact ino_there w7 _
                have HROW := Lib.hid (ino_row w7 25 (inoL ino0 (.slice none 0 0)) (inoL_len (show ino0.bl.length = 13 from rfl) _))
                clear hszA
                go_upto_region 31 with (with_reducible refine wpList_store_mid (op := ⟨none, _, _, _, _, _⟩) rfl 25 _ _ rfl w7.heap.size 0 (inoL ino0 (.slice none 0 0)).toArray rfl rfl HTH.out HISZ.out HONE.out ?_)
                try simp only [Act.put]
                have HHP : Hid (((w7.alloc (.cells z18 25)).setCells w7.heap.size 0 (inoL ino0 (.slice none 0 0))).heap[w7.heap.size]? = some (.cells (inoL ino0 (.slice none 0 0)).toArray 25 (0, 0))) := HROW.out.1
                have HMX : Hid (Mod nob w7 ((w7.alloc (.cells z18 25)).setCells w7.heap.size 0 (inoL ino0 (.slice none 0 0)))) := mod_of_below HROW.out.2
                clear HROW HTH HISZ HONE
                generalize (w7.alloc (.cells z18 25)).setCells w7.heap.size 0 (inoL ino0 (.slice none 0 0)) = w8 at *
                obtain ⟨X, hX⟩ : ∃ X, X = w7.heap.size := ⟨_, rfl⟩
                rw [← hX] at HHP ⊢
                clear hX
                have HM8 : Hid (Mod nob wr w8) := (mod_of_below HB7.out).step HMX.out (fun _ h => h)
                have HM18 : Hid (Mod nob w1 w8) := HMW.out.step HM8.out (fun _ h => h)
                have HS8 := Lib.hid (HS1.out.mod HM18.out (fun _ _ h => h))
                have HT8 := Lib.hid (HT1.out.mod HM18.out (fun h => h))
                have c0 := HT8.out.fmt i hi32
                rw [h0] at c0
                clear HMX HHP HISM h0
                go_wp2_with (first
                  | (go_at_call 27; refine (HFI.out _ _ HS8.out).mono ?_; rintro e w' ⟨rfl, rfl⟩)
                  | (go_at_call 28; refine (HAL.out _ _ HS8.out).mono ?_; rintro e w9 ⟨ao, cc, rfl, hb9⟩))
                have HM9 : Hid (Mod nob w1 w9) := HM18.out.step (mod_of_below hb9) (fun _ h => h)
                go_roundg (gk - 1)
                case measure => omega
                case rel => exact ⟨(i : Int) + 1, by omega, by omega, by go_num, HM9⟩
              · obtain ⟨L, hL⟩ : ∃ L, L = (xs i).length := ⟨_, rfl⟩
                obtain ⟨g1, g2, g3, g4⟩ := HTR.out.inn i hi32 h0
                have hnd : needI (t i) = L := by rw [hL]; exact g1.len.symm
                have hall : allI S (i : Nat) = xs i := by
                  unfold allI
                  rw [e2]
                  dsimp only
                  rw [g4]
                  have : blkN (List.replicate 13 0) = [] := by decide
                  rw [this, List.append_nil]
                have HG : Hid (Calls Try.prog 26 #[.pointer (some ⟨p, 0, none⟩), .int .i64 (i : Nat)] wr fun e w' => ∃ ea ec xa xc, e = .returned (.tuple #[.agg (inoL (t i) (.slice ea (t i).ents.length ec)).toArray, .slice xa L xc, .int .i64 0]) ∧ HoldsE w' (.slice ea (t i).ents.length ec) (t i).ents ∧ Below wr.heap.size wr w') := by
                  have h := get_ino HSW.out (i : Nat)
                  rw [e1, e2] at h
                  refine h.mono ?_
                  rintro e w' ⟨hb, mv, xv, rfl, hmv, hxv, -, -⟩
                  have hmv2 := hmv
                  obtain ⟨ea, ec, rfl, -⟩ := hmv
                  obtain ⟨xa, xc, rfl, -⟩ := hxv
                  rw [← hL]
                  exact ⟨ea, ec, xa, xc, rfl, hmv2, hb⟩
                have HAL : Hid (∀ wx D', SheetAt wx p D' S → Calls Try.prog 28 #[.pointer (some ⟨p, 0, none⟩), .int .i64 (i : Nat)] wx fun e w' => ∃ ao c, e = .returned (.slice ao L c) ∧ Below wx.heap.size wx w') := fun wx D' h => by
                  have h1 := all_ino h (i : Nat)
                  rw [hall] at h1
                  refine h1.mono ?_
                  rintro e w' ⟨v, rfl, ⟨ao, c, rfl, -⟩, -, hb⟩
                  rw [← hL]
                  exact ⟨ao, c, rfl, hb⟩
                have HNO : Hid (t i).Ok := g3
                have HNR : Hid (RightP (t i)) := g2
                have HND := Lib.hid hnd
                have HEI : Hid (HoldsE w1 (ev i) (t i).ents) := HE1.out i hi32
                obtain ⟨n, hn⟩ : ∃ n, n = t i := ⟨_, rfl⟩
                obtain ⟨V, hV⟩ : ∃ V, V = ev i := ⟨_, rfl⟩
                have HN := Lib.hid hn
                have HVV := Lib.hid hV
                rw [← hn] at HG HNO HNR HND HEI h0
                rw [← hV] at HEI
                clear e1 e2 g1 g2 g3 g4 hL hnd hall hn hV HFI
                go_wp2_with fail
                refine HG.out.mono ?_
                rintro e w7 ⟨ea, ec, xa, xc, rfl, hmv, hb7⟩
                have HB7 := Lib.hid hb7
                have HMV := Lib.hid hmv
                clear hb7 hmv
                have hszA : (inoL n (.slice ea n.ents.length ec)).toArray.size = 18 := by rw [List.size_toArray]; exact inoL_len HNO.out.len _
                have HISZ : Hid ((Try.prog.info? 25).map (·.size) = some (inoL n (.slice ea n.ents.length ec)).toArray.size) := by unfold Hid; rw [hszA]; exact Try.info18
                have HISM : Hid ((Try.prog.info? 25).map (·.size) = some (inoL n (.slice ea n.ents.length ec)).length) := by unfold Hid; rw [inoL_len HNO.out.len]; exact Try.info18
                have HONE : Hid ((inoL n (.slice ea n.ents.length ec)).toArray.all (·.oneCell') = true) := all_oneCell_toArray (inoL_one rfl)
                have HTH : Hid ((w7.alloc (.cells z18 25)).there w7.heap.size 0 (inoL n (.slice ea n.ents.length ec)).toArray.size) := by unfold Hid; rw [hszA]; exact ino_there w7 _
                have HROW := Lib.hid (ino_row w7 25 (inoL n (.slice ea n.ents.length ec)) (inoL_len HNO.out.len _))
                clear hszA
                go_upto_region 31 with (with_reducible refine wpList_store_mid (op := ⟨none, _, _, _, _, _⟩) rfl 25 _ _ rfl w7.heap.size 0 (inoL n (.slice ea n.ents.length ec)).toArray rfl rfl HTH.out HISZ.out HONE.out ?_)
                try simp only [Act.put]
                have HHP : Hid (((w7.alloc (.cells z18 25)).setCells w7.heap.size 0 (inoL n (.slice ea n.ents.length ec))).heap[w7.heap.size]? = some (.cells (inoL n (.slice ea n.ents.length ec)).toArray 25 (0, 0))) := HROW.out.1
                have HMX : Hid (Mod nob w7 ((w7.alloc (.cells z18 25)).setCells w7.heap.size 0 (inoL n (.slice ea n.ents.length ec)))) := mod_of_below HROW.out.2
                clear HROW HTH HISZ HONE
                generalize (w7.alloc (.cells z18 25)).setCells w7.heap.size 0 (inoL n (.slice ea n.ents.length ec)) = w8 at *
                obtain ⟨X, hX⟩ : ∃ X, X = w7.heap.size := ⟨_, rfl⟩
                rw [← hX] at HHP ⊢
                clear hX
                have HM8 : Hid (Mod nob wr w8) := (mod_of_below HB7.out).step HMX.out (fun _ h => h)
                have HM18 : Hid (Mod nob w1 w8) := HMW.out.step HM8.out (fun _ h => h)
                have HS8 := Lib.hid (HS1.out.mod HM18.out (fun _ _ h => h))
                have HT8 := Lib.hid (HT1.out.mod HM18.out (fun h => h))
                have c0 := HT8.out.fmt i hi32
                have hri := HT8.out.range i hi32
                rw [← HN.out] at c0 hri
                rw [← HVV.out] at hri
                have HRI := Lib.hid hri
                have HIX : Hid (InoB w8 X n (.slice ea n.ents.length ec)) := ⟨HHP.out, HNO.out.len⟩
                have HMV8 := Lib.hid (HMV.out.mod HMX.out (fun _ _ _ h => h))
                have HEI8 := Lib.hid (HEI.out.mod HM18.out (fun _ _ _ h => h))
                have HISN : Hid ((Try.prog.info? 25).map (·.size) = some (inoL n V).length) := by unfold Hid; rw [inoL_len HNO.out.len]; exact Try.info18
                have HFM := Lib.hid h0
                clear HMX HHP hri HMV HB7 HEI
                go_upto_region 37 with (fail)
                clear c0 h0
                have HRX : Hid (w8.drew.rangeAt X 0 (inoL n (.slice ea n.ents.length ec))) := (HIX.out.mod ((Mod.refl nob w8).drew) (fun h => h)).at.range HNO.out.len
                have HRE : Hid (w8.drew.rangeAt BT (i * 18) (inoL n V)) := fun j v hj => ((Mod.refl nob w8).drew).cell (HRI.out j v hj) (fun h => h)
                have HSAME : Hid (∀ wx, Mod nob w8.drew wx → Calls Try.prog 16 #[.agg (inoL n (.slice ea n.ents.length ec)).toArray, .agg (inoL n V).toArray] wx fun e w' => e = .returned (.bool true) ∧ Below wx.heap.size wx w') := fun wx hm => same6 HNO.out ((HMV8.out.mod ((Mod.refl nob w8).drew) (fun _ _ _ h => h)).mod hm (fun _ _ _ h => h)) ((HEI8.out.mod ((Mod.refl nob w8).drew) (fun _ _ _ h => h)).mod hm (fun _ _ _ h => h))
                have HNEED : Hid (∀ wx, Mod nob w8.drew wx → Calls Try.prog 29 #[.agg (inoL n (.slice ea n.ents.length ec)).toArray] wx fun e w' => e = .returned (.int .i64 (L : Nat)) ∧ Below wx.heap.size wx w') := fun wx hm => by
                  rw [← HND.out]
                  exact ref_need8 HNO.out ((HMV8.out.mod ((Mod.refl nob w8).drew) (fun _ _ _ h => h)).mod hm (fun _ _ _ h => h)) HNR.out
                have HALL : Hid (∀ wx, Mod nob w8.drew wx → Calls Try.prog 28 #[.pointer (some ⟨p, 0, none⟩), .int .i64 (i : Nat)] wx fun e w' => ∃ ao c, e = .returned (.slice ao L c) ∧ Below wx.heap.size wx w') := fun wx hm => HAL.out wx D ((HS8.out.mod ((Mod.refl nob w8).drew) (fun _ _ h => h)).mod hm (fun _ _ h => h))
                obtain ⟨AM, hAM⟩ : ∃ v, v = Value.agg (inoL n (.slice ea n.ents.length ec)).toArray := ⟨_, rfl⟩
                obtain ⟨AE, hAE⟩ : ∃ v, v = Value.agg (inoL n V).toArray := ⟨_, rfl⟩
                rw [← hAM, ← hAE] at HSAME
                rw [← hAM] at HNEED
                have HAM := Lib.hid hAM
                have HAE := Lib.hid hAE
                clear hAM hAE HAL HG
                refine wp_region_noPanic ?_
                refine wp_region_held_drew (S := fun w' => w'.rangeAt X 0 (inoL n (.slice ea n.ents.length ec)) ∧ w'.rangeAt BT (i * 18) (inoL n V)) (by kernel_rfl) ⟨HRX.out, HRE.out⟩ (fun hHeld => ?_)
                refine wpAnyH_take (i := 0) (v := .int .i64 0) rfl (by kernel_rfl) (by kernel_rfl) (by kernel_rfl) (fun _ _ _ h => h) (Or.inl ⟨by kernel_rfl, ?_⟩) hHeld ?_
                case refine_1 =>
                  rintro wx -
                  go_simp
                change wpAnyH _ _ _ _ _ _ _ (Act.put _ (some 153) _) _
                simp only [Act.put, List.setIfInBounds_toArray, List.set_cons_zero, List.set_cons_succ]
                refine wpAnyH_take (i := 1) (v := .bool false) rfl (by kernel_rfl) (by kernel_rfl) (by kernel_rfl) (fun _ _ _ h => h) (Or.inl ⟨by kernel_rfl, ?_⟩) hHeld ?_
                case refine_1 =>
                  rintro wx -
                  go_simp
                change wpAnyH _ _ _ _ _ _ _ (Act.put _ (some 154) _) _
                simp only [Act.put, List.setIfInBounds_toArray, List.set_cons_zero, List.set_cons_succ]
                refine wpAnyH_take (i := 2) (v := .bool false) rfl (by kernel_rfl) (by kernel_rfl) (by kernel_rfl) (fun _ _ _ h => h) (Or.inl ⟨by kernel_rfl, ?_⟩) hHeld ?_
                case refine_1 =>
                  rintro wx -
                  go_simp
                change wpAnyH _ _ _ _ _ _ _ (Act.put _ (some 155) _) _
                simp only [Act.put, List.setIfInBounds_toArray, List.set_cons_zero, List.set_cons_succ]
                refine wpAnyH_take (i := 3) (oi := ⟨some 156, .load 25 (.tmp 18), 25, _, _, some (2, false)⟩) (v := AM) rfl (by kernel_rfl) (by kernel_rfl) (by kernel_rfl) (fun _ _ _ h => h) (by rw [HAM.out]; exact yieldsIf_load_mid (by kernel_rfl) 25 (.tmp 18) rfl X 0 rfl _ _ (fun _ h => h.1) HU25.out rfl HISM.out) hHeld ?_
                change wpAnyH _ _ _ _ _ _ _ (Act.put _ (some 156) _) _
                simp only [Act.put, List.setIfInBounds_toArray, List.set_cons_zero, List.set_cons_succ]
                refine wpAnyH_take (i := 4) (v := .int .i64 (i : Int)) rfl (by kernel_rfl) (by kernel_rfl) (by kernel_rfl) (fun _ _ _ h => h) (Or.inl ⟨by kernel_rfl, ?_⟩) hHeld ?_
                case refine_1 =>
                  rintro wx -
                  go_simp
                change wpAnyH _ _ _ _ _ _ _ (Act.put _ (some 157) _) _
                simp only [Act.put, List.setIfInBounds_toArray, List.set_cons_zero, List.set_cons_succ]
                refine wpAnyH_take (i := 5) (v := .pointer (some ⟨BT, i * 18, none⟩)) rfl (by kernel_rfl) (by kernel_rfl) (by kernel_rfl) (fun _ _ _ h => h) (Or.inl ⟨by kernel_rfl, ?_⟩) hHeld ?_
                case refine_1 =>
                  rintro wx -
                  go_simp
                change wpAnyH _ _ _ _ _ _ _ (Act.put _ (some 158) _) _
                simp only [Act.put, List.setIfInBounds_toArray, List.set_cons_zero, List.set_cons_succ]
                refine wpAnyH_take (i := 6) (oi := ⟨some 159, .load 25 (.tmp 158), 25, _, _, some (2, false)⟩) (v := AE) rfl (by kernel_rfl) (by kernel_rfl) (by kernel_rfl) (fun _ _ _ h => h) (by rw [HAE.out]; exact yieldsIf_load_mid (by kernel_rfl) 25 (.tmp 158) rfl BT (i * 18) rfl _ _ (fun _ h => h.2) HU25.out rfl HISN.out) hHeld ?_
                change wpAnyH _ _ _ _ _ _ _ (Act.put _ (some 159) _) _
                simp only [Act.put, List.setIfInBounds_toArray, List.set_cons_zero, List.set_cons_succ]
                refine wpAnyH_ready (rs := [7]) (by kernel_rfl) (by simp) ?_
                refine AllReadyH.cons rfl (fun K hK => ?_) AllReadyH.nil
                go_simp
                refine (HSAME.out _ (Mod.refl nob _)).mono ?_
                rintro e w9 ⟨rfl, hb9⟩
                have HX9 : Hid (Mod nob w8.drew w9) := mod_of_below hb9
                clear hb9
                go_wp2_with fail
                refine hK.out _ _ ⟨fun j v hj => HX9.out.cell (HRX.out j v hj) (fun h => h), fun j v hj => HX9.out.cell (HRE.out j v hj) (fun h => h)⟩ (fun hHeld1 => ?_)
                clear hK K
                try simp only [Act.put, List.setIfInBounds_toArray, List.set_cons_zero, List.set_cons_succ]
                refine wpAnyH_take (i := 8) (v := .bool false) rfl (by kernel_rfl) (by kernel_rfl) (by kernel_rfl) (fun _ _ _ h => h) (Or.inl ⟨by kernel_rfl, ?_⟩) hHeld1 ?_
                case refine_1 =>
                  rintro wx -
                  go_simp
                change wpAnyH _ _ _ _ _ _ _ (Act.put _ (some 161) _) _
                simp only [Act.put, List.setIfInBounds_toArray, List.set_cons_zero, List.set_cons_succ]
                refine wpAnyH_take (i := 9) (v := .bool false) rfl (by kernel_rfl) (by kernel_rfl) (by kernel_rfl) (fun _ _ _ h => h) (Or.inl ⟨by kernel_rfl, ?_⟩) hHeld1 ?_
                case refine_1 =>
                  rintro wx -
                  go_simp
                change wpAnyH _ _ _ _ _ _ _ (Act.put _ (some 162) _) _
                simp only [Act.put, List.setIfInBounds_toArray, List.set_cons_zero, List.set_cons_succ]
                refine wpAnyH_take (i := 10) (v := .bool false) rfl (by kernel_rfl) (by kernel_rfl) (by kernel_rfl) (fun _ _ _ h => h) (Or.inl ⟨by kernel_rfl, ?_⟩) hHeld1 ?_
                case refine_1 =>
                  rintro wx -
                  go_simp
                change wpAnyH _ _ _ _ _ _ _ (Act.put _ (some 163) _) _
                simp only [Act.put, List.setIfInBounds_toArray, List.set_cons_zero, List.set_cons_succ]
                refine wpAnyH_take (i := 11) (v := .slice xa L xc) rfl (by kernel_rfl) (by kernel_rfl) (by kernel_rfl) (fun _ _ _ h => h) (Or.inl ⟨by kernel_rfl, ?_⟩) hHeld1 ?_
                case refine_1 =>
                  rintro wx -
                  go_simp
                change wpAnyH _ _ _ _ _ _ _ (Act.put _ (some 164) _) _
                simp only [Act.put, List.setIfInBounds_toArray, List.set_cons_zero, List.set_cons_succ]
                refine wpAnyH_take (i := 12) (v := .int .i64 (L : Nat)) rfl (by kernel_rfl) (by kernel_rfl) (by kernel_rfl) (fun _ _ _ h => h) (Or.inl ⟨by kernel_rfl, ?_⟩) hHeld1 ?_
                case refine_1 =>
                  rintro wx -
                  go_simp
                change wpAnyH _ _ _ _ _ _ _ (Act.put _ (some 165) _) _
                simp only [Act.put, List.setIfInBounds_toArray, List.set_cons_zero, List.set_cons_succ]
                refine wpAnyH_take (i := 13) (oi := ⟨some 166, .load 25 (.tmp 18), 25, _, _, some (10, false)⟩) (v := AM) rfl (by kernel_rfl) (by kernel_rfl) (by kernel_rfl) (fun _ _ _ h => h) (by rw [HAM.out]; exact yieldsIf_load_mid (by kernel_rfl) 25 (.tmp 18) rfl X 0 rfl _ _ (fun _ h => h.1) HU25.out rfl HISM.out) hHeld1 ?_
                change wpAnyH _ _ _ _ _ _ _ (Act.put _ (some 166) _) _
                simp only [Act.put, List.setIfInBounds_toArray, List.set_cons_zero, List.set_cons_succ]
                refine wpAnyH_ready (rs := [14]) (by kernel_rfl) (by simp) ?_
                refine AllReadyH.cons rfl (fun K hK => ?_) AllReadyH.nil
                go_simp
                refine (HNEED.out _ HX9.out).mono ?_
                rintro e w10 ⟨rfl, hb10⟩
                have HX10 : Hid (Mod nob w8.drew w10) := HX9.out.step (mod_of_below hb10) (fun _ h => h)
                clear hb10
                go_wp2_with fail
                refine hK.out _ _ ⟨fun j v hj => HX10.out.cell (HRX.out j v hj) (fun h => h), fun j v hj => HX10.out.cell (HRE.out j v hj) (fun h => h)⟩ (fun hHeld2 => ?_)
                clear hK K
                try simp only [Act.put, List.setIfInBounds_toArray, List.set_cons_zero, List.set_cons_succ]
                refine wpAnyH_take (i := 15) (v := .bool false) rfl (by kernel_rfl) (by kernel_rfl) (by kernel_rfl) (fun _ _ _ h => h) (Or.inl ⟨by kernel_rfl, ?_⟩) hHeld2 ?_
                case refine_1 =>
                  rintro wx -
                  go_simp
                change wpAnyH _ _ _ _ _ _ _ (Act.put _ (some 168) _) _
                simp only [Act.put, List.setIfInBounds_toArray, List.set_cons_zero, List.set_cons_succ]
                refine wpAnyH_take (i := 16) (v := .bool false) rfl (by kernel_rfl) (by kernel_rfl) (by kernel_rfl) (fun _ _ _ h => h) (Or.inl ⟨by kernel_rfl, ?_⟩) hHeld2 ?_
                case refine_1 =>
                  rintro wx -
                  go_simp
                change wpAnyH _ _ _ _ _ _ _ (Act.put _ (some 169) _) _
                simp only [Act.put, List.setIfInBounds_toArray, List.set_cons_zero, List.set_cons_succ]
                refine wpAnyH_take (i := 17) (v := .bool false) rfl (by kernel_rfl) (by kernel_rfl) (by kernel_rfl) (fun _ _ _ h => h) (Or.inl ⟨by kernel_rfl, ?_⟩) hHeld2 ?_
                case refine_1 =>
                  rintro wx -
                  go_simp
                change wpAnyH _ _ _ _ _ _ _ (Act.put _ (some 170) _) _
                simp only [Act.put, List.setIfInBounds_toArray, List.set_cons_zero, List.set_cons_succ]
                refine wpAnyH_take (i := 18) (v := .pointer (some ⟨p, 0, none⟩)) rfl (by kernel_rfl) (by kernel_rfl) (by kernel_rfl) (fun _ _ _ h => h) (Or.inl ⟨by kernel_rfl, ?_⟩) hHeld2 ?_
                case refine_1 =>
                  rintro wx -
                  go_simp
                change wpAnyH _ _ _ _ _ _ _ (Act.put _ (some 171) _) _
                simp only [Act.put, List.setIfInBounds_toArray, List.set_cons_zero, List.set_cons_succ]
                refine wpAnyH_take (i := 19) (v := .int .i64 (i : Int)) rfl (by kernel_rfl) (by kernel_rfl) (by kernel_rfl) (fun _ _ _ h => h) (Or.inl ⟨by kernel_rfl, ?_⟩) hHeld2 ?_
                case refine_1 =>
                  rintro wx -
                  go_simp
                change wpAnyH _ _ _ _ _ _ _ (Act.put _ (some 172) _) _
                simp only [Act.put, List.setIfInBounds_toArray, List.set_cons_zero, List.set_cons_succ]
                refine wpAnyH_take (i := 22) (v := .slice xa L xc) rfl (by kernel_rfl) (by kernel_rfl) (by kernel_rfl) (fun _ _ _ h => h) (Or.inl ⟨by kernel_rfl, ?_⟩) hHeld2 ?_
                case refine_1 =>
                  rintro wx -
                  go_simp
                change wpAnyH _ _ _ _ _ _ _ (Act.put _ (some 175) _) _
                simp only [Act.put, List.setIfInBounds_toArray, List.set_cons_zero, List.set_cons_succ]
                refine wpAnyH_take (i := 23) (v := .int .i64 (L : Nat)) rfl (by kernel_rfl) (by kernel_rfl) (by kernel_rfl) (fun _ _ _ h => h) (Or.inl ⟨by kernel_rfl, ?_⟩) hHeld2 ?_
                case refine_1 =>
                  rintro wx -
                  go_simp
                change wpAnyH _ _ _ _ _ _ _ (Act.put _ (some 176) _) _
                simp only [Act.put, List.setIfInBounds_toArray, List.set_cons_zero, List.set_cons_succ]
                refine wpAnyH_ready (rs := [20]) (by kernel_rfl) (by simp) ?_
                refine AllReadyH.cons rfl (fun K hK => ?_) AllReadyH.nil
                go_simp
                refine (HALL.out _ HX10.out).mono ?_
                rintro e w11 ⟨yo, yc, rfl, hb11⟩
                have HX11 : Hid (Mod nob w8.drew w11) := HX10.out.step (mod_of_below hb11) (fun _ h => h)
                clear hb11
                go_wp2_with fail
                refine hK.out _ _ ⟨fun j v hj => HX11.out.cell (HRX.out j v hj) (fun h => h), fun j v hj => HX11.out.cell (HRE.out j v hj) (fun h => h)⟩ (fun hHeld3 => ?_)
                clear hK K
                try simp only [Act.put, List.setIfInBounds_toArray, List.set_cons_zero, List.set_cons_succ]
                refine wpAnyH_take (i := 21) (v := .int .i64 (L : Nat)) rfl (by kernel_rfl) (by kernel_rfl) (by kernel_rfl) (fun _ _ _ h => h) (Or.inl ⟨by kernel_rfl, ?_⟩) hHeld3 ?_
                case refine_1 =>
                  rintro wx -
                  go_simp
                change wpAnyH _ _ _ _ _ _ _ (Act.put _ (some 174) _) _
                simp only [Act.put, List.setIfInBounds_toArray, List.set_cons_zero, List.set_cons_succ]
                refine wpAnyH_take (i := 24) (v := .bool false) rfl (by kernel_rfl) (by kernel_rfl) (by kernel_rfl) (fun _ _ _ h => h) (Or.inl ⟨by kernel_rfl, ?_⟩) hHeld3 ?_
                case refine_1 =>
                  rintro wx -
                  go_simp
                change wpAnyH _ _ _ _ _ _ _ (Act.put _ (some 177) _) _
                simp only [Act.put, List.setIfInBounds_toArray, List.set_cons_zero, List.set_cons_succ]
                refine wpAnyH_take (i := 25) (v := .bool false) rfl (by kernel_rfl) (by kernel_rfl) (by kernel_rfl) (fun _ _ _ h => h) (Or.inl ⟨by kernel_rfl, ?_⟩) hHeld3 ?_
                case refine_1 =>
                  rintro wx -
                  go_simp
                change wpAnyH _ _ _ _ _ _ _ (Act.put _ (some 178) _) _
                simp only [Act.put, List.setIfInBounds_toArray, List.set_cons_zero, List.set_cons_succ]
                refine wpAnyH_done (by kernel_rfl) ?_ _
                refine NoPanic.normal ?_
                have HM9 : Hid (Mod nob w1 w11) := (HM18.out.step ((Mod.refl nob w8).drew) (fun _ h => h)).step HX11.out (fun _ h => h)
                clear hHeld hHeld1 hHeld2 hHeld3
                go_wp2_with fail
                go_roundg (gk - 1)
                case measure => omega
                case rel => exact ⟨(i : Int) + 1, by omega, by omega, by go_num, HM9⟩
          · have hge2 : ¬ j < 33 := hlt
            go_wp2_with fail
            go_ret
            exact ⟨rfl, HB1.out.trans (HMW.out.below HB1.out.size (fun b h => h.elim))⟩
  · have h60i : (60 : Int) < (m0 : Int) := by omega
    go_wp2_with fail
    refine (HAW.out _).mono ?_
    rintro e we ⟨rfl, hbz⟩
    have HX := Lib.hid (HX.out.step (mod_of_below hbz) (fun _ h => h))
    clear hbz
    go_wp2_with fail
    go_ret
    exact ⟨rfl, HBEL.out.trans (HX.out.below (by have := HZ.out; have := HN0.out; omega) (fun b h => h.elim))⟩
end Go.Proofs.Ytlopdbhjdijlmaa
