/-
  imagolaw09.made: a contract. No condition.
  imagolaw09.few: a contract. No condition.
-/
import Derived.Test.YtlopdbhjdijlmaaQOpenSt
import Derived.Test.YtlopdbhjdijlmaaQPlay8
import Derived.Test.YtlopdbhjdijlmaaQReach9
import Derived.Test.YtlopdbhjdijlmaaQFew6
import Derived.Deep.RegionHeld3

namespace Go.Proofs.Ytlopdbhjdijlmaa
open Go.ChangeShapes Go.WideShapes Go.ChangeAt Go.RowKit
set_option linter.unusedSimpArgs false
set_option linter.unusedVariables false

/-- A table that a sheet holds. -/
structure TabF (S : Sh) (t : Nat → Ino) (room : Nat) : Prop where
  tab : ∃ xs, TabR S t xs room
  right : RightT t
  bare : ∀ k, k < 32 → (t k).format = 0 → (t k).ents = []
theorem TabF.ents {S : Sh} {t : Nat → Ino} {room : Nat} (h : TabF S t room) : EntsIn t ∧ ∀ k, k < 32 → (t k).ents.length ≤ 24 := by
  have hk : ∀ k, k < 32 → (t k).ents = [] ∨ DirOK (t k) := fun k hk => by
    rcases (h.right k hk).2 with h0 | hr
    · exact .inl (h.bare k hk h0)
    · rcases hr.2.2.2 with ⟨-, hf⟩ | ⟨-, hd⟩
      · exact .inl hf.2.2.2
      · exact .inr hd
  refine ⟨fun k hk2 e he => ?_, fun k hk2 => ?_⟩
  · rcases hk k hk2 with h0 | hd
    · rw [h0] at he; cases he
    · obtain ⟨q, hq, rfl⟩ := List.getElem_of_mem he
      have := (hd.1 q hq).2.2
      rw [List.getD_eq_getElem?_getD, List.getElem?_eq_getElem hq] at this
      exact this
  · rcases hk k hk2 with h0 | hd
    · rw [h0]; exact Nat.zero_le _
    · exact hd.2.1

/-- What an inode that is put makes of the table. -/
theorem TabF.put {S : Sh} {t : Nat → Ino} {room : Nat} (h : TabF S t room) {k : Nat} (hk : k < 32) {n : Ino} (hn : n.Ok) (hz : n.bl = List.replicate 13 0) :
    ((putI S (k : Int) n).1 = 0 ∧ TabF (putI S (k : Int) n).2 (setT t k n) room) ∨ ((putI S (k : Int) n).1 ≠ 0 ∧ TabF (putI S (k : Int) n).2 t room) := by
  obtain ⟨xs, ht⟩ := h.tab
  obtain ⟨h1, -, xs', h3⟩ := put_step ht (fun _ => Value.slice none 0 0) (k : Int) hn hz (.slice none 0 0)
  rw [h1]
  by_cases hr : RightP n
  · by_cases hs : (room : Int) - ((usedT t 32 : Nat) : Int) + ((oldT t k : Nat) : Int) < ((needI n : Nat) : Int)
    · have e : putT t (fun _ => Value.slice none 0 0) (k : Int) n (.slice none 0 0) (room : Int) = (t, fun _ => Value.slice none 0 0, 0, 7) := by
        unfold putT; rw [if_neg (by omega), if_neg (fun g => g hr), Int.toNat_natCast, if_pos hs]
      rw [e] at h3 ⊢
      exact .inr ⟨show (7 : Int) ≠ 0 by decide, ⟨xs', h3⟩, h.right, h.bare⟩
    · have e : putT t (fun _ => Value.slice none 0 0) (k : Int) n (.slice none 0 0) (room : Int) = (setT t k n, setT (fun _ => Value.slice none 0 0) k (.slice none 0 0), (k : Int), 0) := by
        unfold putT; rw [if_neg (by omega), if_neg (fun g => g hr), Int.toNat_natCast, if_neg hs]
      rw [e] at h3 ⊢
      refine .inl ⟨rfl, ⟨xs', h3⟩, h.right.set k hn (.inr hr), fun j hj h0 => ?_⟩
      by_cases ej : j = k
      · subst ej
        rw [setT_same] at h0
        have := hr.1
        omega
      · rw [setT_ne _ _ ej] at h0 ⊢
        exact h.bare j hj h0
  · have e : putT t (fun _ => Value.slice none 0 0) (k : Int) n (.slice none 0 0) (room : Int) = (t, fun _ => Value.slice none 0 0, 0, 1) := by
      unfold putT; rw [if_neg (by omega), if_pos hr]
    rw [e] at h3 ⊢
    exact .inr ⟨show (1 : Int) ≠ 0 by decide, ⟨xs', h3⟩, h.right, h.bare⟩

section
variable {P : Program}
theorem step_store_mid {ops : Array Oper} {o : Oper} {a : Act} {w : World} {K : Act → World → Prop} {Q : Exit → Act → World → Prop} {E : Prop} (hgd : o.guard = none) (ty : TypeId) (x y : Operand) (ho : o.op = .store ty x y)
    (b of : Nat) (cells : Array Value) (hx : a.eval x = .pointer (some ⟨b, of, none⟩)) (hy : a.eval y = .agg cells)
    (ht : w.there b of cells.size) (hi : (P.info? ty).map (·.size) = some cells.size) (h1 : cells.all (·.oneCell') = true)
    (h : K (a.put o.dst undef) (w.setCells b of cells.toList)) : if Region.wanted o (yielded ops a.tmps) = true then Oper.wp P o a w K Q else E := by
  have hw : Region.wanted o (yielded ops a.tmps) = true := by simp [Region.wanted, hgd]
  rw [if_pos hw]
  exact wp_store_mid ty x y ho b of cells hx hy ht hi h1 h
end

/-- What stands while the inodes are put. -/
structure MadeR (w wr : World) (p BT : Nat) (room k : Nat) (S : Sh) (t : Nat → Ino) (ev : Nat → Value) (D : Nat → Prop) : Prop where
  tab : TabF S t room
  holds : HoldsT w t ev
  sheet : SheetAt wr p D S
  apart : ¬ D BT
  new : ∀ b, D b → w.heap.size ≤ b
  mod : Mod nob w wr
  box : TabB wr BT t ev
  was : S.was.length ≤ 3100 * k

set_option maxRecDepth 20000 in
set_option maxHeartbeats 8000000 in
theorem made9 {w : World} {lv : Value} {l : List InV} (hl : HoldsV w lv l) :
    Calls Try.prog 43 #[lv] w fun e w' => ∃ (p : Nat) (D : Nat → Prop) (S : Sh) (t : Nat → Ino) (ev : Nat → Value) (room : Nat), e = .returned (.tuple #[.pointer (some ⟨p, 0, none⟩), .agg (tabL t ev).toArray]) ∧ SheetAt w' p D S ∧ TabF S t room ∧ HoldsT w' t ev ∧ Below w.heap.size w w' := by
  have HL := Lib.hid hl
  obtain ⟨ao, c, rfl, hlc, hcm, -⟩ := hl
  obtain ⟨m, hm⟩ : ∃ m, m = l.length := ⟨_, rfl⟩
  rw [← hm] at HL hlc ⊢
  have HM := Lib.hid hm
  unfold maxLen at hcm
  have HTX : Hid (∀ wx, Calls Try.prog 30 #[.slice none 0 0] wx fun e w' => ∃ p, e = .returned (.pointer (some ⟨p, 0, none⟩)) ∧ SheetAt w' p (grow nob wx w') (Sh.new []) ∧ Below wx.heap.size wx w') := fun wx => tx_new (HoldsU.nil wx) (fun z hz => by cases hz)
  have HT0 : Hid (TabB (w.alloc (.cells Try.zeroCells44 44)) w.heap.size inoT0 nilT) := by rw [zeroT_eq]; exact TabB.new len13_0 w
  have HM0 : Hid (Mod nob w (w.alloc (.cells Try.zeroCells44 44))) := (Mod.refl nob w).alloc _
  clear hm
  go_enter Try.func43, Try.ntmps43
  go_upto_region 1 with (fail)
  generalize w.alloc (.cells Try.zeroCells44 44) = w0 at *
  obtain ⟨BR, hBR⟩ : ∃ B, B = w.heap.size := ⟨_, rfl⟩
  rw [← hBR] at HT0 ⊢
  have HBR := Lib.hid hBR
  clear hBR
  go_upto_region 2 with (go_at_call 30; refine (HTX.out _).mono ?_; rintro e ws ⟨p, rfl, hs, hbz⟩)
  have HT1 : Hid (TabB (ws.alloc (.cells Try.zeroCells44 44)) ws.heap.size inoT0 nilT) := by rw [zeroT_eq]; exact TabB.new len13_0 ws
  have HMS : Hid (Mod nob w0 ws) := mod_of_below hbz
  have HM1 : Hid (Mod nob ws (ws.alloc (.cells Try.zeroCells44 44))) := (Mod.refl nob ws).alloc _
  obtain ⟨D, hD⟩ : ∃ D, D = grow nob w0 ws := ⟨_, rfl⟩
  rw [← hD] at hs
  have hz0 := HM0.out.size
  have hz1 := HMS.out.size
  have HDN : Hid (∀ b, D b → w0.heap.size ≤ b ∧ b < ws.heap.size) := fun b hb => by
    rw [hD] at hb
    rcases hb with hb | hb
    · exact hb.elim
    · exact hb
  have HTF : Hid (TabF (Sh.new []) inoT0 (freeN (Sh.new []))) := ⟨⟨_, TabR.start (fun j _ _ => new_nil_get j)⟩, RightT.start, fun k _ _ => rfl⟩
  have HSH : Hid (SheetAt (ws.alloc (.cells Try.zeroCells44 44)) p D (Sh.new [])) := hs.mod HM1.out (fun _ _ h => h)
  have HMW : Hid (Mod nob w (ws.alloc (.cells Try.zeroCells44 44))) := (HM0.out.step HMS.out (fun _ h => h)).step HM1.out (fun _ h => h)
  have HTR : Hid (TabB (ws.alloc (.cells Try.zeroCells44 44)) BR inoT0 nilT) := HT0.out.mod (HMS.out.step HM1.out (fun _ h => h)) (fun h => h)
  go_upto_region 3 with (fail)
  generalize ws.alloc (.cells Try.zeroCells44 44) = w1 at *
  obtain ⟨BT, hBT⟩ : ∃ B, B = ws.heap.size := ⟨_, rfl⟩
  rw [← hBT] at HT1 HDN ⊢
  obtain ⟨room, hroom⟩ : ∃ r, r = freeN (Sh.new []) := ⟨_, rfl⟩
  rw [← hroom] at HTF
  have hBRT : BR < BT := by
    obtain ⟨h1, -⟩ := HT0.out
    have := (Array.getElem?_eq_some_iff.1 h1).1
    omega
  have HBT : Hid (w.heap.size ≤ BT) := by unfold Hid; omega
  have HP0 : Hid (MadeR w w1 p BT room 0 (Sh.new []) inoT0 nilT D) := ⟨HTF.out, HoldsT.start w, HSH.out, (fun h => by have := (HDN.out _ h).2; omega), (fun b h => by have := (HDN.out b h).1; omega), HMW.out, HT1.out, Nat.le_refl _⟩
  have HRB : Hid (TabB w1 BR inoT0 nilT ∧ ∀ b, D b → BR < b) := ⟨HTR.out, fun b h => by have h1 := (HDN.out b h).1; obtain ⟨h2, -⟩ := HT0.out; have := (Array.getElem?_eq_some_iff.1 h2).1; omega⟩
  clear hs hbz hD HTX HT0 HM0 HMS HM1 HDN HTF HSH HMW HTR HT1 hroom hBT hz0 hz1
  go_wp2_with fail
  go_loopg [6] m (fun gk iv wr => ∃ (k : Nat), k + gk = m ∧ k ≤ 32 ∧ iv = .int .i64 (k : Nat) ∧ Hid (∃ S t ev D, MadeR w wr p BT room k S t ev D ∧ TabB wr BR inoT0 nilT ∧ ∀ b, D b → BR < b))
  case atStart => exact ⟨0, by omega, by omega, rfl, _, _, _, D, HP0.out, HRB.out⟩
  case round =>
    obtain ⟨k, hk, hk32, rfl, HPR⟩ := hrel
    clear HP0 HRB
    obtain ⟨S, t, ev, D2, hP, hRB⟩ := HPR.out
    have HP := Lib.hid hP
    have HRB := Lib.hid hRB
    clear HPR hP hRB
    by_cases hlt : k < m ∧ k < 32
    · obtain ⟨hkm, hk3⟩ := hlt
      have hki : (k : Int) < (m : Int) := by omega
      have hki2 : (k : Int) < 32 := by omega
      obtain ⟨ao', c', e, -, -, hc⟩ := HL.out.old HP.out.mod (fun _ h => h.elim)
      rw [← HM.out] at e
      simp only [Value.slice.injEq] at e
      obtain ⟨rfl, -, rfl⟩ := e
      obtain ⟨⟨g, o, rfl, hr⟩, hno, hev⟩ := hc k (by rw [← HM.out]; exact hkm)
      have hev0 : HoldsE w (l.getD k default).ev (l.getD k default).n.ents := by
        obtain ⟨_, _, _, -, -, hc2⟩ := HL.out
        exact (hc2 k (by rw [← HM.out]; exact hkm)).2.2
      obtain ⟨n, hn⟩ : ∃ n, n = (l.getD k default).n := ⟨_, rfl⟩
      obtain ⟨v, hv⟩ : ∃ v, v = (l.getD k default).ev := ⟨_, rfl⟩
      rw [← hn, ← hv] at hr hev hev0
      rw [← hn] at hno
      have HR := Lib.hid hr
      have HNO := Lib.hid hno
      have HEV := Lib.hid hev
      have HEV0 := Lib.hid hev0
      have HV1 : Hid (v.oneCell' = true) := by obtain ⟨a, c, e, -⟩ := hev; unfold Hid; rw [e]; rfl
      have HSA : Hid ((Try.prog.info? 25).map (·.size) = some (inoL n v).length) := by unfold Hid; rw [inoL_len hno.len]; exact Try.info18
      have hszA : (inoL n v).toArray.size = 18 := by rw [List.size_toArray]; exact inoL_len hno.len _
      have HISZ : Hid ((Try.prog.info? 25).map (·.size) = some (inoL n v).toArray.size) := by unfold Hid; rw [hszA]; exact Try.info18
      have HONE : Hid ((inoL n v).toArray.all (·.oneCell') = true) := all_oneCell_toArray (inoL_one HV1.out)
      have HTH : Hid ((wr.alloc (.cells z18 25)).there wr.heap.size 0 (inoL n v).toArray.size) := by unfold Hid; rw [hszA]; exact ino_there wr _
      have HROW := Lib.hid (ino_row wr 25 (inoL n v) (inoL_len hno.len _))
      clear hc hr hno hev hev0 hn hv hszA
      go_upto_region 7 with (first
        | (with_reducible refine wpList_load_mid (op := ⟨some 22, _, _, _, _, _⟩) rfl 25 _ rfl g (o + k * 18) rfl (inoL n v) _ HR.out Try.underlying25 rfl HSA.out ?_)
        | (with_reducible refine wpList_store_mid (op := ⟨none, _, _, _, _, _⟩) rfl 25 _ _ rfl wr.heap.size 0 (inoL n v).toArray rfl rfl HTH.out HISZ.out HONE.out ?_))
      try simp only [Act.put]
      have HIX : Hid (InoB ((wr.alloc (.cells z18 25)).setCells wr.heap.size 0 (inoL n v)) wr.heap.size n v) := ⟨HROW.out.1, HNO.out.len⟩
      have HMX : Hid (Mod nob wr ((wr.alloc (.cells z18 25)).setCells wr.heap.size 0 (inoL n v))) := mod_of_below HROW.out.2
      clear HROW HTH HISZ HONE HR HSA
      generalize (wr.alloc (.cells z18 25)).setCells wr.heap.size 0 (inoL n v) = w2 at *
      obtain ⟨X, hX⟩ : ∃ X, X = wr.heap.size := ⟨_, rfl⟩
      rw [← hX] at HIX ⊢
      have HXX := Lib.hid hX
      clear hX
      have HISZ4 : Hid ((Try.prog.info? 22).map (·.size) = some (z13').size) := Try.info13
      have HONE4 : Hid ((z13').all (·.oneCell') = true) := all_oneCell_toArray (cs := (List.replicate 13 (0 : Int)).map (Value.int .i64)) (ints_oneCell _ _)
      have HTH4 : Hid (w2.there X 4 (z13').size) := HIX.out.there4
      go_upto_region 8 with (with_reducible refine wpList_store_mid (op := ⟨none, _, _, _, _, _⟩) rfl 22 _ _ rfl X 4 z13' rfl rfl HTH4.out HISZ4.out HONE4.out ?_)
      try simp only [Act.put]
      have HI3 : Hid (InoB (w2.setCells X 4 (z13').toList) X (emptyN n) v) := by
        have := HIX.out.setBls (List.replicate 13 0) (by simp)
        exact this
      have HM3 : Hid (Mod nob wr (w2.setCells X 4 (z13').toList)) := Mod.setCells X (.inr (by rw [HXX.out]; exact Nat.le_refl _)) _ _ _ HMX.out
      generalize w2.setCells X 4 (z13').toList = w3 at *
      clear HIX HMX HISZ4 HONE4 HTH4
      obtain ⟨n2, hn2⟩ : ∃ x, x = emptyN n := ⟨_, rfl⟩
      have HN2 : Hid n2.Ok := by rw [hn2]; exact emptyN_ok HNO.out
      have HNZ : Hid (n2.bl = List.replicate 13 0) := by rw [hn2]; rfl
      have HE0 : Hid (HoldsE w v n2.ents) := by rw [hn2]; exact HEV0.out
      have HE3 : Hid (HoldsE w3 v n2.ents) := by rw [hn2]; exact HEV.out.mod HM3.out (fun _ _ _ h => h)
      rw [← hn2] at HI3
      clear hn2 HNO HEV HEV0
      have HS3 : Hid (SheetAt w3 p D2 S) := HP.out.sheet.mod HM3.out (fun _ _ h => h)
      have HXD : Hid (¬ D2 X) := fun h => by
        have h1 := HP.out.sheet.lt X h
        have h2 := HXX.out
        omega
      have HED : Hid (n2.ents ≠ [] → ∀ g, v.ownBlock = some g → ¬ D2 g) := fun h0 g hg hd => by
        have h1 := HE0.out.lt h0 g hg
        have h2 := HP.out.new g hd
        omega
      have hwl : S.was.length + 10000 < 1099511627776 := by have := HP.out.was; omega
      have hput := HP.out.tab.put hk3 HN2.out HNZ.out
      have hws := putI_was (i := (k : Int)) HS3.out.ok HN2.out
      have HPU : Hid (Calls Try.prog 21 #[.pointer (some ⟨p, 0, none⟩), .int .i64 (k : Nat), .agg (inoL n2 v).toArray] w3 fun e w' => e = .returned (.int .i64 (putI S (k : Int) n2).1) ∧ ShStep w3 p D2 w' (putI S (k : Int) n2).2) := put_ino HS3.out hwl (k : Nat) HN2.out HE3.out HED.out
      obtain ⟨r, hr⟩ : ∃ r, r = putI S (k : Int) n2 := ⟨_, rfl⟩
      rw [← hr] at HPU hput hws
      clear hr HED hwl
      obtain ⟨re, rS⟩ := r
      simp only at hput hws
      have HPUT := Lib.hid hput
      have HWS := Lib.hid hws
      have HPU2 : Hid (Calls Try.prog 21 #[.pointer (some ⟨p, 0, none⟩), .int .i64 (k : Nat), .agg (inoL n2 v).toArray] w3 fun e w' => e = .returned (.int .i64 re) ∧ ShStep w3 p D2 w' rS) := HPU.out
      clear hput hws HPU
      have HRX := Lib.hid (HI3.out.at.range HN2.out.len)
      have HSX : Hid ((Try.prog.info? 25).map (·.size) = some (inoL n2 v).length) := by unfold Hid; rw [inoL_len HN2.out.len]; exact Try.info18
      have hszB : (inoL n2 v).toArray.size = 18 := by rw [List.size_toArray]; exact inoL_len HN2.out.len _
      have HISB : Hid ((Try.prog.info? 25).map (·.size) = some (inoL n2 v).toArray.size) := by unfold Hid; rw [hszB]; exact Try.info18
      have HONB : Hid ((inoL n2 v).toArray.all (·.oneCell') = true) := all_oneCell_toArray (inoL_one HV1.out)
      have HS18 := Lib.hid hszB
      clear hszB
      rcases HPUT.out with ⟨rfl, htf⟩ | ⟨hne, htf⟩
      · have HTF := Lib.hid htf
        clear htf HPUT
        go_upto_region 9 with (first
          | (with_reducible refine wpList_load_mid (op := ⟨some 27, _, _, _, _, _⟩) rfl 25 _ rfl X 0 rfl (inoL n2 v) _ HRX.out Try.underlying25 rfl HSX.out ?_)
          | (go_at_call 21; (with_reducible refine HPU2.out.mono ?_); (rintro e w5 ⟨rfl, hk5⟩)))
        have HK5 := Lib.hid hk5
        clear hk5
        have HR5 := Lib.hid ((HI3.out.mod HK5.out.2 HXD.out).at.range HN2.out.len)
        have HT5 : Hid (TabB w5 BT t ev) := (HP.out.box.mod HM3.out (fun h => h)).mod HK5.out.2 HP.out.apart
        have HTH : Hid (w5.there BT (k * 18) (inoL n2 v).toArray.size) := by unfold Hid; rw [HS18.out]; exact HT5.out.there (k * 18) 18 (by omega)
        have HMW5 : Hid (Mod nob w w5) := (HP.out.mod.step HM3.out (fun _ h => h)).trans (HK5.out.2.mono (fun b hb e => .inr ⟨HP.out.new b e, hb⟩))
        go_wp2_with (first
          | (with_reducible refine wpList_load_mid (op := ⟨some 31, _, _, _, _, _⟩) rfl 25 _ rfl X 0 rfl (inoL n2 v) _ HR5.out Try.underlying25 rfl HSX.out ?_)
          | (with_reducible refine wpList_store_mid (op := ⟨none, _, _, _, _, _⟩) rfl 25 _ _ rfl BT (k * 18) (inoL n2 v).toArray rfl rfl HTH.out HISB.out HONB.out ?_))
        have HT6 : Hid (TabB (w5.setCells BT (k * 18) (inoL n2 v)) BT (setT t k n2) (setT ev k v)) := HT5.out.set k hk3 HN2.out.len v
        have HMT : Hid (Mod (fun q => q = BT) w5 (w5.setCells BT (k * 18) (inoL n2 v))) := Mod.setCells (D := fun q => q = BT) BT (.inl rfl) _ _ _ (Mod.refl _ w5)
        have HMW6 : Hid (Mod nob w (w5.setCells BT (k * 18) (inoL n2 v))) := Mod.setCells BT (.inr HBT.out) _ _ _ HMW5.out
        have hsz3 := HM3.out.size
        have hbt := HP.out.box.lt
        have HAP : Hid (¬ grow D2 w3 w5 BT) := fun h => by
          rcases h with h | h
          · exact HP.out.apart h
          · omega
        have HNX : Hid (∃ S t ev D, MadeR w (w5.setCells BT (k * 18) (inoL n2 v)) p BT room (k + 1) S t ev D ∧ TabB (w5.setCells BT (k * 18) (inoL n2 v)) BR inoT0 nilT ∧ ∀ b, D b → BR < b) := by
          refine ⟨rS, setT t k n2, setT ev k v, grow D2 w3 w5, ⟨HTF.out, HP.out.holds.set k HE0.out, HK5.out.1.mod HMT.out (fun b hb e => HAP.out (e ▸ hb)), HAP.out, fun b hb => ?_, HMW6.out, HT6.out, by have h1 := HWS.out; have h2 := HP.out.was; omega⟩, ?_, fun b hb => ?_⟩
          · rcases hb with hb | hb
            · exact HP.out.new b hb
            · have := HP.out.mod.size; omega
          · exact ((HRB.out.1.mod HM3.out (fun h => h)).mod HK5.out.2 (fun h => by have := HRB.out.2 _ h; omega)).mod HMT.out (by omega)
          · rcases hb with hb | hb
            · exact HRB.out.2 b hb
            · omega
        go_wp2_with fail
        go_roundg (gk - 1)
        case measure => omega
        case rel => exact ⟨k + 1, by omega, by omega, by go_num, HNX.out⟩
      · have HTF := Lib.hid htf
        have hnb : (re == 0) = false := beq_eq_false_iff_ne.2 hne
        clear htf HPUT
        go_wp2_with (first
          | (with_reducible refine wpList_load_mid (op := ⟨some 27, _, _, _, _, _⟩) rfl 25 _ rfl X 0 rfl (inoL n2 v) _ HRX.out Try.underlying25 rfl HSX.out ?_)
          | (go_at_call 21; (with_reducible refine HPU2.out.mono ?_); (rintro e w5 ⟨rfl, hk5⟩)))
        have HK5 := Lib.hid hk5
        clear hk5
        have HT5 : Hid (TabB w5 BT t ev) := (HP.out.box.mod HM3.out (fun h => h)).mod HK5.out.2 HP.out.apart
        have HMW5 : Hid (Mod nob w w5) := (HP.out.mod.step HM3.out (fun _ h => h)).trans (HK5.out.2.mono (fun b hb e => .inr ⟨HP.out.new b e, hb⟩))
        have hsz3 := HM3.out.size
        have hbt := HP.out.box.lt
        have HNX : Hid (∃ S t ev D, MadeR w w5 p BT room (k + 1) S t ev D ∧ TabB w5 BR inoT0 nilT ∧ ∀ b, D b → BR < b) := by
          refine ⟨rS, t, ev, grow D2 w3 w5, ⟨HTF.out, HP.out.holds, HK5.out.1, fun h => ?_, fun b hb => ?_, HMW5.out, HT5.out, by have h1 := HWS.out; have h2 := HP.out.was; omega⟩, ?_, fun b hb => ?_⟩
          · rcases h with h | h
            · exact HP.out.apart h
            · omega
          · rcases hb with hb | hb
            · exact HP.out.new b hb
            · have := HP.out.mod.size; omega
          · exact (HRB.out.1.mod HM3.out (fun h => h)).mod HK5.out.2 (fun h => by have := HRB.out.2 _ h; omega)
          · rcases hb with hb | hb
            · exact HRB.out.2 b hb
            · omega
        go_wp2_with fail
        go_roundg (gk - 1)
        case measure => omega
        case rel => exact ⟨k + 1, by omega, by omega, by go_num, HNX.out⟩
    · have HRT : Hid (wr.drew.rangeAt BT 0 (tabL t ev)) := (HP.out.box.mod ((Mod.refl nob wr).drew) (fun h => h)).all
      have HLN := Lib.hid HP.out.tab.right.len
      have hs5 : (tabL t ev).toArray.size = 576 := by rw [List.size_toArray, tabL_len HLN.out]
      have HISZ : Hid ((Try.prog.info? 44).map (·.size) = some (tabL t ev).toArray.size) := by unfold Hid; rw [hs5]; exact Try.info576
      have HISL : Hid ((Try.prog.info? 44).map (·.size) = some (tabL t ev).length) := by unfold Hid; rw [tabL_len HLN.out]; exact Try.info576
      have HONE : Hid ((tabL t ev).toArray.all (·.oneCell') = true) := all_oneCell_toArray (tabL_one HP.out.holds.one 32 (Nat.le_refl _))
      have HTD : Hid (TabB wr.drew BR inoT0 nilT) := HRB.out.1.mod ((Mod.refl nob wr).drew) (fun h => h)
      have HTH : Hid (wr.drew.there BR 0 (tabL t ev).toArray.size) := by unfold Hid; rw [hs5]; exact HTD.out.there 0 576 (by omega)
      have HMN : Hid (Mod (fun q => q = BR) wr.drew (wr.drew.setCells BR 0 (tabL t ev))) := Mod.setCells (D := fun q => q = BR) BR (.inl rfl) _ _ _ (Mod.refl _ _)
      have HRN : Hid ((wr.drew.setCells BR 0 (tabL t ev)).rangeAt BT 0 (tabL t ev)) := fun j v hj => HMN.out.cell (HRT.out j v hj) (by show ¬ BT = BR; omega)
      have HTN : Hid (TabB (wr.drew.setCells BR 0 (tabL t ev)) BR t ev) := HTD.out.whole HLN.out
      have HMW : Hid (Mod nob w (wr.drew.setCells BR 0 (tabL t ev))) := Mod.setCells BR (.inr (by rw [HBR.out]; exact Nat.le_refl _)) _ _ _ HP.out.mod.drew
      have HSN : Hid (SheetAt (wr.drew.setCells BR 0 (tabL t ev)) p D2 S) := (HP.out.sheet.mod ((Mod.refl nob wr).drew) (fun _ _ h => h)).mod HMN.out (fun b hb e => by have e' : b = BR := e; have := HRB.out.2 b hb; omega)
      have HU44 := Lib.hid Try.underlying44
      obtain ⟨AT, hAT⟩ : ∃ v, v = Value.agg (tabL t ev).toArray := ⟨_, rfl⟩
      have HAT := Lib.hid hAT
      clear hs5 hAT
      rcases (show ¬ k < m ∨ (k < m ∧ ¬ k < 32) by omega) with h | ⟨h, h2⟩
      all_goals
        try have hki : ¬ (k : Int) < (m : Int) := by omega
        try have hkj : (k : Int) < (m : Int) := by omega
        try have hkl : ¬ (k : Int) < 32 := by omega
        go_upto_region 10 with (fail)
        go_cut [2] (fun v wc => v = .pointer (some ⟨p, 0, none⟩) ∧ Hid (TabB wc BR t ev) ∧ Hid (SheetAt wc p D2 S) ∧ Hid (Mod nob w wc))
        case first =>
          refine wp_region_noPanic ?_
          refine wp_region_held_drew (S := fun wx => wx.rangeAt BT 0 (tabL t ev)) (by kernel_rfl) HRT.out (fun hHeld => ?_)
          refine wpAnyH_take (i := 0) (v := .pointer (some ⟨p, 0, none⟩)) rfl (by kernel_rfl) (by kernel_rfl) (by kernel_rfl) (fun _ _ _ h => h) (Or.inl ⟨by kernel_rfl, ?_⟩) hHeld ?_
          case refine_1 =>
            rintro wx -
            go_simp
          change wpAnyH _ _ _ _ _ _ _ (Act.put _ (some 33) _) _
          simp only [Act.put, List.setIfInBounds_toArray, List.set_cons_zero, List.set_cons_succ]
          refine wpAnyH_take (i := 1) (oi := ⟨some 34, .load 44 (.tmp 5), 44, _, _, none⟩) (v := AT) rfl (by kernel_rfl) (by kernel_rfl) (by kernel_rfl) (fun _ _ _ h => h) (by rw [HAT.out]; exact yieldsIf_load_mid (by kernel_rfl) 44 (.tmp 5) rfl BT 0 rfl _ _ (fun _ h => h) HU44.out rfl HISL.out) hHeld ?_
          change wpAnyH _ _ _ _ _ _ _ (Act.put _ (some 34) _) _
          simp only [Act.put, List.setIfInBounds_toArray, List.set_cons_zero, List.set_cons_succ]
          refine wpAnyH_take (i := 2) (v := .pointer (some ⟨p, 0, none⟩)) rfl (by kernel_rfl) (by kernel_rfl) (by kernel_rfl) (fun _ _ _ h => h) (Or.inl ⟨by kernel_rfl, ?_⟩) hHeld ?_
          case refine_1 =>
            rintro wx -
            go_simp
          change wpAnyH _ _ _ _ _ _ _ (Act.put _ (some 2) _) _
          simp only [Act.put, List.setIfInBounds_toArray, List.set_cons_zero, List.set_cons_succ]
          refine wpAnyH_ready (rs := [3]) (by kernel_rfl) (by simp) ?_
          refine AllReadyH.cons (o := ⟨none, .store 44 (.tmp 3) (.tmp 34), _, _, _, none⟩) rfl (fun K hK => ?_) AllReadyH.nil
          refine step_store_mid rfl 44 (.tmp 3) (.tmp 34) rfl BR 0 (tabL t ev).toArray rfl HAT.out HTH.out HISZ.out HONE.out ?_
          try simp only [Act.put]
          refine hK.out _ _ HRN.out (fun hHeld2 => ?_)
          clear hK K
          refine wpAnyH_done (by kernel_rfl) ?_ _
          refine NoPanic.normal ?_
          go_wp2_with fail
          go_meet
          case rel => exact ⟨rfl, HTN.out, HSN.out, HMW.out⟩
        case rest =>
          obtain ⟨rfl, HTC, HSC, HMC⟩ := hcut
          have hlv := run_loadVar_mid (P := Try.prog) wc BR 0 44 _ _ HTC.out.all Try.underlying44 rfl HISL.out
          have HLV := Lib.hid hlv
          clear hlv
          rename_i K9 hK9
          refine hK9 _ _ ?_
          refine wp_ret ?_
          refine bodyPost_ret (v := .tuple #[.pointer (some ⟨p, 0, none⟩), .agg (tabL t ev).toArray]) ?_ rfl ⟨p, D2, S, t, ev, room, rfl, HSC.out, HP.out.tab, HP.out.holds.still HMC.out, ?_⟩
          · have hlv := HLV.out
            simp [results, Try.results43, asAddr, hlv]
          · exact nob_mod_below HMC.out
end Go.Proofs.Ytlopdbhjdijlmaa

namespace Go.Proofs.Ytlopdbhjdijlmaa
open Go.ChangeShapes Go.WideShapes Go.ChangeAt Go.RowKit
set_option linter.unusedSimpArgs false
set_option linter.unusedVariables false

/-- Some Bool is told. -/
def TellsB (e : Ending) : Prop := ∃ b : Bool, e = .returned (.bool b)
set_option maxRecDepth 20000 in
set_option maxHeartbeats 2000000 in
theorem few9 {w : World} {lv : Value} {l : List InV} (hl : HoldsV w lv l) :
    Calls Try.prog 42 #[lv] w fun e w' => TellsB e ∧ Below w.heap.size w w' := by
  have HL := Lib.hid hl
  obtain ⟨ao, c, rfl, hlc, hcm, -⟩ := hl
  obtain ⟨m, hm⟩ : ∃ m, m = l.length := ⟨_, rfl⟩
  rw [← hm] at HL hlc ⊢
  have HM := Lib.hid hm
  unfold maxLen at hcm
  clear hm
  go_enter Try.func42, Try.ntmps42
  go_wp2_with fail
  go_loopg [3] m (fun gk iv wr => ∃ k : Nat, k + gk = m ∧ iv = .int .i64 (k : Nat) ∧ Hid (Mod nob w wr))
  case atStart => exact ⟨0, by omega, rfl, Mod.refl nob w⟩
  case round =>
    obtain ⟨k, hk, rfl, HX⟩ := hrel
    have HBE : Hid (Below w.heap.size w wr) := nob_mod_below HX.out
    by_cases hlt : k < m ∧ k < 32
    · obtain ⟨hkm, hk32⟩ := hlt
      have hki : (k : Int) < (m : Int) := by omega
      have hki2 : (k : Int) < 32 := by omega
      obtain ⟨ao', c', e, -, -, hc⟩ := HL.out.old HX.out (fun _ h => h.elim)
      rw [← HM.out] at e
      simp only [Value.slice.injEq] at e
      obtain ⟨rfl, -, rfl⟩ := e
      obtain ⟨⟨g, o, rfl, hr⟩, hno, hev⟩ := hc k (by rw [← HM.out]; exact hkm)
      obtain ⟨n, hn⟩ : ∃ n, n = (l.getD k default).n := ⟨_, rfl⟩
      obtain ⟨ev, hv⟩ : ∃ ev, ev = (l.getD k default).ev := ⟨_, rfl⟩
      rw [← hn, ← hv] at hr hev
      rw [← hn] at hno
      have HR := Lib.hid hr
      have HF := Lib.hid (few6 hno hev)
      have HSA : Hid ((Try.prog.info? 25).map (·.size) = some (inoL n ev).length) := by unfold Hid; rw [inoL_len hno.len]; exact Try.info18
      obtain ⟨b, hb⟩ : ∃ b, b = fewB n := ⟨_, rfl⟩
      rw [← hb] at HF
      have HF2 : Hid (Calls Try.prog 10 #[.agg (inoL n ev).toArray] wr fun e w' => e = .returned (.bool b) ∧ Below wr.heap.size wr w') := HF.out
      clear hc hr hno hev hn hv hb HF
      cases b with
      | true =>
        go_wp2_with (first
          | (with_reducible refine wpList_load_mid (op := ⟨some 17, _, _, _, _, _⟩) rfl 25 _ rfl g (o + k * 18) rfl (inoL n ev) _ HR.out Try.underlying25 rfl HSA.out ?_)
          | (go_at_call 10; (with_reducible refine HF2.out.mono ?_); (rintro e w2 ⟨rfl, hb2⟩)))
        have HX2 : Hid (Mod nob w w2) := HX.out.step (mod_of_below hb2) (fun _ h => h)
        clear hb2
        go_roundg (gk - 1)
        case measure => omega
        case rel => exact ⟨k + 1, by omega, by go_num, HX2.out⟩
      | false =>
        go_wp2_with (first
          | (with_reducible refine wpList_load_mid (op := ⟨some 17, _, _, _, _, _⟩) rfl 25 _ rfl g (o + k * 18) rfl (inoL n ev) _ HR.out Try.underlying25 rfl HSA.out ?_)
          | (go_at_call 10; (with_reducible refine HF2.out.mono ?_); (rintro e w2 ⟨rfl, hb2⟩)))
        have HX2 : Hid (Mod nob w w2) := HX.out.step (mod_of_below hb2) (fun _ h => h)
        clear hb2
        go_ret
        exact ⟨⟨false, rfl⟩, nob_mod_below HX2.out⟩
    · rcases (show ¬ k < m ∨ (k < m ∧ ¬ k < 32) by omega) with h | ⟨h, h2⟩
      all_goals
        try have hki : ¬ (k : Int) < (m : Int) := by omega
        try have hkj : (k : Int) < (m : Int) := by omega
        try have hkl : ¬ (k : Int) < 32 := by omega
        by_cases h32 : m ≤ 32
        · have hd : decide ((m : Int) ≤ 32) = true := decide_eq_true (by omega)
          go_wp2_with fail
          go_ret
          exact ⟨⟨true, rfl⟩, HBE.out⟩
        · have hd : decide ((m : Int) ≤ 32) = false := decide_eq_false (by omega)
          go_wp2_with fail
          go_ret
          exact ⟨⟨false, rfl⟩, HBE.out⟩
end Go.Proofs.Ytlopdbhjdijlmaa
