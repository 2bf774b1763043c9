/-
  tree.Below: the walk, of what is got of each number. No condition.
  check.all: a contract. No condition.
  An inode of an array's value. No condition.
  check.reached, check.inodes: contracts. No condition.
  check.Entries: a contract. No condition.
  check.links: a contract. No condition.
  check.blocks: a contract. No condition.
  check.inodes, check.entries: contracts. No condition.
  check.super: a contract. No condition.
  check.entries: a contract. No condition.
-/
import Derived.Test.YtlopdbhjdijlmaaQReach9
import Derived.Test.YtlopdbhjdijlmaaQInoM
import Derived.Test.YtlopdbhjdijlmaaQTabL
import Derived.Deep.QuietTactic
import Derived.BigQuiet
import Derived.Test.YtlopdbhjdijlmaaQTxM
import Derived.Test.YtlopdbhjdijlmaaQModStep

namespace Go.Proofs.Ytlopdbhjdijlmaa
open Go.ChangeShapes Go.WideShapes Go.ChangeAt Go.RowKit
set_option linter.unusedSimpArgs false
set_option linter.unusedVariables false

theorem take_succ_getDG {l : List En} {k : Nat} (h : k < l.length) : l.take (k + 1) = l.take k ++ [l.getD k default] := by
  rw [List.take_succ_eq_append_getElem h, List.getD_eq_getElem?_getD, List.getElem?_eq_getElem h]
  rfl
set_option maxRecDepth 20000 in
set_option maxHeartbeats 8000000 in
theorem below_of {w : World} {p : Nat} {t : Nat → Ino} (hgt : ∀ wx, Mod nob w wx → ∀ k, k < 32 → Calls Try.prog 26 #[.pointer (some ⟨p, 0, none⟩), .int .i64 (k : Nat)] wx fun e w' => ∃ (m : Ino) (ea xa : Option Addr) (ec xn xc : Nat) (E : Int), e = .returned (.tuple #[.agg (inoL m (.slice ea (t k).ents.length ec)).toArray, .slice xa xn xc, .int .i64 E]) ∧ m.bl.length = 13 ∧ HoldsE w' (.slice ea (t k).ents.length ec) (t k).ents ∧ (∀ g, (Value.slice ea (t k).ents.length ec).ownBlock = some g → wx.heap.size ≤ g) ∧ Below wx.heap.size wx w') (hE : EntsIn t) (hn : ∀ k, k < 32 → (t k).ents.length ≤ 24) (d i : Int) :
    Calls Try.prog 44 #[.pointer (some ⟨p, 0, none⟩), .int .i64 d, .int .i64 i] w fun e w' => e = .returned (.bool (belB t d i)) ∧ Below w.heap.size w w' := by
  have HGT := Lib.hid hgt
  have HNL := Lib.hid hn
  have HB0 : Hid (Met32 (w.alloc (.cells z32i 79)) w.heap.size (fun _ => false)) := Met32.new w
  have HM0 : Hid (Mod nob w (w.alloc (.cells z32i 79))) := (Mod.refl nob w).alloc _
  have HZ0 : Hid ((w.alloc (.cells z32i 79)).heap.size = w.heap.size + 1) := by unfold Hid; simp
  obtain ⟨bb, hbb⟩ : ∃ b, b = belB t d i := ⟨_, rfl⟩
  rw [← hbb]
  have HBB := Lib.hid hbb
  clear hgt hE hn hbb
  go_enter Try.func44, Try.ntmps44
  go_upto_region 2 with (fail)
  generalize w.alloc (.cells z32i 79) = w0 at *
  obtain ⟨Y, hY⟩ : ∃ Y, Y = w.heap.size := ⟨_, rfl⟩
  rw [← hY] at HB0 HZ0 ⊢
  have HYY := Lib.hid hY
  clear hY
  go_wp2_with fail
  have HQ1 : Hid (QAt (w0.alloc (.cells #[.int .i64 d] 3)) (Y + 1) (.slice (some ⟨w0.heap.size, 0, none⟩) 1 1) [d]) := QAt.new d (by have := HZ0.out; omega)
  have HB1 : Hid (Met32 (w0.alloc (.cells #[.int .i64 d] 3)) Y (fun _ => false)) := HB0.out.mod ((Mod.refl nob w0).alloc _) (fun h => h)
  have HM1 : Hid (Mod nob w (w0.alloc (.cells #[.int .i64 d] 3))) := HM0.out.alloc _
  have HW1 : Hid (Walked t d i (fun _ => False) (fun _ => false) [d]) := ⟨fun y hy => by rw [List.mem_singleton.1 hy]; exact .refl, .inr (by simp), (fun y h => h.elim), (fun k _ h => by cases h)⟩
  go_loopg [8] 801 (fun gk qv wr => ∃ (q : List Int) (f : Nat → Bool) (T : Int → Prop), (q.length + 25 * (32 - cntF f 32) ≤ gk ∧ gk ≤ 801) ∧ Hid (Walked t d i T f q) ∧ Hid (Met32 wr Y f) ∧ Hid (QAt wr (Y + 1) qv q) ∧ Hid (Mod nob w wr))
  case atStart =>
    refine ⟨[d], _, _, ⟨?_, Nat.le_refl _⟩, HW1.out, HB1.out, HQ1.out, HM1.out⟩
    rw [List.length_singleton]
    omega
  case round =>
    obtain ⟨q, f, T, ⟨hm1, hm2⟩, HW, HB, HQ, HM⟩ := hrel
    clear HQ1 HB1 HM1 HW1 HB0 HM0
    have hcf := cntF_le f 32
    have HBE : Hid (Below w.heap.size w wr) := nob_mod_below HM.out
    cases q with
    | nil =>
      have hb := HW.out.done
      have HBF := Lib.hid (HBB.out.trans hb)
      obtain ⟨g, o, cap, cur, rfl, -⟩ := HQ.out
      clear hb HBB
      go_wp2_with fail
      go_ret
      exact ⟨by rw [HBF.out]; rfl, HBE.out⟩
    | cons x r =>
      obtain ⟨g, o, cap, cur, hqv, -, hcm, -⟩ := HQ.out
      obtain ⟨n, hn⟩ : ∃ n, n = r.length := ⟨_, rfl⟩
      rw [List.length_cons, ← hn] at hqv hm1
      subst hqv
      obtain ⟨c0, hc1, hp1, hp2⟩ := QAt.pop (r := r) (by rw [← hn]; exact HQ.out)
      rw [← hn] at hp2
      have HN := Lib.hid hn
      have HP1 := Lib.hid hp1
      have HP2 := Lib.hid hp2
      unfold maxLen at hcm
      clear hn hp1 hp2 HQ
      have hn0 : (0 : Int) < (n : Int) + 1 := by omega
      go_upto_region 5 with (fail)
      go_cut [8] (fun v wc => ∃ g2 o2 cap2, v = .slice (some ⟨g2, o2, none⟩) n cap2 ∧ Hid (QAt wr (Y + 1) (.slice (some ⟨g2, o2, none⟩) n cap2) r) ∧ wr = wc)
      case first =>
        rcases Classical.em (cap = 1) with hcap | hcap
        · subst hcap
          obtain ⟨hr0, hq0⟩ := HP1.out rfl
          have hnz : n = 0 := by rw [HN.out, hr0]; rfl
          subst hnz
          have HR0 := Lib.hid hr0
          have HQ0 := Lib.hid hq0
          clear hr0 hq0 HP1 HP2
          go_wp2_with fail
          go_meet
          case rel => exact ⟨g, o, 0, rfl, by rw [HR0.out]; exact HQ0.out, rfl⟩
        · have HQ2 := Lib.hid (HP2.out hcap)
          clear HP1 HP2
          go_wp2_with fail
          go_meet
          case rel => exact ⟨g, o + 1, cap - 1, rfl, HQ2.out, rfl⟩
      case rest =>
        obtain ⟨g2, o2, cap2, rfl, HQR, rfl⟩ := hcut
        clear HP1 HP2 c0 hc1 hcm
        by_cases hxi : x = i
        · have hb : belB t d i = true := belB_true (by rw [← hxi]; exact HW.out.reach x (by simp))
          have HBF := Lib.hid (HBB.out.trans hb)
          clear hb HBB
          go_wp2_with fail
          go_ret
          exact ⟨by rw [HBF.out]; rfl, HBE.out⟩
        · have hxi2 : (x == i) = false := beq_eq_false_iff_ne.2 hxi
          have HXI := Lib.hid hxi
          rcases (show x < 0 ∨ (¬ x < 0 ∧ 32 ≤ x) ∨ (0 ≤ x ∧ x < 32) by omega) with hx | ⟨hx0, hx⟩ | ⟨hx0, hx⟩
          · have HWN : Hid (Walked t d i (fun y => T y ∨ y = x) f r) := HW.out.skip hxi (fun k hk e => by omega)
            clear hxi
            go_wp2_with fail
            go_roundg (gk - 1)
            case measure => omega
            case rel => exact ⟨r, f, _, ⟨by rw [← HN.out]; omega, by omega⟩, HWN.out, HB.out, HQR.out, HM.out⟩
          · have HWN : Hid (Walked t d i (fun y => T y ∨ y = x) f r) := HW.out.skip hxi (fun k hk e => by omega)
            clear hxi
            go_wp2_with fail
            go_roundg (gk - 1)
            case measure => omega
            case rel => exact ⟨r, f, _, ⟨by rw [← HN.out]; omega, by omega⟩, HWN.out, HB.out, HQR.out, HM.out⟩
          · obtain ⟨k, rfl⟩ := Int.eq_ofNat_of_zero_le hx0
            have hk32 : k < 32 := by omega
            have hx1 : ¬ (k : Int) < 0 := by omega
            have hx2 : ¬ (32 : Int) ≤ (k : Int) := by omega
            have ck := HB.out.cell k hk32
            cases hfk : f k with
            | true =>
              rw [hfk] at ck
              have HWN : Hid (Walked t d i (fun y => T y ∨ y = (k : Int)) f r) := HW.out.skip hxi (fun m hm e => by rw [show m = k by omega]; exact hfk)
              clear hxi hfk
              simp only [if_true] at ck
              go_wp2_with fail
              go_roundg (gk - 1)
              case measure => omega
              case rel => exact ⟨r, f, _, ⟨by rw [← HN.out]; omega, by omega⟩, HWN.out, HB.out, HQR.out, HM.out⟩
            | false =>
              rw [hfk] at ck
              have HWN := Lib.hid (HW.out.meet hk32 hxi)
              have hcn := cntF_meet hk32 hfk
              have hcn2 := cntF_le (fun m => if m = k then true else f m) 32
              have HBN := Lib.hid (HB.out.set k)
              have fzk := HB.out.frozen k
              simp only [Bool.false_eq_true, if_false] at ck
              clear hxi hfk
              obtain ⟨f2, hf2⟩ : ∃ f2, f2 = fun m => if m = k then true else f m := ⟨_, rfl⟩
              rw [← hf2] at HWN HBN hcn hcn2
              clear hf2
              obtain ⟨G, hG⟩ : ∃ G, G = gk := ⟨_, rfl⟩
              rw [← hG] at hm1 hm2
              have HGG := Lib.hid hG
              clear hG
              go_upto_region 10 with (fail)
              have HM2 : Hid (Mod nob w (wr.setCell ⟨Y, k, none⟩ (.int .i64 1))) := HM.out.setCell (.inr (by rw [← HYY.out]; exact Nat.le_refl _)) _
              have HQ2 : Hid (QAt (wr.setCell ⟨Y, k, none⟩ (.int .i64 1)) (Y + 1) (.slice (some ⟨g2, o2, none⟩) n cap2) r) := HQR.out.mod ((Mod.refl (fun q => q = Y) wr).setCell (a := ⟨Y, k, none⟩) (.inl rfl) _) (fun q hq e => by have e' : q = Y := e; omega)
              generalize wr.setCell ⟨Y, k, none⟩ (.int .i64 1) = w2 at *
              clear HB HQR ck fzk HW HM
              have HG2 := Lib.hid (HGT.out w2 HM2.out k hk32)
              obtain ⟨L, hL⟩ : ∃ L, L = (t k).ents.length := ⟨_, rfl⟩
              have HL := Lib.hid hL
              have hL24 : L ≤ 24 := by rw [hL]; exact HNL.out k hk32
              rw [← hL] at HG2
              clear hL
              go_wp2_with fail
              refine HG2.out.mono ?_
              rintro e w7 ⟨m, ea, xa, ec, xn, xc, E, rfl, hm13, hmv, hge, hb7⟩
              have HM13 := Lib.hid hm13
              have HMV := Lib.hid hmv
              have HGE := Lib.hid hge
              have HB7 := Lib.hid hb7
              clear hm13 hmv hge hb7 HG2
              have hszA : (inoL m (.slice ea L ec)).toArray.size = 18 := by rw [List.size_toArray]; exact inoL_len HM13.out _
              have HISZ : Hid ((Try.prog.info? 25).map (·.size) = some (inoL m (.slice ea L ec)).toArray.size) := by unfold Hid; rw [hszA]; exact Try.info18
              have HONE : Hid ((inoL m (.slice ea L ec)).toArray.all (·.oneCell') = true) := all_oneCell_toArray (inoL_one rfl)
              have HTH : Hid ((w7.alloc (.cells z18 25)).there w7.heap.size 0 (inoL m (.slice ea L ec)).toArray.size) := by unfold Hid; rw [hszA]; exact ino_there w7 _
              have HROW := Lib.hid (ino_row w7 25 (inoL m (.slice ea L ec)) (inoL_len HM13.out _))
              clear hszA
              go_upto_region 11 with (with_reducible refine wpList_store_mid (op := ⟨none, _, _, _, _, _⟩) rfl 25 _ _ rfl w7.heap.size 0 (inoL m (.slice ea L ec)).toArray rfl rfl HTH.out HISZ.out HONE.out ?_)
              try simp only [Act.put]
              have HIX : Hid (InoB ((w7.alloc (.cells z18 25)).setCells w7.heap.size 0 (inoL m (.slice ea L ec))) w7.heap.size m (.slice ea L ec)) := ⟨HROW.out.1, HM13.out⟩
              have HMX : Hid (Mod nob w7 ((w7.alloc (.cells z18 25)).setCells w7.heap.size 0 (inoL m (.slice ea L ec)))) := mod_of_below HROW.out.2
              clear HROW HTH HISZ HONE
              generalize (w7.alloc (.cells z18 25)).setCells w7.heap.size 0 (inoL m (.slice ea L ec)) = w8 at *
              obtain ⟨X, hX⟩ : ∃ X, X = w7.heap.size := ⟨_, rfl⟩
              rw [← hX] at HIX ⊢
              have HXX := Lib.hid hX
              clear hX
              have HM28 : Hid (Mod nob w2 w8) := (mod_of_below HB7.out).step HMX.out (fun _ h => h)
              have HM8 : Hid (Mod nob w w8) := HM2.out.step HM28.out (fun _ h => h)
              have HQ8 : Hid (QAt w8 (Y + 1) (.slice (some ⟨g2, o2, none⟩) n cap2) r) := HQ2.out.mod HM28.out (fun _ _ h => h)
              have HB8 : Hid (Met32 w8 Y f2) := HBN.out.mod HM28.out (fun h => h)
              have HE8 : Hid (HoldsE w8 (.slice ea L ec) (t k).ents) := HMV.out.mod HMX.out (fun _ _ _ h => h)
              have hg2lt : g2 < w2.heap.size := by
                obtain ⟨g', o', cap', cur', e, -, -, -, hh, -⟩ := HQ2.out
                simp only [Value.slice.injEq, Option.some.injEq, Addr.mk.injEq, and_true] at e
                obtain ⟨⟨rfl, -⟩, -⟩ := e
                exact (Array.getElem?_eq_some_iff.1 hh).1
              have HGQ : Hid (∀ q, (Value.slice ea L ec).ownBlock = some q → q ≠ g2) := fun q hq e => by have := HGE.out q hq; omega
              have HGL : Hid (∀ q, L ≠ 0 → (Value.slice ea L ec).ownBlock = some q → q < w8.heap.size) := fun q h0 hq => HE8.out.lt (fun e => h0 (by rw [HL.out, e]; rfl)) q hq
              have cx := HIX.out.at.ev
              rw [Nat.zero_add] at cx
              clear HQ2 HBN HMV HGE HB7 HMX HM28 HM2 hg2lt HXX
              go_wp2_with fail
              go_loopg [8, 52] L (fun gk qv jv wr => ∃ (j : Nat) (q2 : List Int) (g3 o3 cap3 : Nat), j + gk = L ∧ jv = .int .i64 (j : Nat) ∧ qv = .slice (some ⟨g3, o3, none⟩) (n + j) cap3 ∧ Hid (QAt wr (Y + 1) (.slice (some ⟨g3, o3, none⟩) (n + j) cap3) q2) ∧ Hid (q2 = r ++ ((t k).ents.take j).map En.ino) ∧ Hid (HoldsE wr (.slice ea L ec) (t k).ents) ∧ Hid (∀ q, (Value.slice ea L ec).ownBlock = some q → q ≠ g3) ∧ Hid (Met32 wr Y f2) ∧ Hid (Mod nob w wr))
              case atStart => exact ⟨0, r, g2, o2, cap2, by omega, rfl, rfl, HQ8.out, by unfold Hid; simp, HE8.out, HGQ.out, HB8.out, HM8.out⟩
              case round =>
                obtain ⟨j, q2, g3, o3, cap3, hj, rfl, rfl, HQ3, HQE, HE3, HG3, HB3, HM3⟩ := hrel
                clear HQ8 HE8 HGQ HB8 HM8 cx HIX HGL
                by_cases hltj : j < L
                · have hji : (j : Int) < (L : Int) := by omega
                  obtain ⟨ao1, c1', e, -, hcL, -, hcell⟩ := HE3.out
                  rw [← HL.out] at e
                  simp only [Value.slice.injEq] at e
                  obtain ⟨rfl, -, rfl⟩ := e
                  obtain ⟨g4, o4, rfl, d1, d2⟩ := hcell j (by rw [← HL.out]; exact hltj)
                  have hne : g4 ≠ g3 := HG3.out g4 rfl
                  have hlt4 : g4 < wr.heap.size := HE3.out.lt (fun e => by have := HL.out; rw [e] at this; simp at this; omega) g4 rfl
                  obtain ⟨z, hz⟩ : ∃ z, z = (t k).ents.getD j default := ⟨_, rfl⟩
                  rw [← hz] at d1 d2
                  have hq2n : q2.length = n + j := by
                    obtain ⟨g', o', cap', cur', e, -⟩ := HQ3.out
                    simp only [Value.slice.injEq] at e
                    omega
                  have htk := take_succ_getDG (l := (t k).ents) (k := j) (by rw [← HL.out]; exact hltj)
                  rw [← hz] at htk
                  obtain ⟨zn, zi⟩ := z
                  simp only at d1 d2
                  have HTK := Lib.hid htk
                  have HQN := Lib.hid hq2n
                  have hz1 := HM3.out.size
                  clear hcell hz htk hq2n
                  unfold maxLen at hcL
                  go_upto_region 14 with (fail)
                  have HMA : Hid (Mod nob wr (wr.alloc (.cells #[.string zn, .int .i64 zi] 27))) := (Mod.refl nob wr).alloc _
                  have x1 : (wr.alloc (.cells #[.string zn, .int .i64 zi] 27)).cell? ⟨wr.heap.size, 1, none⟩ = some (.int .i64 zi) := by rw [cell_of_row _ _ _ _ _ _ (heap_alloc_new wr _)]; rfl
                  generalize wr.alloc (.cells #[.string zn, .int .i64 zi] 27) = wb at *
                  have HMB : Hid (Mod nob wr (wb.alloc (.cells #[.int .i64 zi] 3))) := HMA.out.alloc _
                  have hsz := HMB.out.size
                  obtain ⟨v', w', hrun, hq', hmod, hown⟩ := QAt.push (HQ3.out.mod HMB.out (fun _ _ h => h)) (by rw [HYY.out]; have := HMB.out.size; have := hlt4; have h1 : w.heap.size + 1 ≤ wr.heap.size := (by obtain ⟨cs, hh, -⟩ := HB3.out; have := (Array.getElem?_eq_some_iff.1 hh).1; rw [HYY.out] at this; omega); omega) (by rw [HQN.out]; omega) (heap_alloc_new wb _) 56
                  obtain ⟨g5, o5, cap5, cur5, hv', hv5, hv6, hv7, hv8, hv9, hv10⟩ := hq'
                  rw [List.length_append, HQN.out, List.length_singleton] at hv'
                  subst hv'
                  have HRUN := Lib.hid hrun
                  have HQ5 : Hid (QAt w' (Y + 1) (.slice (some ⟨g5, o5, none⟩) (n + j + 1) cap5) (q2 ++ [zi])) := ⟨g5, o5, cap5, cur5, by rw [List.length_append, HQN.out]; rfl, hv5, hv6, hv7, hv8, hv9, hv10⟩
                  have hg3Y : Y + 1 ≤ g3 := by
                    obtain ⟨g', o', cap', cur', e, -, -, h4, -⟩ := HQ3.out
                    simp only [Value.slice.injEq, Option.some.injEq, Addr.mk.injEq, and_true] at e
                    obtain ⟨⟨rfl, -⟩, -⟩ := e
                    exact h4
                  have HE5 : Hid (HoldsE w' (.slice (some ⟨g4, o4, none⟩) L ec) (t k).ents) := (HE3.out.mod HMB.out (fun _ _ _ h => h)).mod hmod (fun _ q hq e => by
                    cases hq
                    have e' : some g3 = some g4 := e
                    cases e'
                    exact hne rfl)
                  have HG5 : Hid (∀ q, (Value.slice (some ⟨g4, o4, none⟩) L ec).ownBlock = some q → q ≠ g5) := fun q hq e => by
                    cases hq
                    subst e
                    rcases hown with h | h
                    · have e' : some g4 = some g3 := h
                      cases e'
                      exact hne rfl
                    · have e' : some g4 = some (wb.alloc (.cells #[.int .i64 zi] 3)).heap.size := h
                      injection e' with e'
                      omega
                  have HB5 : Hid (Met32 w' Y f2) := (HB3.out.mod HMB.out (fun h => h)).mod hmod (fun e => by
                    have e' : some g3 = some Y := e
                    injection e' with e'
                    omega)
                  have HM5 : Hid (Mod nob w w') := (HM3.out.step HMB.out (fun _ h => h)).trans (hmod.mono (fun q hq e => .inr ⟨by
                    have e' : some g3 = some q := e
                    injection e' with e'
                    have := HYY.out
                    omega, hq⟩))
                  clear hrun hown hmod hv5 hv6 hv7 hv8 hv9 hv10 hsz hz1 d1 d2
                  go_wp2_with (with_reducible refine Lib.wpList_append_run (o := ⟨some 60, _, _, _, _, _⟩) _ rfl (.tmp 56) (.tmp 59) 56 56 rfl (.slice (some ⟨g3, o3, none⟩) (n + j) cap3) (.slice (some ⟨wb.heap.size, 0, none⟩) 1 1) rfl rfl _ _ HRUN.out ?_)
                  go_roundg (gk - 1)
                  case measure => omega
                  case rel =>
                    refine ⟨j + 1, q2 ++ [zi], g5, o5, cap5, by omega, by go_num, rfl, HQ5.out, ?_, HE5.out, HG5.out, HB5.out, HM5.out⟩
                    unfold Hid
                    rw [HQE.out, HTK.out, List.map_append, List.append_assoc]
                    rfl
                · obtain rfl : j = L := by omega
                  have hji : ¬ (j : Int) < (j : Int) := by omega
                  have hq3 : q2 = r ++ (t k).ents.map En.ino := by rw [HQE.out, HL.out, List.take_length]
                  have HQQ := Lib.hid hq3
                  have hlen : q2.length = n + j := by
                    obtain ⟨g', o', cap', cur', e, -⟩ := HQ3.out
                    simp only [Value.slice.injEq] at e
                    omega
                  have HLE := Lib.hid hlen
                  clear hq3 hlen
                  go_wp2_with fail
                  go_roundg (G - 1)
                  case measure => have := HGG.out; omega
                  case rel =>
                    refine ⟨q2, f2, _, ⟨?_, by omega⟩, by rw [HQQ.out]; exact HWN.out, HB3.out, HQ3.out, HM3.out⟩
                    rw [HLE.out]
                    omega

/-- What is got of each number. -/
noncomputable def gotT (S : Sh) (k : Nat) : Ino := match getR S (k : Int) with | some r => r.1 | none => ino0
theorem got_cases {S : Sh} (hS : S.Ok) {k : Nat} (hk : k < 32) : (getR S (k : Int) = none ∧ gotT S k = ino0) ∨ ∃ xs, getR S (k : Int) = some (gotT S k, xs) ∧ (gotT S k).Ok ∧ RightP (gotT S k) ∧ (∀ b ∈ xs, b < 256) ∧ xs.length ≤ 40 := by
  cases h : getR S (k : Int) with
  | none => exact .inl ⟨rfl, by unfold gotT; rw [h]⟩
  | some r =>
    obtain ⟨m, xs⟩ := r
    have e : gotT S k = m := by unfold gotT; rw [h]
    obtain ⟨-, h2, h3, h4, h5⟩ := getR_law hS h
    rw [e]
    exact .inr ⟨xs, rfl, h2, h3, h4, h5⟩
theorem got_ents {S : Sh} (hS : S.Ok) : EntsIn (gotT S) ∧ ∀ k, k < 32 → (gotT S k).ents.length ≤ 24 := by
  have hd : ∀ k, k < 32 → (gotT S k).ents = [] ∨ DirOK (gotT S k) := fun k hk => by
    rcases got_cases hS hk with ⟨-, h⟩ | ⟨xs, -, -, hr, -⟩
    · exact .inl (by rw [h]; rfl)
    · rcases hr.2.2.2 with ⟨-, hf⟩ | ⟨-, hd⟩
      · exact .inl hf.2.2.2
      · exact .inr hd
  refine ⟨fun k hk e he => ?_, fun k hk => ?_⟩
  · rcases hd k hk with h0 | hd
    · rw [h0] at he; cases he
    · obtain ⟨q, hq, rfl⟩ := List.getElem_of_mem he
      have := (hd.1 q hq).2.2
      rw [List.getD_eq_getElem?_getD, List.getElem?_eq_getElem hq] at this
      exact this
  · rcases hd k hk with h0 | hd
    · rw [h0]; exact Nat.zero_le _
    · exact hd.2.1
theorem get10 {w : World} {p : Nat} {D : Nat → Prop} {S : Sh} (h : SheetAt w p D S) {k : Nat} (hk : k < 32) :
    Calls Try.prog 26 #[.pointer (some ⟨p, 0, none⟩), .int .i64 (k : Nat)] w fun e w' => ∃ (m : Ino) (ea xa : Option Addr) (ec xn xc : Nat) (E : Int), e = .returned (.tuple #[.agg (inoL m (.slice ea (gotT S k).ents.length ec)).toArray, .slice xa xn xc, .int .i64 E]) ∧ m = gotT S k ∧ E = getE S (k : Int) ∧ HoldsE w' (.slice ea (gotT S k).ents.length ec) (gotT S k).ents ∧ (∀ g, (Value.slice ea (gotT S k).ents.length ec).ownBlock = some g → w.heap.size ≤ g) ∧ Below w.heap.size w w' := by
  have hg := get_ino h (k : Nat)
  rcases got_cases h.ok hk with ⟨e2, e1⟩ | ⟨xs, e2, hok, -⟩
  · rw [e2] at hg
    refine hg.mono ?_
    rintro e w' ⟨hb, rfl⟩
    rw [e1]
    exact ⟨ino0, none, none, 0, 0, 0, _, rfl, rfl, rfl, HoldsE.nil w', (fun g e => by cases e), hb⟩
  · rw [e2] at hg
    refine hg.mono ?_
    rintro e w' ⟨hb, mv, xv, rfl, hmv, hxv, hge, -⟩
    have hmv2 := hmv
    obtain ⟨ea, ec, rfl, -⟩ := hmv2
    obtain ⟨xa, xc, rfl, -⟩ := hxv
    exact ⟨gotT S k, ea, xa, ec, _, xc, _, rfl, rfl, rfl, hmv, hge, hb⟩
theorem got_len {S : Sh} (hS : S.Ok) {k : Nat} (hk : k < 32) : (gotT S k).bl.length = 13 := by
  rcases got_cases hS hk with ⟨-, h⟩ | ⟨xs, -, h, -⟩
  · rw [h]; rfl
  · exact h.len
theorem below10 {w : World} {p : Nat} {D : Nat → Prop} {S : Sh} (h : SheetAt w p D S) (d i : Int) :
    Calls Try.prog 44 #[.pointer (some ⟨p, 0, none⟩), .int .i64 d, .int .i64 i] w fun e w' => e = .returned (.bool (belB (gotT S) d i)) ∧ Below w.heap.size w w' :=
  below_of (t := gotT S) (fun wx hm k hk => (get10 (h.mod hm (fun _ _ h => h)) hk).mono (fun e w' hq => by
    obtain ⟨m, ea, xa, ec, xn, xc, E, he, hm2, -, h1, h2, h3⟩ := hq
    exact ⟨m, ea, xa, ec, xn, xc, E, he, by rw [hm2]; exact got_len h.ok hk, h1, h2, h3⟩)) (got_ents h.ok).1 (got_ents h.ok).2 d i
end Go.Proofs.Ytlopdbhjdijlmaa

namespace Go.Proofs.Ytlopdbhjdijlmaa
open Go.ChangeShapes Go.WideShapes Go.ChangeAt Go.RowKit
set_option linter.unusedSimpArgs false
set_option linter.unusedVariables false

/-- An array of inodes in a block of its own. -/
def TabA (w : World) (B : Nat) (f : Nat → Ino) (ev : Nat → Value) : Prop := w.heap[B]? = some (.cells (tabL f ev).toArray 43 (0, 0)) ∧ Len13 f
theorem TabA.new {f : Nat → Ino} {ev : Nat → Value} (h : Len13 f) (w : World) : TabA (w.alloc (.cells (tabL f ev).toArray 43)) w.heap.size f ev := ⟨heap_alloc_new _ _, h⟩
theorem TabA.mod {w w' : World} {B : Nat} {f : Nat → Ino} {ev : Nat → Value} (h : TabA w B f ev) {D : Nat → Prop} (hm : Mod D w w') (hd : ¬ D B) : TabA w' B f ev := ⟨hm.heap h.1 hd, h.2⟩
theorem TabA.lt {w : World} {B : Nat} {f : Nat → Ino} {ev : Nat → Value} (h : TabA w B f ev) : B < w.heap.size := by
  have := h.1
  by_cases hlt : B < w.heap.size
  · exact hlt
  · rw [Array.getElem?_eq_none (by omega)] at this; cases this
theorem TabA.all {w : World} {B : Nat} {f : Nat → Ino} {ev : Nat → Value} (h : TabA w B f ev) : w.rangeAt B 0 (tabL f ev) := by
  intro j v hj
  rw [Nat.zero_add, cell_of_row _ _ _ _ _ _ h.1]
  simpa using hj
theorem TabA.range {w : World} {B : Nat} {f : Nat → Ino} {ev : Nat → Value} (h : TabA w B f ev) (i : Nat) (hi : i < 32) : w.rangeAt B (i * 18) (inoL (f i) (ev i)) := by
  intro j v hj
  obtain ⟨post, h1, -⟩ := tabTo_split f ev i 32 hi
  have hl := tabTo_len (ev := ev) h.2 i (by omega)
  have hj18 : j < (inoL (f i) (ev i)).length := (List.getElem?_eq_some_iff.1 hj).1
  rw [cell_of_row _ _ _ _ _ _ h.1]
  show (tabTo f ev 32).toArray[i * 18 + j]? = some v
  rw [h1, List.getElem?_toArray, List.getElem?_append_right (by omega), hl, Nat.add_sub_cancel_left, List.getElem?_append_left hj18]
  exact hj
theorem TabA.fmt {w : World} {B : Nat} {f : Nat → Ino} {ev : Nat → Value} (h : TabA w B f ev) (i : Nat) (hi : i < 32) : w.cell? ⟨B, i * 18, none⟩ = some (.int .i64 (f i).format) := by
  have := h.range i hi 0 (.int .i64 (f i).format) rfl
  simpa using this
theorem TabA.frozen {w : World} {B : Nat} {f : Nat → Ino} {ev : Nat → Value} (h : TabA w B f ev) (k : Nat) : w.frozen? ⟨B, k, none⟩ = false := frozen_of_row _ _ _ _ _ h.1
theorem TabA.there {w : World} {B : Nat} {f : Nat → Ino} {ev : Nat → Value} (h : TabA w B f ev) (o n : Nat) (hn : o + n ≤ 576) : w.there B o n := by
  intro j hj
  refine ⟨?_, h.frozen _⟩
  rw [cell_of_row _ _ _ _ _ _ h.1, Array.getElem?_eq_getElem (by rw [List.size_toArray, tabL_len h.2]; omega)]
  rfl
theorem TabA.set {w : World} {B : Nat} {f : Nat → Ino} {ev : Nat → Value} (h : TabA w B f ev) (i : Nat) (hi : i < 32) {m : Ino} (hm : m.bl.length = 13) (v : Value) : TabA (w.setCells B (i * 18) (inoL m v)) B (setT f i m) (setT ev i v) := by
  obtain ⟨post, h1, h2⟩ := tabTo_split f ev i 32 hi
  have hl := tabTo_len (ev := ev) h.2 i (by omega)
  have hh := h.1
  rw [show tabL f ev = tabTo f ev i ++ (inoL (f i) (ev i) ++ post) from h1] at hh
  have := heap_setCells_mid B 43 (inoL m v) (tabTo f ev i) (inoL (f i) (ev i)) post w hh (by rw [inoL_len (h.2 i hi), inoL_len hm])
  rw [hl] at this
  refine ⟨?_, fun j hj => ?_⟩
  · rw [show tabL (setT f i m) (setT ev i v) = tabTo f ev i ++ (inoL m v ++ post) from h2 m v]
    exact this
  · by_cases e : j = i
    · subst e; rw [setT_same]; exact hm
    · rw [setT_ne _ _ e]; exact h.2 j hj
theorem TabA.whole {w : World} {B : Nat} {f g : Nat → Ino} {ev eg : Nat → Value} (h : TabA w B f ev) (hg : Len13 g) : TabA (w.setCells B 0 (tabL g eg)) B g eg := by
  obtain ⟨h1, h2⟩ := h
  have hl := tabL_len (ev := ev) h2
  have hl2 := tabL_len (ev := eg) hg
  refine ⟨?_, hg⟩
  generalize tabL f ev = L at *
  generalize tabL g eg = L2 at *
  exact heap_setCells_all B 43 L2 [] L w h1 (by omega)
theorem Try.info576A : (Try.prog.info? 43).map (·.size) = some 576 := by kernel_rfl
theorem zeroA_eq : Try.zeroCells43 = (tabL inoT0 nilT).toArray := by kernel_rfl

set_option maxRecDepth 20000 in
set_option maxHeartbeats 4000000 in
theorem all10 {w : World} {p : Nat} {D : Nat → Prop} {S : Sh} (h : SheetAt w p D S) :
    Calls Try.prog 78 #[.pointer (some ⟨p, 0, none⟩)] w fun e w' => ∃ ev, e = .returned (.agg (tabL (gotT S) ev).toArray) ∧ HoldsT w' (gotT S) ev ∧ (∀ k, k < 32 → ∀ g, (ev k).ownBlock = some g → w.heap.size ≤ g) ∧ Below w.heap.size w w' := by
  have hok := h.ok
  have HOK := Lib.hid hok
  have HGT : Hid (∀ wx, Mod nob w wx → ∀ k, k < 32 → Calls Try.prog 26 #[.pointer (some ⟨p, 0, none⟩), .int .i64 (k : Nat)] wx fun e w' => ∃ (ea xa : Option Addr) (ec xn xc : Nat) (E : Int), e = .returned (.tuple #[.agg (inoL (gotT S k) (.slice ea (gotT S k).ents.length ec)).toArray, .slice xa xn xc, .int .i64 E]) ∧ HoldsE w' (.slice ea (gotT S k).ents.length ec) (gotT S k).ents ∧ (∀ g, (Value.slice ea (gotT S k).ents.length ec).ownBlock = some g → wx.heap.size ≤ g) ∧ Below wx.heap.size wx w') := fun wx hm k hk =>
    (get10 (h.mod hm (fun _ _ h => h)) hk).mono (fun e w' hq => by
      obtain ⟨m, ea, xa, ec, xn, xc, E, he, rfl, -, h1, h2, h3⟩ := hq
      exact ⟨ea, xa, ec, xn, xc, E, he, h1, h2, h3⟩)
  have HT0 : Hid (TabA (w.alloc (.cells Try.zeroCells43 43)) w.heap.size inoT0 nilT) := by rw [zeroA_eq]; exact TabA.new len13_0 w
  have HM0 : Hid (Mod nob w (w.alloc (.cells Try.zeroCells43 43))) := (Mod.refl nob w).alloc _
  clear h hok
  go_enter Try.func78, Try.ntmps78
  go_upto_region 1 with (fail)
  generalize w.alloc (.cells Try.zeroCells43 43) = w0 at *
  obtain ⟨BR, hBR⟩ : ∃ B, B = w.heap.size := ⟨_, rfl⟩
  rw [← hBR] at HT0 ⊢
  have HBR := Lib.hid hBR
  clear hBR
  have HT1 : Hid (TabA (w0.alloc (.cells Try.zeroCells43 43)) w0.heap.size inoT0 nilT) := by rw [zeroA_eq]; exact TabA.new len13_0 w0
  have HM1 : Hid (Mod nob w (w0.alloc (.cells Try.zeroCells43 43))) := HM0.out.alloc _
  have HT2 : Hid (TabA (w0.alloc (.cells Try.zeroCells43 43)) BR inoT0 nilT) := HT0.out.mod ((Mod.refl nob w0).alloc _) (fun h => h)
  have hlt0 := HT0.out.lt
  go_upto_region 2 with (fail)
  generalize w0.alloc (.cells Try.zeroCells43 43) = w1 at *
  obtain ⟨BT, hBT⟩ : ∃ B, B = w0.heap.size := ⟨_, rfl⟩
  rw [← hBT] at HT1 hlt0 ⊢
  clear hBT HT0 HM0
  have HBT : Hid (w.heap.size ≤ BT) := by have := HBR.out; unfold Hid; omega
  go_wp2_with fail
  go_loopg [5] 32 (fun gk iv wr => ∃ (k : Nat) (f : Nat → Ino) (ev : Nat → Value), k + gk = 32 ∧ iv = .int .i64 (k : Nat) ∧ Hid (TabA wr BT f ev) ∧ Hid (∀ j, j < k → f j = gotT S j) ∧ Hid (HoldsT wr f ev) ∧ Hid (∀ j, j < 32 → ∀ g, (ev j).ownBlock = some g → w.heap.size ≤ g ∧ g ≠ BT ∧ g ≠ BR) ∧ Hid (TabA wr BR inoT0 nilT) ∧ Hid (Mod nob w wr))
  case atStart => exact ⟨0, inoT0, nilT, by omega, rfl, HT1.out, (fun j h => by omega), (fun j hj => HoldsE.nil w1), (fun j hj g hg => by cases hg), HT2.out, HM1.out⟩
  case round =>
    obtain ⟨k, f, ev, hk, rfl, HT, HF, HH, HG, HR, HM⟩ := hrel
    clear HT1 HT2 HM1
    by_cases hlt : k < 32
    · have hki : (k : Int) < 32 := by omega
      have HGK := Lib.hid (HGT.out wr HM.out k hlt)
      have hl13 := got_len HOK.out hlt
      obtain ⟨m, hm⟩ : ∃ m, m = gotT S k := ⟨_, rfl⟩
      obtain ⟨L, hL⟩ : ∃ L, L = (gotT S k).ents.length := ⟨_, rfl⟩
      rw [← hL] at HGK
      rw [← hm] at HGK hl13 hL
      have HMG := Lib.hid hm
      have HL13 := Lib.hid hl13
      clear hm hL hl13
      go_wp2_with fail
      refine HGK.out.mono ?_
      rintro e w5 ⟨ea, xa, ec, xn, xc, E, rfl, hh, hge, hb⟩
      have HHK := Lib.hid hh
      have HGE := Lib.hid hge
      have HX5 : Hid (Mod nob wr w5) := mod_of_below hb
      clear hh hge hb HGK
      have hsz : (inoL m (.slice ea L ec)).toArray.size = 18 := by rw [List.size_toArray]; exact inoL_len HL13.out _
      have HISZ : Hid ((Try.prog.info? 25).map (·.size) = some (inoL m (.slice ea L ec)).toArray.size) := by unfold Hid; rw [hsz]; exact Try.info18
      have HONE : Hid ((inoL m (.slice ea L ec)).toArray.all (·.oneCell') = true) := all_oneCell_toArray (inoL_one rfl)
      have HT5 : Hid (TabA w5 BT f ev) := HT.out.mod HX5.out (fun h => h)
      have HTH : Hid (w5.there BT (k * 18) (inoL m (.slice ea L ec)).toArray.size) := by unfold Hid; rw [hsz]; exact HT5.out.there (k * 18) 18 (by omega)
      clear hsz
      go_wp2_with (with_reducible refine wpList_store_mid (op := ⟨none, _, _, _, _, _⟩) rfl 25 _ _ rfl BT (k * 18) (inoL m (.slice ea L ec)).toArray rfl rfl HTH.out HISZ.out HONE.out ?_)
      have HTN : Hid (TabA (w5.setCells BT (k * 18) (inoL m (.slice ea L ec))) BT (setT f k m) (setT ev k (.slice ea L ec))) := HT5.out.set k hlt HL13.out _
      have HMT : Hid (Mod (fun q => q = BT) w5 (w5.setCells BT (k * 18) (inoL m (.slice ea L ec)))) := Mod.setCells (D := fun q => q = BT) BT (.inl rfl) _ _ _ (Mod.refl _ w5)
      have hrlt := HT.out.lt
      have hrlt2 := HR.out.lt
      have hgr : ∀ g, (Value.slice ea L ec).ownBlock = some g → w.heap.size ≤ g ∧ g ≠ BT ∧ g ≠ BR := fun g hg => by
        have h1 := HGE.out g hg
        have h2 := HM.out.size
        omega
      have HHN : Hid (HoldsT (w5.setCells BT (k * 18) (inoL m (.slice ea L ec))) (setT f k m) (setT ev k (.slice ea L ec))) := by
        refine HoldsT.set (fun j hj => ?_) k ?_
        · exact ((HH.out j hj).mod HX5.out (fun _ _ _ h => h)).mod HMT.out (fun _ g hg e => (HG.out j hj g hg).2.1 e)
        · have h1 := HHK.out
          exact h1.mod HMT.out (fun _ g hg e => (hgr g hg).2.1 e)
      have HGN : Hid (∀ j, j < 32 → ∀ g, (setT ev k (.slice ea L ec) j).ownBlock = some g → w.heap.size ≤ g ∧ g ≠ BT ∧ g ≠ BR) := fun j hj g hg => by
        by_cases e : j = k
        · subst e; rw [setT_same] at hg; exact hgr g hg
        · rw [setT_ne _ _ e] at hg; exact HG.out j hj g hg
      have HFN : Hid (∀ j, j < k + 1 → setT f k m j = gotT S j) := fun j hj => by
        by_cases e : j = k
        · subst e; rw [setT_same]; exact HMG.out
        · rw [setT_ne _ _ e]; exact HF.out j (by omega)
      have HRN : Hid (TabA (w5.setCells BT (k * 18) (inoL m (.slice ea L ec))) BR inoT0 nilT) := (HR.out.mod HX5.out (fun h => h)).mod HMT.out (by omega)
      have HMN : Hid (Mod nob w (w5.setCells BT (k * 18) (inoL m (.slice ea L ec)))) := Mod.setCells BT (.inr HBT.out) _ _ _ (HM.out.step HX5.out (fun _ h => h))
      clear hgr
      go_wp2_with fail
      go_roundg (gk - 1)
      case measure => omega
      case rel => exact ⟨k + 1, setT f k m, setT ev k (.slice ea L ec), by omega, by go_num, HTN.out, HFN.out, HHN.out, HGN.out, HRN.out, HMN.out⟩
    · obtain rfl : k = 32 := by omega
      have hki : ¬ ((32 : Nat) : Int) < 32 := by omega
      have hteq : tabL f ev = tabL (gotT S) ev := tabTo_congr 32 (fun j hj => ⟨HF.out j hj, rfl⟩)
      have hl13 : Len13 (gotT S) := fun j hj => got_len HOK.out hj
      have hra := HT.out.all
      rw [hteq] at hra
      have HRA := Lib.hid hra
      have HHX : Hid (HoldsT wr (gotT S) ev) := fun j hj => by rw [← HF.out j hj]; exact HH.out j hj
      have hsz : (tabL (gotT S) ev).toArray.size = 576 := by rw [List.size_toArray, tabL_len hl13]
      have HISL : Hid ((Try.prog.info? 43).map (·.size) = some (tabL (gotT S) ev).length) := by unfold Hid; rw [tabL_len hl13]; exact Try.info576A
      have HISZ : Hid ((Try.prog.info? 43).map (·.size) = some (tabL (gotT S) ev).toArray.size) := by unfold Hid; rw [hsz]; exact Try.info576A
      have HONE : Hid ((tabL (gotT S) ev).toArray.all (·.oneCell') = true) := all_oneCell_toArray (tabL_one HHX.out.one 32 (Nat.le_refl _))
      have HTH : Hid (wr.there BR 0 (tabL (gotT S) ev).toArray.size) := by unfold Hid; rw [hsz]; exact HR.out.there 0 576 (by omega)
      have HRN : Hid (TabA (wr.setCells BR 0 (tabL (gotT S) ev)) BR (gotT S) ev) := HR.out.whole hl13
      have HMT : Hid (Mod (fun q => q = BR) wr (wr.setCells BR 0 (tabL (gotT S) ev))) := Mod.setCells (D := fun q => q = BR) BR (.inl rfl) _ _ _ (Mod.refl _ wr)
      have HHN : Hid (HoldsT (wr.setCells BR 0 (tabL (gotT S) ev)) (gotT S) ev) := fun j hj => (HHX.out j hj).mod HMT.out (fun _ g hg e => (HG.out j hj g hg).2.2 e)
      have HMN : Hid (Mod nob w (wr.setCells BR 0 (tabL (gotT S) ev))) := Mod.setCells BR (.inr (by rw [HBR.out]; exact Nat.le_refl _)) _ _ _ HM.out
      have HU43 := Lib.hid Try.underlying43
      clear hteq hl13 hra hsz HT HF HH HR HM HHX
      go_upto_region 7 with (fail)
      go_cut [4] (fun _ wc => Hid (TabA wc BR (gotT S) ev) ∧ Hid (HoldsT wc (gotT S) ev) ∧ Hid (Mod nob w wc))
      case first =>
        go_wp2_with (first
          | (with_reducible refine wpList_load_mid (op := ⟨some 18, _, _, _, _, _⟩) rfl 43 _ rfl BT 0 rfl (tabL (gotT S) ev) _ HRA.out HU43.out rfl HISL.out ?_)
          | (with_reducible refine wpList_store_mid (op := ⟨none, _, _, _, _, _⟩) rfl 43 _ _ rfl BR 0 (tabL (gotT S) ev).toArray rfl rfl HTH.out HISZ.out HONE.out ?_))
        go_meet
        case rel => exact ⟨HRN.out, HHN.out, HMN.out⟩
      case rest =>
        obtain ⟨HTC, HHC, HMC⟩ := hcut
        have hlv := run_loadVar_mid (P := Try.prog) wc BR 0 43 _ _ HTC.out.all Try.underlying43 rfl HISL.out
        have HLV := Lib.hid hlv
        clear hlv
        rename_i K9 hK9
        refine hK9 _ _ ?_
        refine wp_ret ?_
        refine bodyPost_ret (v := .agg (tabL (gotT S) ev).toArray) ?_ rfl ⟨ev, rfl, HHC.out, (fun j hj g hg => (HG.out j hj g hg).1), ?_⟩
        · have hlv := HLV.out
          simp [results, Try.results78, asAddr, hlv]
        · exact nob_mod_below HMC.out
end Go.Proofs.Ytlopdbhjdijlmaa

namespace Go.Proofs.Ytlopdbhjdijlmaa
open Go.ChangeShapes Go.WideShapes Go.ChangeAt Go.RowKit
set_option linter.unusedSimpArgs false
set_option linter.unusedVariables false

section
variable {P : Program}
theorem run_index_agg {t e : TypeId} {n size : Nat} (hu : P.underlying t = some (.array n e)) (ha : ∀ w, (isAgg e).run P w = .ok true w) (hs : (P.info? e).map (·.size) = some size)
    (cs : Array Value) (k : IntKind) (i : Nat) (hi : i < n) (w : World) :
    (Instr.index t (.agg cs) (.int k i)).run P w = .ok (.agg (cs.extract (i * size) (i * size + size))) w := by
  obtain ⟨inf, hinf, hsz⟩ := Option.map_eq_some_iff.1 hs
  have hagg := ha w
  simp [Instr.index, asIntOf, run_underlying hu, hi, sizeOf, typeInfo, hinf, hsz, part, Sem.run_bind, hagg]
theorem wpList_index_r {w : World} {ops : Array Oper} {rest : List Oper} {o : Oper} {a : Act} {Q : Exit → Act → World → Prop} (hgd : o.guard = none) (t : TypeId) (x y : Operand)
    (ho : o.op = .index t x y) (v u : Value) (hx : a.eval x = v) (hy : a.eval y = u) {r : Value}
    (hr : (Instr.index t v u).run P w = .ok r w) (h : wpList P ops Q rest (a.put o.dst r) w) : wpList P ops Q (o :: rest) a w :=
  wpList_plain hgd fun _ hK => by
    unfold Oper.wp execOp
    simp only [ho, Sem.run_bind, Sem.run_pure, Result.andThen_ok, hx, hy, hr]
    exact hK _ _ h
end
theorem tab_extract (f : Nat → Ino) (ev : Nat → Value) (h : Len13 f) (i : Nat) (hi : i < 32) : (tabL f ev).toArray.extract (i * 18) (i * 18 + 18) = (inoL (f i) (ev i)).toArray := by
  obtain ⟨post, h1, -⟩ := tabTo_split f ev i 32 hi
  have hl := tabTo_len (ev := ev) h i (by omega)
  have hi18 := inoL_len (h i hi) (ev i)
  apply Array.toList_inj.1
  rw [Array.toList_extract]
  show List.extract (tabL f ev) (i * 18) (i * 18 + 18) = _
  rw [List.extract_eq_take_drop, show tabL f ev = tabTo f ev i ++ (inoL (f i) (ev i) ++ post) from h1, show i * 18 + 18 - i * 18 = 18 by omega, List.drop_append_of_le_length (by omega), ← hl, List.drop_length, List.nil_append, ← hi18, List.take_left]
theorem index_ino10 (f : Nat → Ino) (ev : Nat → Value) (h : Len13 f) (i : Nat) (hi : i < 32) (w : World) :
    (Instr.index 43 (.agg (tabL f ev).toArray) (.int .i64 (i : Nat))).run Try.prog w = .ok (.agg (inoL (f i) (ev i)).toArray) w := by
  rw [run_index_agg Try.underlying43 Try.isAgg25 Try.info18 _ _ i hi w, tab_extract f ev h i hi]
end Go.Proofs.Ytlopdbhjdijlmaa

namespace Go.Proofs.Ytlopdbhjdijlmaa
open Go.ChangeShapes Go.WideShapes Go.ChangeAt Go.RowKit
set_option linter.unusedSimpArgs false
set_option linter.unusedVariables false

/-- All that is there is reached from the first. -/
def ReachP (S : Sh) (n : Nat) : Prop := ∀ k, k < n → (gotT S k).format ≠ 0 → belB (gotT S) 0 (k : Int) = true
open Classical in
noncomputable def reachB (S : Sh) : Bool := decide (ReachP S 32)
open Classical in
theorem reachB_true {S : Sh} (h : ReachP S 32) : reachB S = true := by unfold reachB; exact decide_eq_true h
open Classical in
theorem reachB_false {S : Sh} (h : ¬ ReachP S 32) : reachB S = false := by unfold reachB; exact decide_eq_false h
def InosP (S : Sh) (n : Nat) : Prop := ∀ k : Nat, k < n → getE S (k : Int) = 0 ∨ getE S (k : Int) = 2
open Classical in
noncomputable def inosB (S : Sh) : Bool := decide (InosP S 32)
open Classical in
theorem inosB_true {S : Sh} (h : InosP S 32) : inosB S = true := by unfold inosB; exact decide_eq_true h
open Classical in
theorem inosB_false {S : Sh} (h : ¬ InosP S 32) : inosB S = false := by unfold inosB; exact decide_eq_false h

set_option maxRecDepth 20000 in
set_option maxHeartbeats 4000000 in
theorem reached10 {w : World} {p : Nat} {D : Nat → Prop} {S : Sh} (h : SheetAt w p D S) :
    Calls Try.prog 72 #[.pointer (some ⟨p, 0, none⟩)] w fun e w' => e = .returned (.bool (reachB S)) ∧ Below w.heap.size w w' := by
  have hok := h.ok
  have HOK := Lib.hid hok
  have HAL := Lib.hid (all10 h)
  have HBL : Hid (∀ wx, Mod nob w wx → ∀ i, Calls Try.prog 44 #[.pointer (some ⟨p, 0, none⟩), .int .i64 0, .int .i64 i] wx fun e w' => e = .returned (.bool (belB (gotT S) 0 i)) ∧ Below wx.heap.size wx w') := fun wx hm i => below10 (h.mod hm (fun _ _ h => h)) 0 i
  obtain ⟨bb, hbb⟩ : ∃ b, b = reachB S := ⟨_, rfl⟩
  rw [← hbb]
  have HBB := Lib.hid hbb
  clear h hok hbb
  go_enter Try.func72, Try.ntmps72
  go_wp2_with fail
  refine HAL.out.mono ?_
  rintro e w1 ⟨ev, rfl, hh, -, hb1⟩
  have HH := Lib.hid hh
  have HM1 : Hid (Mod nob w w1) := mod_of_below hb1
  obtain ⟨AT, hAT⟩ : ∃ v, v = Value.agg (tabL (gotT S) ev).toArray := ⟨_, rfl⟩
  have HIDX : Hid (∀ k, k < 32 → ∀ w, (Instr.index 43 AT (.int .i64 (k : Nat))).run Try.prog w = .ok (.agg (inoL (gotT S k) (ev k)).toArray) w) := fun k hk w => by rw [hAT]; exact index_ino10 _ _ (fun j hj => got_len HOK.out hj) k hk w
  rw [← hAT]
  clear hh hb1 HAL hAT
  go_wp2_with fail
  go_loopg [7] 32 (fun gk iv wr => ∃ k : Nat, k + gk = 32 ∧ iv = .int .i64 (k : Nat) ∧ Hid (ReachP S k) ∧ Hid (Mod nob w wr))
  case atStart => exact ⟨0, by omega, rfl, (fun j h => by omega), HM1.out⟩
  case round =>
    obtain ⟨k, hk, rfl, HRP, HM⟩ := hrel
    by_cases hlt : k < 32
    · have hki : (k : Int) < 32 := by omega
      have HIK := Lib.hid (HIDX.out k hlt wr)
      have hl13 := got_len HOK.out hlt
      have hv1 : (ev k).oneCell' = true := by obtain ⟨a, c, e, -⟩ := HH.out k hlt; rw [e]; rfl
      obtain ⟨m, hm⟩ : ∃ m, m = gotT S k := ⟨_, rfl⟩
      obtain ⟨v, hv⟩ : ∃ v, v = ev k := ⟨_, rfl⟩
      rw [← hm, ← hv] at HIK
      rw [← hm] at hl13
      rw [← hv] at hv1
      have HMG := Lib.hid hm
      have HL13 := Lib.hid hl13
      have HV1 := Lib.hid hv1
      clear hm hv hl13 hv1
      have hszA : (inoL m v).toArray.size = 18 := by rw [List.size_toArray]; exact inoL_len HL13.out _
      have HISZ : Hid ((Try.prog.info? 25).map (·.size) = some (inoL m v).toArray.size) := by unfold Hid; rw [hszA]; exact Try.info18
      have HONE : Hid ((inoL m v).toArray.all (·.oneCell') = true) := all_oneCell_toArray (inoL_one HV1.out)
      have HTH : Hid ((wr.alloc (.cells z18 25)).there wr.heap.size 0 (inoL m v).toArray.size) := by unfold Hid; rw [hszA]; exact ino_there wr _
      have HROW := Lib.hid (ino_row wr 25 (inoL m v) (inoL_len HL13.out _))
      clear hszA
      go_upto_region 4 with (first
        | (with_reducible refine wpList_index_r (o := ⟨some 10, _, _, _, _, _⟩) rfl 43 (.tmp 6) (.tmp 7) rfl AT (.int .i64 (k : Nat)) rfl rfl HIK.out ?_)
        | (with_reducible refine wpList_store_mid (op := ⟨none, _, _, _, _, _⟩) rfl 25 _ _ rfl wr.heap.size 0 (inoL m v).toArray rfl rfl HTH.out HISZ.out HONE.out ?_))
      try simp only [Act.put]
      have HIX : Hid (InoB ((wr.alloc (.cells z18 25)).setCells wr.heap.size 0 (inoL m v)) wr.heap.size m v) := ⟨HROW.out.1, HL13.out⟩
      have HMX : Hid (Mod nob wr ((wr.alloc (.cells z18 25)).setCells wr.heap.size 0 (inoL m v))) := mod_of_below HROW.out.2
      clear HROW HTH HISZ HONE
      generalize (wr.alloc (.cells z18 25)).setCells wr.heap.size 0 (inoL m v) = w2 at *
      obtain ⟨X, hX⟩ : ∃ X, X = wr.heap.size := ⟨_, rfl⟩
      rw [← hX] at HIX ⊢
      clear hX
      have c0 := HIX.out.at.c0
      have HM2 : Hid (Mod nob w w2) := HM.out.step HMX.out (fun _ h => h)
      have HBK := Lib.hid (HBL.out w2 HM2.out (k : Nat))
      obtain ⟨q, hq⟩ : ∃ q, q = belB (gotT S) 0 (k : Int) := ⟨_, rfl⟩
      rw [← hq] at HBK
      have HQ := Lib.hid hq
      clear hq
      by_cases h0 : m.format = 0
      · rw [h0] at c0
        have HRN : Hid (ReachP S (k + 1)) := fun j hj hf => by
          by_cases e : j = k
          · subst e; rw [← HMG.out] at hf; exact absurd h0 hf
          · exact HRP.out j (by omega) hf
        clear h0
        go_wp2_with fail
        go_roundg (gk - 1)
        case measure => omega
        case rel => exact ⟨k + 1, by omega, by go_num, HRN.out, HM2.out⟩
      · have HF0 := Lib.hid h0
        have HFZ : Hid (m.format ≠ 0) := h0
        obtain ⟨fo, hfo⟩ : ∃ fo, fo = m.format := ⟨_, rfl⟩
        rw [← hfo] at c0 h0
        clear hfo
        cases q with
        | true =>
          have HRN : Hid (ReachP S (k + 1)) := fun j hj hf => by
            by_cases e : j = k
            · subst e; exact HQ.out.symm
            · exact HRP.out j (by omega) hf
          go_wp2_with (go_at_call 44; (with_reducible refine HBK.out.mono ?_); (rintro e w3 ⟨rfl, hb3⟩))
          have HM3 : Hid (Mod nob w w3) := HM2.out.step (mod_of_below hb3) (fun _ h => h)
          clear hb3
          go_roundg (gk - 1)
          case measure => omega
          case rel => exact ⟨k + 1, by omega, by go_num, HRN.out, HM3.out⟩
        | false =>
          have hbf : bb = false := by
            rw [HBB.out]
            refine reachB_false (fun hp => ?_)
            have h1 := hp k hlt (by rw [← HMG.out]; exact HFZ.out)
            rw [← HQ.out] at h1
            cases h1
          have HBF := Lib.hid hbf
          clear hbf
          go_wp2_with (go_at_call 44; (with_reducible refine HBK.out.mono ?_); (rintro e w3 ⟨rfl, hb3⟩))
          have HM3 : Hid (Mod nob w w3) := HM2.out.step (mod_of_below hb3) (fun _ h => h)
          clear hb3
          go_ret
          exact ⟨by rw [HBF.out]; rfl, nob_mod_below HM3.out⟩
    · obtain rfl : k = 32 := by omega
      have hki : ¬ ((32 : Nat) : Int) < 32 := by omega
      have hbt : bb = true := by
        rw [HBB.out]
        exact reachB_true HRP.out
      have HBT := Lib.hid hbt
      clear hbt
      go_wp2_with fail
      go_ret
      exact ⟨by rw [HBT.out]; rfl, nob_mod_below HM.out⟩
end Go.Proofs.Ytlopdbhjdijlmaa

namespace Go.Proofs.Ytlopdbhjdijlmaa
open Go.ChangeShapes Go.WideShapes Go.ChangeAt Go.RowKit
set_option linter.unusedSimpArgs false
set_option linter.unusedVariables false

/-- How many of the first j entries go to i; how many of the first k inodes' entries. -/
def cntL (l : List En) (i : Nat) : Nat → Nat
  | 0 => 0
  | j + 1 => cntL l i j + if (l.getD j default).ino = (i : Int) then 1 else 0
def cntT (t : Nat → Ino) (i : Nat) : Nat → Nat
  | 0 => 0
  | k + 1 => cntT t i k + cntL (t k).ents i (t k).ents.length
theorem cntL_le (l : List En) (i j : Nat) : cntL l i j ≤ j := by
  induction j with
  | zero => exact Nat.le_refl _
  | succ j ih => unfold cntL; split <;> omega
theorem cntT_le {t : Nat → Ino} (h : ∀ k, k < 32 → (t k).ents.length ≤ 24) (i : Nat) : ∀ k, k ≤ 32 → cntT t i k ≤ 24 * k
  | 0, _ => Nat.le_refl _
  | k + 1, hk => by
    have h1 := cntT_le h i k (by omega)
    have h2 := cntL_le (t k).ents i (t k).ents.length
    have h3 := h k (by omega)
    unfold cntT
    omega

/-- A block of 32 numbers. -/
def Ints32 (w : World) (g : Nat) (c : Nat → Nat) : Prop :=
  ∃ cs : Array Value, w.heap[g]? = some (.cells cs 79 (0, 0)) ∧ cs.size = 32 ∧ ∀ i, i < 32 → cs[i]? = some (.int .i64 (c i : Nat))
theorem Ints32.cell {w : World} {g : Nat} {c : Nat → Nat} (h : Ints32 w g c) (i : Nat) (hi : i < 32) : w.cell? ⟨g, i, none⟩ = some (.int .i64 (c i : Nat)) := by
  obtain ⟨cs, hg, _, hc⟩ := h
  rw [cell_of_row _ _ _ _ _ _ hg]
  exact hc i hi
theorem Ints32.frozen {w : World} {g : Nat} {c : Nat → Nat} (h : Ints32 w g c) (i : Nat) : w.frozen? ⟨g, i, none⟩ = false := by
  obtain ⟨cs, hg, _⟩ := h
  exact frozen_of_row w g i cs _ hg
theorem Ints32.mod {w w' : World} {g : Nat} {c : Nat → Nat} (h : Ints32 w g c) {D : Nat → Prop} (hm : Mod D w w') (hg : ¬ D g) : Ints32 w' g c := by
  obtain ⟨cs, hh, r⟩ := h
  exact ⟨cs, hm.heap hh hg, r⟩
theorem Ints32.lt {w : World} {g : Nat} {c : Nat → Nat} (h : Ints32 w g c) : g < w.heap.size := by
  obtain ⟨cs, hh, r⟩ := h
  exact lt_of_block hh
theorem Ints32.congr {w : World} {g : Nat} {c d : Nat → Nat} (h : Ints32 w g c) (he : ∀ i, i < 32 → c i = d i) : Ints32 w g d := by
  obtain ⟨cs, hh, h1, h4⟩ := h
  exact ⟨cs, hh, h1, fun i hi => by rw [h4 i hi, he i hi]⟩
theorem Ints32.set {w : World} {g : Nat} {c : Nat → Nat} (h : Ints32 w g c) (i : Nat) (v : Nat) : Ints32 (w.setCell ⟨g, i, none⟩ (.int .i64 (v : Nat))) g (fun k => if k = i then v else c k) := by
  obtain ⟨cs, hh, h1, h4⟩ := h
  refine ⟨_, heap_setCell_same w g i cs _ _ hh, by simpa using h1, fun k hk => ?_⟩
  by_cases e : k = i
  · subst e
    rw [Array.getElem?_setIfInBounds]
    simp only [if_true]
    rw [if_pos (by omega)]
  · rw [Array.getElem?_setIfInBounds]
    rw [if_neg (fun h => e h.symm)]
    simp only [if_neg e]
    exact h4 k hk
abbrev z32n : Array Value := #[.int .i64 0, .int .i64 0, .int .i64 0, .int .i64 0, .int .i64 0, .int .i64 0, .int .i64 0, .int .i64 0, .int .i64 0, .int .i64 0, .int .i64 0, .int .i64 0, .int .i64 0, .int .i64 0, .int .i64 0, .int .i64 0, .int .i64 0, .int .i64 0, .int .i64 0, .int .i64 0, .int .i64 0, .int .i64 0, .int .i64 0, .int .i64 0, .int .i64 0, .int .i64 0, .int .i64 0, .int .i64 0, .int .i64 0, .int .i64 0, .int .i64 0, .int .i64 0]
theorem Ints32.new (w : World) : Ints32 (w.alloc (.cells z32n 79)) w.heap.size (fun _ => 0) := by
  refine ⟨_, heap_alloc_new _ _, rfl, fun i hi => ?_⟩
  have e : z32n = (List.replicate 32 (Value.int .i64 0)).toArray := rfl
  rw [e, List.getElem?_toArray, List.getElem?_replicate, if_pos hi]
  rfl
/-- The numbers as a list. -/
def intsL (c : Nat → Nat) : List Value := (List.range 32).map fun i => Value.int .i64 (c i : Nat)
theorem intsL_len (c : Nat → Nat) : (intsL c).length = 32 := by simp [intsL]
theorem intsL_one (c : Nat → Nat) : ∀ u ∈ intsL c, u.oneCell' = true := fun u hu => by
  unfold intsL at hu
  obtain ⟨i, -, rfl⟩ := List.mem_map.1 hu
  rfl
theorem Ints32.range {w : World} {g : Nat} {c : Nat → Nat} (h : Ints32 w g c) : w.rangeAt g 0 (intsL c) := by
  intro j v hj
  have hjl : j < 32 := by have := (List.getElem?_eq_some_iff.1 hj).1; rw [intsL_len] at this; exact this
  rw [Nat.zero_add, h.cell j hjl, ← hj]
  unfold intsL
  rw [List.getElem?_map, List.getElem?_range hjl]
  rfl
theorem Ints32.there {w : World} {g : Nat} {c : Nat → Nat} (h : Ints32 w g c) : w.there g 0 32 := fun j hj => by
  refine ⟨?_, h.frozen _⟩
  rw [Nat.zero_add, h.cell j hj]
  rfl
theorem Ints32.whole {w : World} {g : Nat} {c : Nat → Nat} (h : Ints32 w g c) (d : Nat → Nat) : Ints32 (w.setCells g 0 (intsL d)) g d := by
  obtain ⟨cs, hh, h1, h4⟩ := h
  have e : cs = (([] : List Value) ++ cs.toList).toArray := by simp
  rw [e] at hh
  have := heap_setCells_all g 79 (intsL d) [] cs.toList w hh (by rw [intsL_len, Array.length_toList, h1])
  rw [List.length_nil] at this
  refine ⟨_, this, by simp [intsL_len], fun i hi => ?_⟩
  rw [List.nil_append, List.getElem?_toArray]
  unfold intsL
  rw [List.getElem?_map, List.getElem?_range hi]
  rfl
theorem Try.info32 : (Try.prog.info? 79).map (·.size) = some 32 := by kernel_rfl

set_option maxRecDepth 20000 in
set_option maxHeartbeats 4000000 in
theorem counts10 {w : World} {p : Nat} {D : Nat → Prop} {S : Sh} (h : SheetAt w p D S) :
    Calls Try.prog 40 #[.pointer (some ⟨p, 0, none⟩)] w fun e w' => e = .returned (.agg (intsL fun i => cntT (gotT S) i 32).toArray) ∧ Below w.heap.size w w' := by
  have hok := h.ok
  have HAL : Hid (∀ wx, Mod nob w wx → Calls Try.prog 78 #[.pointer (some ⟨p, 0, none⟩)] wx fun e w' => ∃ ev, e = .returned (.agg (tabL (gotT S) ev).toArray) ∧ HoldsT w' (gotT S) ev ∧ (∀ k, k < 32 → ∀ g, (ev k).ownBlock = some g → wx.heap.size ≤ g) ∧ Below wx.heap.size wx w') := fun wx hm => all10 (h.mod hm (fun _ _ h => h))
  obtain ⟨hei, hlen⟩ := got_ents hok
  have HEI := Lib.hid hei
  have HLE := Lib.hid hlen
  have HL13 : Hid (Len13 (gotT S)) := fun j hj => got_len hok hj
  have hc32 := fun i => cntT_le hlen i 32 (Nat.le_refl _)
  have HB0 : Hid (Ints32 (w.alloc (.cells z32n 79)) w.heap.size (fun _ => 0)) := Ints32.new w
  have HB1 : Hid (Ints32 ((w.alloc (.cells z32n 79)).alloc (.cells z32n 79)) (w.heap.size + 1) (fun _ => 0)) := by
    have := Ints32.new (w.alloc (.cells z32n 79))
    rw [show (w.alloc (.cells z32n 79)).heap.size = w.heap.size + 1 by simp] at this
    exact this
  have HB2 : Hid (Ints32 ((w.alloc (.cells z32n 79)).alloc (.cells z32n 79)) w.heap.size (fun _ => 0)) := HB0.out.mod ((Mod.refl nob _).alloc _) (fun h => h)
  have HM0 : Hid (Mod nob w ((w.alloc (.cells z32n 79)).alloc (.cells z32n 79))) := ((Mod.refl nob w).alloc _).alloc _
  clear h hok hei hlen hc32
  go_enter Try.func40, Try.ntmps40
  go_upto_region 2 with (fail)
  generalize (w.alloc (.cells z32n 79)).alloc (.cells z32n 79) = w0 at *
  obtain ⟨BR, hBR⟩ : ∃ B, B = w.heap.size := ⟨_, rfl⟩
  rw [← hBR] at HB1 HB2 ⊢
  have HBR := Lib.hid hBR
  clear hBR HB0
  have HAL0 := Lib.hid (HAL.out w0 HM0.out)
  go_wp2_with fail
  refine HAL0.out.mono ?_
  rintro e w1 ⟨ev, rfl, hh, hge, hb1⟩
  have HH := Lib.hid hh
  have HGE := Lib.hid hge
  have HX1 : Hid (Mod nob w0 w1) := mod_of_below hb1
  have HM1 : Hid (Mod nob w w1) := HM0.out.step HX1.out (fun _ h => h)
  have HC1 : Hid (Ints32 w1 (BR + 1) (fun _ => 0)) := HB1.out.mod HX1.out (fun h => h)
  have HR1 : Hid (Ints32 w1 BR (fun _ => 0)) := HB2.out.mod HX1.out (fun h => h)
  have hlt1 := HB1.out.lt
  have HEB : Hid (∀ k, k < 32 → ∀ g, (ev k).ownBlock = some g → g ≠ BR + 1) := fun k hk g hg e => by have := HGE.out k hk g hg; omega
  obtain ⟨AT, hAT⟩ : ∃ v, v = Value.agg (tabL (gotT S) ev).toArray := ⟨_, rfl⟩
  have HIDX : Hid (∀ k, k < 32 → ∀ w, (Instr.index 43 AT (.int .i64 (k : Nat))).run Try.prog w = .ok (.agg (inoL (gotT S k) (ev k)).toArray) w) := fun k hk w => by rw [hAT]; exact index_ino10 _ _ HL13.out k hk w
  rw [← hAT]
  clear hAT hh hge hb1 HAL HAL0 HB1 HB2 hlt1 HX1 HGE
  go_wp2_with fail
  go_loopg [10] 32 (fun gk iv wr => ∃ (k : Nat) (c : Nat → Nat), k + gk = 32 ∧ iv = .int .i64 (k : Nat) ∧ Hid (∀ i, i < 32 → c i = cntT (gotT S) i k) ∧ Hid (Ints32 wr (BR + 1) c) ∧ Hid (Ints32 wr BR (fun _ => 0)) ∧ Hid (HoldsT wr (gotT S) ev) ∧ Hid (Mod nob w wr))
  case atStart => exact ⟨0, _, by omega, rfl, (fun i hi => rfl), HC1.out, HR1.out, HH.out, HM1.out⟩
  case round =>
    obtain ⟨k, c, hk, rfl, HCC, HC, HR, HHW, HM⟩ := hrel
    clear HC1 HR1 HH HM1
    by_cases hlt : k < 32
    · have hki : (k : Int) < 32 := by omega
      have HIK := Lib.hid (HIDX.out k hlt wr)
      have hl13 := HL13.out k hlt
      obtain ⟨m, hm⟩ : ∃ m, m = gotT S k := ⟨_, rfl⟩
      obtain ⟨ea, ec, hvv, hec, hec2, -, -⟩ := HHW.out k hlt
      obtain ⟨L, hL⟩ : ∃ L, L = (gotT S k).ents.length := ⟨_, rfl⟩
      obtain ⟨v, hv⟩ : ∃ v, v = ev k := ⟨_, rfl⟩
      rw [← hv, ← hL] at hvv
      rw [← hm, ← hv] at HIK
      rw [← hm] at hl13
      have HV1 : Hid (v.oneCell' = true) := by rw [hvv]; rfl
      have HVV := Lib.hid hvv
      have HVE := Lib.hid hv
      have HMG := Lib.hid hm
      have HLL := Lib.hid hL
      have hL24 : L ≤ 24 := by rw [hL]; exact HLE.out k hlt
      have HL1 := HL13
      clear HL13
      have HL13 := Lib.hid hl13
      unfold maxLen at hec2
      rw [← hL] at hec
      clear hm hv hl13 hvv hL
      have hszA : (inoL m v).toArray.size = 18 := by rw [List.size_toArray]; exact inoL_len HL13.out _
      have HISZ : Hid ((Try.prog.info? 25).map (·.size) = some (inoL m v).toArray.size) := by unfold Hid; rw [hszA]; exact Try.info18
      have HONE : Hid ((inoL m v).toArray.all (·.oneCell') = true) := all_oneCell_toArray (inoL_one HV1.out)
      have HTH : Hid ((wr.alloc (.cells z18 25)).there wr.heap.size 0 (inoL m v).toArray.size) := by unfold Hid; rw [hszA]; exact ino_there wr _
      have HROW := Lib.hid (ino_row wr 25 (inoL m v) (inoL_len HL13.out _))
      clear hszA
      go_upto_region 5 with (first
        | (with_reducible refine wpList_index_r (o := ⟨some 12, _, _, _, _, _⟩) rfl 43 (.tmp 9) (.tmp 10) rfl AT (.int .i64 (k : Nat)) rfl rfl HIK.out ?_)
        | (with_reducible refine wpList_store_mid (op := ⟨none, _, _, _, _, _⟩) rfl 25 _ _ rfl wr.heap.size 0 (inoL m v).toArray rfl rfl HTH.out HISZ.out HONE.out ?_))
      try simp only [Act.put]
      have HIX : Hid (InoB ((wr.alloc (.cells z18 25)).setCells wr.heap.size 0 (inoL m v)) wr.heap.size m v) := ⟨HROW.out.1, HL13.out⟩
      have HMX : Hid (Mod nob wr ((wr.alloc (.cells z18 25)).setCells wr.heap.size 0 (inoL m v))) := mod_of_below HROW.out.2
      clear HROW HTH HISZ HONE
      generalize (wr.alloc (.cells z18 25)).setCells wr.heap.size 0 (inoL m v) = w5 at *
      obtain ⟨X, hX⟩ : ∃ X, X = wr.heap.size := ⟨_, rfl⟩
      rw [← hX] at HIX ⊢
      clear hX
      have cx := HIX.out.at.ev
      rw [Nat.zero_add, HVV.out] at cx
      have HC5 : Hid (Ints32 w5 (BR + 1) c) := HC.out.mod HMX.out (fun h => h)
      have HR5 : Hid (Ints32 w5 BR (fun _ => 0)) := HR.out.mod HMX.out (fun h => h)
      have HH5 : Hid (HoldsT w5 (gotT S) ev) := HHW.out.still HMX.out
      have HM5 : Hid (Mod nob w w5) := HM.out.step HMX.out (fun _ h => h)
      clear HIX HMX HIK HC HR HHW HM
      have HL13 := HL1
      obtain ⟨wq, hwq⟩ : ∃ y : World, y = w5 := ⟨_, rfl⟩
      go_wp2_with fail
      go_loopg [16] L (fun gk iv wr => ∃ (j : Nat) (d : Nat → Nat), j + gk = L ∧ iv = .int .i64 (j : Nat) ∧ Hid (∀ i, i < 32 → d i = cntT (gotT S) i k + cntL (gotT S k).ents i j) ∧ Hid (Ints32 wr (BR + 1) d) ∧ Hid (Ints32 wr BR (fun _ => 0)) ∧ Hid (HoldsT wr (gotT S) ev) ∧ Hid (Mod nob w wr))
      case atStart => exact ⟨0, c, by omega, rfl, (fun i hi => HCC.out i hi), HC5.out, HR5.out, HH5.out, HM5.out⟩
      case round =>
        obtain ⟨j, d, hj, rfl, HDC, HDI, HRI, HHI, HMW⟩ := hrel
        clear cx HC5 HR5 HH5 HM5 hwq
        by_cases hltj : j < L
        · have hji : (j : Int) < (L : Int) := by omega
          obtain ⟨ea', ec', e, -, -, -, hcells⟩ := HHI.out k hlt
          obtain ⟨g, o, hea, d1, d2⟩ := hcells j (by rw [← HLL.out]; exact hltj)
          have hev : Value.slice ea L ec = Value.slice ea' (gotT S k).ents.length ec' := HVV.out.symm.trans (HVE.out.trans e)
          simp only [Value.slice.injEq] at hev
          obtain ⟨rfl, -, rfl⟩ := hev
          subst hea
          have hmem : (gotT S k).ents.getD j default ∈ (gotT S k).ents := by
            rw [List.getD_eq_getElem?_getD, List.getElem?_eq_getElem (by rw [← HLL.out]; exact hltj)]
            exact List.getElem_mem _
          obtain ⟨z0, z1⟩ := HEI.out k hlt _ hmem
          obtain ⟨z, hz⟩ : ∃ z, z = (gotT S k).ents.getD j default := ⟨_, rfl⟩
          rw [← hz] at d1 d2 z0 z1
          have HZZ := Lib.hid hz
          obtain ⟨zn, zi⟩ := z
          simp only at d1 d2 z0 z1
          obtain ⟨q, rfl⟩ := Int.eq_ofNat_of_zero_le z0
          have hq32 : q < 32 := by omega
          have HMA : Hid (Mod nob wr (wr.alloc (.cells #[.string zn, .int .i64 (q : Nat)] 27))) := (Mod.refl nob wr).alloc _
          have HDA : Hid (Ints32 (wr.alloc (.cells #[.string zn, .int .i64 (q : Nat)] 27)) (BR + 1) d) := HDI.out.mod HMA.out (fun h => h)
          have hd1 := HDC.out q hq32
          have hd2 := cntT_le HLE.out q k (by omega)
          have hd3 := cntL_le (gotT S k).ents q j
          have cd := HDA.out.cell q hq32
          have fd := HDA.out.frozen q
          obtain ⟨dv, hdv⟩ : ∃ dv, dv = d q := ⟨_, rfl⟩
          rw [← hdv] at cd hd1
          have hdv2 : dv ≤ 1000 := by omega
          have HDN := Lib.hid (HDA.out.set q (dv + 1))
          have HMS : Hid (Mod (fun y => y = BR + 1) wr ((wr.alloc (.cells #[.string zn, .int .i64 (q : Nat)] 27)).setCell ⟨BR + 1, q, none⟩ (.int .i64 ((dv + 1 : Nat) : Int)))) := (Mod.mono (D' := fun y => y = BR + 1) HMA.out (fun _ _ h => h.elim)).setCell (a := ⟨BR + 1, q, none⟩) (.inl rfl) _
          have HMN : Hid (Mod nob w ((wr.alloc (.cells #[.string zn, .int .i64 (q : Nat)] 27)).setCell ⟨BR + 1, q, none⟩ (.int .i64 ((dv + 1 : Nat) : Int)))) := (HMW.out.step HMA.out (fun _ h => h)).setCell (.inr (by have := HBR.out; show w.heap.size ≤ BR + 1; omega)) _
          have HRN : Hid (Ints32 ((wr.alloc (.cells #[.string zn, .int .i64 (q : Nat)] 27)).setCell ⟨BR + 1, q, none⟩ (.int .i64 ((dv + 1 : Nat) : Int))) BR (fun _ => 0)) := HRI.out.mod HMS.out (by omega)
          have HHN : Hid (HoldsT ((wr.alloc (.cells #[.string zn, .int .i64 (q : Nat)] 27)).setCell ⟨BR + 1, q, none⟩ (.int .i64 ((dv + 1 : Nat) : Int))) (gotT S) ev) := fun r hr => (HHI.out r hr).mod HMS.out (fun _ g hg e => HEB.out r hr g hg e)
          have HDD : Hid (∀ i, i < 32 → (fun y => if y = q then dv + 1 else d y) i = cntT (gotT S) i k + cntL (gotT S k).ents i (j + 1)) := fun i hi => by
            have h1 := HDC.out i hi
            have h2 : cntL (gotT S k).ents i (j + 1) = cntL (gotT S k).ents i j + if ((gotT S k).ents.getD j default).ino = (i : Int) then 1 else 0 := rfl
            rw [h2, ← HZZ.out]
            show (if i = q then dv + 1 else d i) = _
            by_cases e : i = q
            · subst e
              rw [if_pos rfl, if_pos rfl]
              omega
            · rw [if_neg e, if_neg (by simp only; omega)]
              omega
          have hwr : (dv : Int) + 1 = ((dv + 1 : Nat) : Int) := by omega
          have HWR := Lib.hid hwr
          clear hcells hmem hz hd1 hd2 hd3 hdv HMA HDA HMS e hwr
          go_upto_region 8 with (fail)
          go_upto_region 9 with (fail)
          first
            | rw [HWR.out]
            | skip
          generalize (wr.alloc (.cells #[.string zn, .int .i64 (q : Nat)] 27)).setCell ⟨BR + 1, q, none⟩ (.int .i64 ((dv + 1 : Nat) : Int)) = w9 at *
          clear cd fd
          go_wp2_with fail
          go_roundg (gk - 1)
          case measure => omega
          case rel => exact ⟨j + 1, _, by omega, by go_num, HDD.out, HDN.out, HRN.out, HHN.out, HMN.out⟩
        · obtain rfl : j = L := by omega
          have hji : ¬ (j : Int) < (j : Int) := by omega
          have HCN : Hid (∀ i, i < 32 → d i = cntT (gotT S) i (k + 1)) := fun i hi => by
            rw [HDC.out i hi, HLL.out]; rfl
          go_wp2_with fail
          go_roundg (32 - k - 1)
          case measure => omega
          case rel => exact ⟨k + 1, d, by omega, by go_num, HCN.out, HDI.out, HRI.out, HHI.out, HMW.out⟩
    · obtain rfl : k = 32 := by omega
      have hki : ¬ ((32 : Nat) : Int) < 32 := by omega
      obtain ⟨ct, hct⟩ : ∃ ct : Nat → Nat, ct = fun i => cntT (gotT S) i 32 := ⟨_, rfl⟩
      have HC2 : Hid (Ints32 wr (BR + 1) ct) := HC.out.congr (fun i hi => by rw [HCC.out i hi, hct])
      have HCT := Lib.hid hct
      have HRA := Lib.hid HC2.out.range
      have HISL : Hid ((Try.prog.info? 79).map (·.size) = some (intsL ct).length) := by unfold Hid; rw [intsL_len]; exact Try.info32
      have HISZ : Hid ((Try.prog.info? 79).map (·.size) = some (intsL ct).toArray.size) := by unfold Hid; rw [List.size_toArray, intsL_len]; exact Try.info32
      have HONE : Hid ((intsL ct).toArray.all (·.oneCell') = true) := all_oneCell_toArray (intsL_one ct)
      have HTH : Hid (wr.there BR 0 (intsL ct).toArray.size) := by unfold Hid; rw [List.size_toArray, intsL_len]; exact HR.out.there
      have HRN : Hid (Ints32 (wr.setCells BR 0 (intsL ct)) BR ct) := HR.out.whole ct
      have HMN : Hid (Mod nob w (wr.setCells BR 0 (intsL ct))) := Mod.setCells BR (.inr (by rw [HBR.out]; exact Nat.le_refl _)) _ _ _ HM.out
      have HU79 := Lib.hid Try.underlying79
      clear hct HC2 HC HR HHW HM HCC
      go_upto_region 11 with (fail)
      go_cut [5] (fun _ wc => Hid (Ints32 wc BR ct) ∧ Hid (Mod nob w wc))
      case first =>
        go_wp2_with (first
          | (with_reducible refine wpList_load_mid (op := ⟨some 28, _, _, _, _, _⟩) rfl 79 _ rfl (BR + 1) 0 rfl (intsL ct) _ HRA.out HU79.out rfl HISL.out ?_)
          | (with_reducible refine wpList_store_mid (op := ⟨none, _, _, _, _, _⟩) rfl 79 _ _ rfl BR 0 (intsL ct).toArray rfl rfl HTH.out HISZ.out HONE.out ?_))
        go_meet
        case rel => exact ⟨HRN.out, HMN.out⟩
      case rest =>
        obtain ⟨HTC, HMC⟩ := hcut
        have hlv := run_loadVar_mid (P := Try.prog) wc BR 0 79 _ _ HTC.out.range Try.underlying79 rfl HISL.out
        have HLV := Lib.hid hlv
        clear hlv
        rename_i K9 hK9
        refine hK9 _ _ ?_
        refine wp_ret ?_
        refine bodyPost_ret (v := .agg (intsL ct).toArray) ?_ rfl ⟨?_, ?_⟩
        · have hlv := HLV.out
          simp [results, Try.results40, asAddr, hlv]
        · rw [HCT.out]
        · exact nob_mod_below HMC.out
end Go.Proofs.Ytlopdbhjdijlmaa

namespace Go.Proofs.Ytlopdbhjdijlmaa
open Go.ChangeShapes Go.WideShapes Go.ChangeAt Go.RowKit
set_option linter.unusedSimpArgs false
set_option linter.unusedVariables false

/-- How many entries there are for each, and one for the root. -/
noncomputable def cntR (S : Sh) (k : Nat) : Nat := if k = 0 then cntT (gotT S) 0 32 + 1 else cntT (gotT S) k 32
def LnkP (S : Sh) (n : Nat) : Prop := ∀ k, k < n → (gotT S k).format ≠ 0 → ((cntR S k : Nat) : Int) = (gotT S k).links ∧ ¬ (gotT S k).links < 1 ∧ ((gotT S k).kind = 2 → (gotT S k).links = 1)
open Classical in
noncomputable def lnkB (S : Sh) : Bool := decide (LnkP S 32)
open Classical in
theorem lnkB_true {S : Sh} (h : LnkP S 32) : lnkB S = true := by unfold lnkB; exact decide_eq_true h
open Classical in
theorem lnkB_false {S : Sh} (h : ¬ LnkP S 32) : lnkB S = false := by unfold lnkB; exact decide_eq_false h

set_option maxRecDepth 20000 in
set_option maxHeartbeats 4000000 in
theorem links10 {w : World} {p : Nat} {D : Nat → Prop} {S : Sh} (h : SheetAt w p D S) :
    Calls Try.prog 71 #[.pointer (some ⟨p, 0, none⟩)] w fun e w' => e = .returned (.bool (lnkB S)) ∧ Below w.heap.size w w' := by
  have hok := h.ok
  have HOK := Lib.hid hok
  obtain ⟨hei, hlen⟩ := got_ents hok
  have hc32 := cntT_le hlen 0 32 (Nat.le_refl _)
  have HCN := Lib.hid (counts10 h)
  have HAL : Hid (∀ wx, Mod nob w wx → Calls Try.prog 78 #[.pointer (some ⟨p, 0, none⟩)] wx fun e w' => ∃ ev, e = .returned (.agg (tabL (gotT S) ev).toArray) ∧ HoldsT w' (gotT S) ev ∧ (∀ k, k < 32 → ∀ g, (ev k).ownBlock = some g → wx.heap.size ≤ g) ∧ Below wx.heap.size wx w') := fun wx hm => all10 (h.mod hm (fun _ _ h => h))
  obtain ⟨bb, hbb⟩ : ∃ b, b = lnkB S := ⟨_, rfl⟩
  rw [← hbb]
  have HBB := Lib.hid hbb
  obtain ⟨ct, hct⟩ : ∃ ct : Nat → Nat, ct = fun i => cntT (gotT S) i 32 := ⟨_, rfl⟩
  rw [← hct] at HCN
  have HRC : Hid (∀ k, cntR S k = if k = 0 then ct 0 + 1 else ct k) := fun k => by rw [hct]; rfl
  have hc0 : ct 0 ≤ 768 := by rw [hct]; simpa using hc32
  clear h hok hbb hei hlen hc32 hct
  go_enter Try.func71, Try.ntmps71
  go_wp2_with fail
  refine HCN.out.mono ?_
  rintro e w1 ⟨rfl, hb1⟩
  have HM1 : Hid (Mod nob w w1) := mod_of_below hb1
  have HISZ : Hid ((Try.prog.info? 79).map (·.size) = some (intsL ct).toArray.size) := by unfold Hid; rw [List.size_toArray, intsL_len]; exact Try.info32
  have HONE : Hid ((intsL ct).toArray.all (·.oneCell') = true) := all_oneCell_toArray (intsL_one ct)
  have HNW := Lib.hid (Ints32.new w1)
  have HTH : Hid ((w1.alloc (.cells z32n 79)).there w1.heap.size 0 (intsL ct).toArray.size) := by unfold Hid; rw [show (intsL ct).toArray.size = 32 by rw [List.size_toArray, intsL_len]]; exact HNW.out.there
  clear hb1 HCN
  go_upto_region 2 with (with_reducible refine wpList_store_mid (op := ⟨none, _, _, _, _, _⟩) rfl 79 _ _ rfl w1.heap.size 0 (intsL ct).toArray rfl rfl HTH.out HISZ.out HONE.out ?_)
  try simp only [Act.put]
  have HB2 : Hid (Ints32 ((w1.alloc (.cells z32n 79)).setCells w1.heap.size 0 (intsL ct)) w1.heap.size ct) := HNW.out.whole ct
  have HM2 : Hid (Mod nob w1 ((w1.alloc (.cells z32n 79)).setCells w1.heap.size 0 (intsL ct))) := Mod.setCells w1.heap.size (.inr (Nat.le_refl _)) _ _ _ ((Mod.refl nob w1).alloc _)
  generalize (w1.alloc (.cells z32n 79)).setCells w1.heap.size 0 (intsL ct) = w2 at *
  obtain ⟨B, hB⟩ : ∃ B, B = w1.heap.size := ⟨_, rfl⟩
  rw [← hB] at HB2 ⊢
  have HMW2 : Hid (Mod nob w w2) := HM1.out.step HM2.out (fun _ h => h)
  have HBW : Hid (w.heap.size ≤ B) := by unfold Hid; rw [hB]; exact HM1.out.size
  clear hB HNW HTH HISZ HONE HM1 HM2
  have cd := HB2.out.cell 0 (by omega)
  have fd := HB2.out.frozen 0
  have HB3 : Hid (Ints32 (w2.setCell ⟨B, 0, none⟩ (.int .i64 ((ct 0 + 1 : Nat) : Int))) B (fun k => if k = 0 then ct 0 + 1 else ct k)) := HB2.out.set 0 (ct 0 + 1)
  have HM3 : Hid (Mod nob w (w2.setCell ⟨B, 0, none⟩ (.int .i64 ((ct 0 + 1 : Nat) : Int)))) := HMW2.out.setCell (.inr HBW.out) _
  have hwr : ((ct 0 : Nat) : Int) + 1 = ((ct 0 + 1 : Nat) : Int) := by omega
  have HWR := Lib.hid hwr
  obtain ⟨c0n, hc0n⟩ : ∃ c, c = ct 0 := ⟨_, rfl⟩
  rw [← hc0n] at cd HB3 HM3 HWR hc0
  have HC0 := Lib.hid hc0n
  clear hc0n
  clear hwr HB2 HMW2 HBW
  go_upto_region 3 with (fail)
  first
    | rw [HWR.out]
    | skip
  generalize w2.setCell ⟨B, 0, none⟩ (.int .i64 ((c0n + 1 : Nat) : Int)) = w3 at *
  obtain ⟨cr, hcr⟩ : ∃ cr, cr = (fun k => if k = 0 then c0n + 1 else ct k) := ⟨_, rfl⟩
  rw [← hcr] at HB3
  have HCR : Hid (∀ k, cr k = cntR S k) := fun k => by rw [hcr, HRC.out k, HC0.out]
  have HAL3 := Lib.hid (HAL.out w3 HM3.out)
  clear cd fd hcr HRC HAL hc0 HWR
  go_wp2_with fail
  refine HAL3.out.mono ?_
  rintro e w4 ⟨ev, rfl, hh, -, hb1⟩
  have HH := Lib.hid hh
  have HM34 : Hid (Mod nob w3 w4) := mod_of_below hb1
  have HM4 : Hid (Mod nob w w4) := HM3.out.step HM34.out (fun _ h => h)
  have HB4 : Hid (Ints32 w4 B cr) := HB3.out.mod HM34.out (fun h => h)
  obtain ⟨AT, hAT⟩ : ∃ v, v = Value.agg (tabL (gotT S) ev).toArray := ⟨_, rfl⟩
  have HIDX : Hid (∀ k, k < 32 → ∀ w, (Instr.index 43 AT (.int .i64 (k : Nat))).run Try.prog w = .ok (.agg (inoL (gotT S k) (ev k)).toArray) w) := fun k hk w => by rw [hAT]; exact index_ino10 _ _ (fun j hj => got_len HOK.out hj) k hk w
  rw [← hAT]
  clear hh hb1 HAL3 hAT HB3 HM3 HM34
  go_wp2_with fail
  go_loopg [14] 32 (fun gk iv wr => ∃ k : Nat, k + gk = 32 ∧ iv = .int .i64 (k : Nat) ∧ Hid (LnkP S k) ∧ Hid (Ints32 wr B cr) ∧ Hid (Mod nob w wr))
  case atStart => exact ⟨0, by omega, rfl, (fun j h => by omega), HB4.out, HM4.out⟩
  case round =>
    obtain ⟨k, hk, rfl, HRP, HB, HM⟩ := hrel
    clear HB4 HM4
    by_cases hlt : k < 32
    · have hki : (k : Int) < 32 := by omega
      have HIK := Lib.hid (HIDX.out k hlt wr)
      have hl13 := got_len HOK.out hlt
      have hv1 : (ev k).oneCell' = true := by obtain ⟨a, c, e, -⟩ := HH.out k hlt; rw [e]; rfl
      obtain ⟨m, hm⟩ : ∃ m, m = gotT S k := ⟨_, rfl⟩
      obtain ⟨v, hv⟩ : ∃ v, v = ev k := ⟨_, rfl⟩
      rw [← hm, ← hv] at HIK
      rw [← hm] at hl13
      rw [← hv] at hv1
      have HMG := Lib.hid hm
      have HL13 := Lib.hid hl13
      have HV1 := Lib.hid hv1
      clear hm hv hl13 hv1
      have hszA : (inoL m v).toArray.size = 18 := by rw [List.size_toArray]; exact inoL_len HL13.out _
      have HISZ : Hid ((Try.prog.info? 25).map (·.size) = some (inoL m v).toArray.size) := by unfold Hid; rw [hszA]; exact Try.info18
      have HONE : Hid ((inoL m v).toArray.all (·.oneCell') = true) := all_oneCell_toArray (inoL_one HV1.out)
      have HTH : Hid ((wr.alloc (.cells z18 25)).there wr.heap.size 0 (inoL m v).toArray.size) := by unfold Hid; rw [hszA]; exact ino_there wr _
      have HROW := Lib.hid (ino_row wr 25 (inoL m v) (inoL_len HL13.out _))
      clear hszA
      go_upto_region 6 with (first
        | (with_reducible refine wpList_index_r (o := ⟨some 17, _, _, _, _, _⟩) rfl 43 (.tmp 13) (.tmp 14) rfl AT (.int .i64 (k : Nat)) rfl rfl HIK.out ?_)
        | (with_reducible refine wpList_store_mid (op := ⟨none, _, _, _, _, _⟩) rfl 25 _ _ rfl wr.heap.size 0 (inoL m v).toArray rfl rfl HTH.out HISZ.out HONE.out ?_))
      try simp only [Act.put]
      have HIX : Hid (InoB ((wr.alloc (.cells z18 25)).setCells wr.heap.size 0 (inoL m v)) wr.heap.size m v) := ⟨HROW.out.1, HL13.out⟩
      have HMX : Hid (Mod nob wr ((wr.alloc (.cells z18 25)).setCells wr.heap.size 0 (inoL m v))) := mod_of_below HROW.out.2
      clear HROW HTH HISZ HONE
      generalize (wr.alloc (.cells z18 25)).setCells wr.heap.size 0 (inoL m v) = w5 at *
      obtain ⟨X, hX⟩ : ∃ X, X = wr.heap.size := ⟨_, rfl⟩
      rw [← hX] at HIX ⊢
      clear hX
      have c0 := HIX.out.at.c0
      have c1 := HIX.out.at.c1
      have c2 := HIX.out.at.c2
      have HB5 : Hid (Ints32 w5 B cr) := HB.out.mod HMX.out (fun h => h)
      have cd := HB5.out.cell k hlt
      have HM5 : Hid (Mod nob w w5) := HM.out.step HMX.out (fun _ h => h)
      have HLN : Hid (∀ j, j < k + 1 → j ≠ k → (gotT S j).format ≠ 0 → ((cntR S j : Nat) : Int) = (gotT S j).links ∧ ¬ (gotT S j).links < 1 ∧ ((gotT S j).kind = 2 → (gotT S j).links = 1)) := fun j hj hn hf => HRP.out j (by omega) hf
      have HCK := Lib.hid (HCR.out k)
      obtain ⟨cv, hcv⟩ : ∃ c, c = cr k := ⟨_, rfl⟩
      rw [← hcv] at cd HCK
      obtain ⟨fo, hfo⟩ : ∃ x, x = m.format := ⟨_, rfl⟩
      obtain ⟨ki, hki2⟩ : ∃ x, x = m.kind := ⟨_, rfl⟩
      obtain ⟨li, hli⟩ : ∃ x, x = m.links := ⟨_, rfl⟩
      rw [← hfo] at c0
      rw [← hki2] at c1
      rw [← hli] at c2
      have HF := Lib.hid (hfo.trans (congrArg Ino.format HMG.out))
      have HK := Lib.hid (hki2.trans (congrArg Ino.kind HMG.out))
      have HL := Lib.hid (hli.trans (congrArg Ino.links HMG.out))
      clear hcv hfo hki2 hli HIX HMX HB HM HIK
      by_cases h0 : fo = 0
      · subst h0
        have HRN : Hid (LnkP S (k + 1)) := fun j hj hf => by
          by_cases e : j = k
          · subst e; exact absurd HF.out.symm hf
          · exact HLN.out j hj e hf
        have hb0 : ((0 : Int) != 0) = false := by decide
        go_wp2_with fail
        go_quiet (fail)
        go_wp2_with fail
        go_roundg (gk - 1)
        case measure => omega
        case rel => exact ⟨k + 1, by omega, by go_num, HRN.out, HB5.out.mod ((Mod.refl nob _).drewN _) (fun h => h), HM5.out.drewN _⟩
      · have hb0 : (fo != 0) = true := by simpa using h0
        by_cases h1 : ((cv : Nat) : Int) = li
        · have hb1 : (((cv : Nat) : Int) != li) = false := by simpa using h1
          by_cases h2 : li < 1
          · have HBF : Hid (bb = false) := by
              unfold Hid
              rw [HBB.out]
              refine lnkB_false (fun hp => ?_)
              obtain ⟨-, q2, -⟩ := hp k hlt (by rw [← HF.out]; exact h0)
              exact q2 (by rw [← HL.out]; exact h2)
            have HH1 := Lib.hid h1
            clear h1
            go_wp2_with fail
            go_quiet (fail)
            go_wp2_with fail
            go_ret
            exact ⟨by rw [HBF.out]; rfl, nob_mod_below (HM5.out.drewN _)⟩
          · have hb2 : decide (li < 1) = false := decide_eq_false h2
            by_cases h3 : ki = 2
            · subst h3
              by_cases h4 : li = 1
              · have HRN : Hid (LnkP S (k + 1)) := fun j hj hf => by
                  by_cases e : j = k
                  · subst e
                    exact ⟨by rw [← HCK.out, ← HL.out]; exact h1, by rw [← HL.out]; exact h2, fun _ => by rw [← HL.out]; exact h4⟩
                  · exact HLN.out j hj e hf
                have hb4 : (li != 1) = false := by simpa using h4
                have HH1 := Lib.hid h1
                have HH2 := Lib.hid h2
                clear h1 h2 h4
                go_wp2_with fail
                go_quiet (fail)
                go_wp2_with fail
                go_roundg (gk - 1)
                case measure => omega
                case rel => exact ⟨k + 1, by omega, by go_num, HRN.out, HB5.out.mod ((Mod.refl nob _).drewN _) (fun h => h), HM5.out.drewN _⟩
              · have HBF : Hid (bb = false) := by
                  unfold Hid
                  rw [HBB.out]
                  refine lnkB_false (fun hp => ?_)
                  obtain ⟨-, -, q3⟩ := hp k hlt (by rw [← HF.out]; exact h0)
                  exact h4 (by rw [HL.out]; exact q3 HK.out.symm)
                have hb4 : (li != 1) = true := by simpa using h4
                have HH1 := Lib.hid h1
                have HH2 := Lib.hid h2
                clear h1 h2
                go_wp2_with fail
                go_quiet (fail)
                go_wp2_with fail
                go_ret
                exact ⟨by rw [HBF.out]; rfl, nob_mod_below (HM5.out.drewN _)⟩
            · have HRN : Hid (LnkP S (k + 1)) := fun j hj hf => by
                by_cases e : j = k
                · subst e
                  exact ⟨by rw [← HCK.out, ← HL.out]; exact h1, by rw [← HL.out]; exact h2, fun q => absurd (HK.out.trans q) h3⟩
                · exact HLN.out j hj e hf
              have hb3 : (ki == 2) = false := by simpa using h3
              have HH1 := Lib.hid h1
              have HH2 := Lib.hid h2
              clear h1 h2
              go_wp2_with fail
              go_quiet (fail)
              go_wp2_with fail
              go_roundg (gk - 1)
              case measure => omega
              case rel => exact ⟨k + 1, by omega, by go_num, HRN.out, HB5.out.mod ((Mod.refl nob _).drewN _) (fun h => h), HM5.out.drewN _⟩
        · have HBF : Hid (bb = false) := by
            unfold Hid
            rw [HBB.out]
            refine lnkB_false (fun hp => ?_)
            obtain ⟨q1, -, -⟩ := hp k hlt (by rw [← HF.out]; exact h0)
            exact h1 (by rw [HCK.out, HL.out]; exact q1)
          have hb1 : (((cv : Nat) : Int) != li) = true := by simpa using h1
          go_wp2_with fail
          go_quiet (fail)
          go_wp2_with fail
          go_ret
          exact ⟨by rw [HBF.out]; rfl, nob_mod_below (HM5.out.drewN _)⟩
    · obtain rfl : k = 32 := by omega
      have hki : ¬ ((32 : Nat) : Int) < 32 := by omega
      have HBT : Hid (bb = true) := by unfold Hid; rw [HBB.out]; exact lnkB_true HRP.out
      go_wp2_with fail
      go_ret
      exact ⟨by rw [HBT.out]; rfl, nob_mod_below HM.out⟩
end Go.Proofs.Ytlopdbhjdijlmaa

namespace Go.Proofs.Ytlopdbhjdijlmaa
open Go.ChangeShapes Go.WideShapes Go.ChangeAt Go.RowKit
set_option linter.unusedSimpArgs false
set_option linter.unusedVariables false

/-- How many of the first j numbers are b; how often a block is in the first k inodes. -/
def cntX (l : List Nat) (b : Nat) : Nat → Nat
  | 0 => 0
  | j + 1 => cntX l b j + if l.getD j 0 = b then 1 else 0
noncomputable def metN (S : Sh) (b : Nat) : Nat → Nat
  | 0 => 0
  | k + 1 => metN S b k + cntX (allI S (k : Nat)) b (allI S (k : Nat)).length
theorem cntX_le (l : List Nat) (b j : Nat) : cntX l b j ≤ j := by
  induction j with
  | zero => exact Nat.le_refl _
  | succ j ih => unfold cntX; split <;> omega
theorem metN_le {S : Sh} (h : S.Ok) (b : Nat) : ∀ k, metN S b k ≤ 53 * k
  | 0 => Nat.le_refl _
  | k + 1 => by
    have h1 := metN_le h b k
    have h2 := cntX_le (allI S (k : Nat)) b (allI S (k : Nat)).length
    have h3 := (allI_law h (k : Nat)).2
    unfold metN
    omega

/-- A block of 256 numbers. -/
def IntsB (w : World) (g : Nat) (c : Nat → Nat) : Prop :=
  ∃ cs : Array Value, w.heap[g]? = some (.cells cs 140 (0, 0)) ∧ cs.size = 256 ∧ ∀ i, i < 256 → cs[i]? = some (.int .i64 (c i : Nat))
theorem IntsB.cell {w : World} {g : Nat} {c : Nat → Nat} (h : IntsB w g c) (i : Nat) (hi : i < 256) : w.cell? ⟨g, i, none⟩ = some (.int .i64 (c i : Nat)) := by
  obtain ⟨cs, hg, _, hc⟩ := h
  rw [cell_of_row _ _ _ _ _ _ hg]
  exact hc i hi
theorem IntsB.frozen {w : World} {g : Nat} {c : Nat → Nat} (h : IntsB w g c) (i : Nat) : w.frozen? ⟨g, i, none⟩ = false := by
  obtain ⟨cs, hg, _⟩ := h
  exact frozen_of_row w g i cs _ hg
theorem IntsB.mod {w w' : World} {g : Nat} {c : Nat → Nat} (h : IntsB w g c) {D : Nat → Prop} (hm : Mod D w w') (hg : ¬ D g) : IntsB w' g c := by
  obtain ⟨cs, hh, r⟩ := h
  exact ⟨cs, hm.heap hh hg, r⟩
theorem IntsB.congr {w : World} {g : Nat} {c d : Nat → Nat} (h : IntsB w g c) (he : ∀ i, i < 256 → c i = d i) : IntsB w g d := by
  obtain ⟨cs, hh, h1, h4⟩ := h
  exact ⟨cs, hh, h1, fun i hi => by rw [h4 i hi, he i hi]⟩
theorem IntsB.set {w : World} {g : Nat} {c : Nat → Nat} (h : IntsB w g c) (i : Nat) (v : Nat) : IntsB (w.setCell ⟨g, i, none⟩ (.int .i64 (v : Nat))) g (fun k => if k = i then v else c k) := by
  obtain ⟨cs, hh, h1, h4⟩ := h
  refine ⟨_, heap_setCell_same w g i cs _ _ hh, by simpa using h1, fun k hk => ?_⟩
  by_cases e : k = i
  · subst e
    rw [Array.getElem?_setIfInBounds]
    simp only [if_true]
    rw [if_pos (by omega)]
  · rw [Array.getElem?_setIfInBounds]
    rw [if_neg (fun h => e h.symm)]
    simp only [if_neg e]
    exact h4 k hk
theorem zeroB_eq : Try.zeroCells140 = (List.replicate 256 (Value.int .i64 0)).toArray := by kernel_rfl
theorem IntsB.new (w : World) : IntsB (w.alloc (.cells Try.zeroCells140 140)) w.heap.size (fun _ => 0) := by
  rw [zeroB_eq]
  refine ⟨_, heap_alloc_new _ _, by rw [List.size_toArray, List.length_replicate], fun i hi => ?_⟩
  rw [List.getElem?_toArray, List.getElem?_replicate, if_pos hi]
  rfl
def intsLB (c : Nat → Nat) : List Value := (List.range 256).map fun i => Value.int .i64 (c i : Nat)
theorem intsLB_len (c : Nat → Nat) : (intsLB c).length = 256 := by simp [intsLB]
theorem intsLB_one (c : Nat → Nat) : ∀ u ∈ intsLB c, u.oneCell' = true := fun u hu => by
  unfold intsLB at hu
  obtain ⟨i, -, rfl⟩ := List.mem_map.1 hu
  rfl
theorem intsLB_get (c : Nat → Nat) (i : Nat) (hi : i < 256) : (intsLB c).toArray[i]? = some (.int .i64 (c i : Nat)) := by
  rw [List.getElem?_toArray]
  unfold intsLB
  rw [List.getElem?_map, List.getElem?_range hi]
  rfl
theorem IntsB.range {w : World} {g : Nat} {c : Nat → Nat} (h : IntsB w g c) : w.rangeAt g 0 (intsLB c) := by
  intro j v hj
  have hjl : j < 256 := by have := (List.getElem?_eq_some_iff.1 hj).1; rw [intsLB_len] at this; exact this
  rw [Nat.zero_add, h.cell j hjl, ← hj]
  unfold intsLB
  rw [List.getElem?_map, List.getElem?_range hjl]
  rfl
theorem Try.info256 : (Try.prog.info? 140).map (·.size) = some 256 := by kernel_rfl
section
variable {P : Program}
theorem run_index_one {t e : TypeId} {n : Nat} (hu : P.underlying t = some (.array n e)) (ha : ∀ w, (isAgg e).run P w = .ok false w) (hs : (P.info? e).map (·.size) = some 1)
    (cs : Array Value) (k : IntKind) (i : Nat) (hi : i < n) {v : Value} (hv : cs[i]? = some v) (w : World) :
    (Instr.index t (.agg cs) (.int k i)).run P w = .ok v w := by
  obtain ⟨inf, hinf, hsz⟩ := Option.map_eq_some_iff.1 hs
  have hagg := ha w
  simp [Instr.index, asIntOf, run_underlying hu, hi, sizeOf, typeInfo, hinf, hsz, part, Sem.run_bind, hagg, hv]
end
theorem index_met (c : Nat → Nat) (i : Nat) (hi : i < 256) (w : World) :
    (Instr.index 140 (.agg (intsLB c).toArray) (.int .i64 (i : Nat))).run Try.prog w = .ok (.int .i64 (c i : Nat)) w :=
  run_index_one Try.underlying140 Try.isAgg3 (by kernel_rfl) _ _ i hi (intsLB_get c i hi) w
end Go.Proofs.Ytlopdbhjdijlmaa

namespace Go.Proofs.Ytlopdbhjdijlmaa
open Go.ChangeShapes Go.WideShapes Go.ChangeAt Go.RowKit
set_option linter.unusedSimpArgs false
set_option linter.unusedVariables false

set_option maxRecDepth 20000 in
set_option maxHeartbeats 4000000 in
theorem inodes10 {w : World} {p : Nat} {D : Nat → Prop} {S : Sh} (h : SheetAt w p D S) :
    Calls Try.prog 69 #[.pointer (some ⟨p, 0, none⟩)] w fun e w' => e = .returned (.bool (inosB S)) ∧ Below w.heap.size w w' := by
  have hok := h.ok
  have HOK := Lib.hid hok
  have HGT : Hid (∀ wx, Mod nob w wx → ∀ k, k < 32 → Calls Try.prog 26 #[.pointer (some ⟨p, 0, none⟩), .int .i64 (k : Nat)] wx fun e w' => ∃ (ea xa : Option Addr) (ec xn xc : Nat), e = .returned (.tuple #[.agg (inoL (gotT S k) (.slice ea (gotT S k).ents.length ec)).toArray, .slice xa xn xc, .int .i64 (getE S (k : Int))]) ∧ Below wx.heap.size wx w') := fun wx hm k hk =>
    (get10 (h.mod hm (fun _ _ h => h)) hk).mono (fun e w' hq => by
      obtain ⟨m, ea, xa, ec, xn, xc, E, he, rfl, rfl, h1, h2, h3⟩ := hq
      exact ⟨ea, xa, ec, xn, xc, he, h3⟩)
  obtain ⟨bb, hbb⟩ : ∃ b, b = inosB S := ⟨_, rfl⟩
  rw [← hbb]
  have HBB := Lib.hid hbb
  clear h hok hbb
  go_enter Try.func69, Try.ntmps69
  go_wp2_with fail
  go_loopg [7] 32 (fun gk iv wr => ∃ k : Nat, k + gk = 32 ∧ iv = .int .i64 (k : Nat) ∧ Hid (InosP S k) ∧ Hid (Mod nob w wr))
  case atStart => exact ⟨0, by omega, rfl, (fun j h => by omega), Mod.refl nob w⟩
  case round =>
    obtain ⟨k, hk, rfl, HRP, HM⟩ := hrel
    by_cases hlt : k < 32
    · have hki : (k : Int) < 32 := by omega
      have HGK := Lib.hid (HGT.out wr HM.out k hlt)
      have hl13 := got_len HOK.out hlt
      obtain ⟨m, hm⟩ : ∃ m, m = gotT S k := ⟨_, rfl⟩
      obtain ⟨E, hE⟩ : ∃ E, E = getE S (k : Int) := ⟨_, rfl⟩
      rw [← hm, ← hE] at HGK
      rw [← hm] at hl13
      have HL13 := Lib.hid hl13
      have HEE := Lib.hid hE
      clear hm hE hl13
      go_wp2_with fail
      refine HGK.out.mono ?_
      rintro e w5 ⟨ea, xa, ec, xn, xc, rfl, hb⟩
      have HX5 : Hid (Mod nob w w5) := HM.out.step (mod_of_below hb) (fun _ h => h)
      obtain ⟨v, hv⟩ : ∃ v, v = Value.slice ea m.ents.length ec := ⟨_, rfl⟩
      have HV1 : Hid (v.oneCell' = true) := by rw [hv]; rfl
      rw [← hv]
      clear hb HGK hv
      have hszA : (inoL m v).toArray.size = 18 := by rw [List.size_toArray]; exact inoL_len HL13.out _
      have HISZ : Hid ((Try.prog.info? 25).map (·.size) = some (inoL m v).toArray.size) := by unfold Hid; rw [hszA]; exact Try.info18
      have HONE : Hid ((inoL m v).toArray.all (·.oneCell') = true) := all_oneCell_toArray (inoL_one HV1.out)
      have HTH : Hid ((w5.alloc (.cells z18 25)).there w5.heap.size 0 (inoL m v).toArray.size) := by unfold Hid; rw [hszA]; exact ino_there w5 _
      have HROW := Lib.hid (ino_row w5 25 (inoL m v) (inoL_len HL13.out _))
      clear hszA
      go_upto_region 5 with (with_reducible refine wpList_store_mid (op := ⟨none, _, _, _, _, _⟩) rfl 25 _ _ rfl w5.heap.size 0 (inoL m v).toArray rfl rfl HTH.out HISZ.out HONE.out ?_)
      try simp only [Act.put]
      have HIX : Hid (InoB ((w5.alloc (.cells z18 25)).setCells w5.heap.size 0 (inoL m v)) w5.heap.size m v) := ⟨HROW.out.1, HL13.out⟩
      have HMX : Hid (Mod nob w5 ((w5.alloc (.cells z18 25)).setCells w5.heap.size 0 (inoL m v))) := mod_of_below HROW.out.2
      clear HROW HTH HISZ HONE
      generalize (w5.alloc (.cells z18 25)).setCells w5.heap.size 0 (inoL m v) = w6 at *
      obtain ⟨X, hX⟩ : ∃ X, X = w5.heap.size := ⟨_, rfl⟩
      rw [← hX] at HIX ⊢
      clear hX
      have HM6 : Hid (Mod nob w w6) := HX5.out.step HMX.out (fun _ h => h)
      clear HIX HMX
      by_cases h0 : E = 0
      · subst h0
        have HRN : Hid (InosP S (k + 1)) := fun j hj => by
          by_cases e : j = k
          · subst e; exact .inl HEE.out.symm
          · exact HRP.out j (by omega)
        go_wp2_with fail
        go_roundg (gk - 1)
        case measure => omega
        case rel => exact ⟨k + 1, by omega, by go_num, HRN.out, HM6.out⟩
      · by_cases h2 : E = 2
        · subst h2
          have HRN : Hid (InosP S (k + 1)) := fun j hj => by
            by_cases e : j = k
            · subst e; exact .inr HEE.out.symm
            · exact HRP.out j (by omega)
          clear h0
          go_wp2_with fail
          go_roundg (gk - 1)
          case measure => omega
          case rel => exact ⟨k + 1, by omega, by go_num, HRN.out, HM6.out⟩
        · have hbf : bb = false := by
            rw [HBB.out]
            refine inosB_false (fun hp => ?_)
            rcases hp k hlt with h1 | h1
            · exact h0 (HEE.out.trans h1)
            · exact h2 (HEE.out.trans h1)
          have HBF := Lib.hid hbf
          have hb0 : (E != 0) = true := bne_iff_ne.2 h0
          have hb2 : (E != 2) = true := bne_iff_ne.2 h2
          clear hbf
          go_wp2_with fail
          go_ret
          exact ⟨by rw [HBF.out]; rfl, nob_mod_below HM6.out⟩
    · obtain rfl : k = 32 := by omega
      have hki : ¬ ((32 : Nat) : Int) < 32 := by omega
      have hbt : bb = true := by rw [HBB.out]; exact inosB_true HRP.out
      have HBT := Lib.hid hbt
      clear hbt
      go_wp2_with fail
      go_ret
      exact ⟨by rw [HBT.out]; rfl, nob_mod_below HM.out⟩
end Go.Proofs.Ytlopdbhjdijlmaa

namespace Go.Proofs.Ytlopdbhjdijlmaa
open Go.ChangeShapes Go.WideShapes Go.ChangeAt Go.RowKit
set_option linter.unusedSimpArgs false
set_option linter.unusedVariables false

def UnusedI (i : Nat) : Prop := (3 ≤ i ∧ i < 8) ∨ 820 ≤ i
def ZeroP (S : Sh) (n : Nat) : Prop := ∀ i : Nat, i < n → UnusedI i → S.get (i : Int) = 0
def SuperP (S : Sh) : Prop := ZeroP S 824 ∧ S.get 0 = 7596835243318849792 ∧ (S.get 1 = 1 ∨ S.get 1 = 2) ∧ S.get 2 ≤ 32
open Classical in
noncomputable def superB (S : Sh) : Bool := decide (SuperP S)
open Classical in
theorem superB_true {S : Sh} (h : SuperP S) : superB S = true := by unfold superB; exact decide_eq_true h
open Classical in
theorem superB_false {S : Sh} (h : ¬ SuperP S) : superB S = false := by unfold superB; exact decide_eq_false h

set_option maxRecDepth 20000 in
set_option maxHeartbeats 4000000 in
theorem super10 {w : World} {p : Nat} {D : Nat → Prop} {S : Sh} (h : SheetAt w p D S) :
    Calls Try.prog 68 #[.pointer (some ⟨p, 0, none⟩)] w fun e w' => e = .returned (.bool (superB S)) ∧ w = w' := by
  have HG : Hid (∀ i : Int, Calls Try.prog 37 #[.pointer (some ⟨p, 0, none⟩), .int .i64 i] w fun e w' => e = .returned (.int .u64 (S.get i)) ∧ w = w') := fun i => sheet_get h i
  obtain ⟨bb, hbb⟩ : ∃ b, b = superB S := ⟨_, rfl⟩
  rw [← hbb]
  have HBB := Lib.hid hbb
  clear h hbb
  go_enter Try.func68, Try.ntmps68
  go_wp2_with fail
  go_loopg [6] 824 (fun gk iv wr => ∃ k : Nat, k + gk = 824 ∧ iv = .int .i64 (k : Nat) ∧ Hid (ZeroP S k) ∧ w = wr)
  case atStart => exact ⟨0, by omega, rfl, (fun j h => by omega), rfl⟩
  case round =>
    obtain ⟨k, hk, rfl, HZ, rfl⟩ := hrel
    by_cases hlt : k < 824
    · have hki : (k : Int) < 824 := by omega
      by_cases hu : UnusedI k
      · have HGK := Lib.hid (HG.out (k : Nat))
        obtain ⟨y, hy⟩ : ∃ y, y = S.get (k : Int) := ⟨_, rfl⟩
        rw [← hy] at HGK
        have HY := Lib.hid hy
        clear hy
        by_cases h0 : y = 0
        · subst h0
          have HZN : Hid (ZeroP S (k + 1)) := fun j hj hu2 => by
            by_cases e : j = k
            · subst e; exact HY.out.symm
            · exact HZ.out j (by omega) hu2
          rcases hu with ⟨hu1, hu2⟩ | hu
          · have g1 : (k : Int) < 8 := by omega
            have g2 : decide ((820 : Int) ≤ (k : Int)) = false := decide_eq_false (by omega)
            have g3 : ((k : Int) != 0) = true := bne_iff_ne.2 (by omega)
            have g4 : ((k : Int) != 1) = true := bne_iff_ne.2 (by omega)
            have g5 : ((k : Int) != 2) = true := bne_iff_ne.2 (by omega)
            have g6 : ¬ ((k : Int) = 0) := by omega
            have g7 : ¬ ((k : Int) = 1) := by omega
            have g8 : ¬ ((k : Int) = 2) := by omega
            go_wp2_with (go_at_call 37; (with_reducible refine HGK.out.mono ?_); (rintro e w' ⟨rfl, rfl⟩))
            go_roundg (gk - 1)
            case measure => omega
            case rel => exact ⟨k + 1, by omega, by go_num, HZN.out, rfl⟩
          · have g1 : decide ((k : Int) < 8) = false := decide_eq_false (by omega)
            have g2 : decide ((820 : Int) ≤ (k : Int)) = true := decide_eq_true (by omega)
            go_wp2_with (go_at_call 37; (with_reducible refine HGK.out.mono ?_); (rintro e w' ⟨rfl, rfl⟩))
            go_roundg (gk - 1)
            case measure => omega
            case rel => exact ⟨k + 1, by omega, by go_num, HZN.out, rfl⟩
        · have hbf : bb = false := by
            rw [HBB.out]
            exact superB_false (fun hp => h0 (HY.out.trans (hp.1 k hlt hu)))
          have HBF := Lib.hid hbf
          have hb0 : (y != 0) = true := bne_iff_ne.2 h0
          clear hbf
          rcases hu with ⟨hu1, hu2⟩ | hu
          · have g1 : (k : Int) < 8 := by omega
            have g2 : decide ((820 : Int) ≤ (k : Int)) = false := decide_eq_false (by omega)
            have g3 : ((k : Int) != 0) = true := bne_iff_ne.2 (by omega)
            have g4 : ((k : Int) != 1) = true := bne_iff_ne.2 (by omega)
            have g5 : ((k : Int) != 2) = true := bne_iff_ne.2 (by omega)
            have g6 : ¬ ((k : Int) = 0) := by omega
            have g7 : ¬ ((k : Int) = 1) := by omega
            have g8 : ¬ ((k : Int) = 2) := by omega
            go_wp2_with (go_at_call 37; (with_reducible refine HGK.out.mono ?_); (rintro e w' ⟨rfl, rfl⟩))
            go_ret
            exact ⟨by rw [HBF.out]; rfl, rfl⟩
          · have g1 : decide ((k : Int) < 8) = false := decide_eq_false (by omega)
            have g2 : decide ((820 : Int) ≤ (k : Int)) = true := decide_eq_true (by omega)
            go_wp2_with (go_at_call 37; (with_reducible refine HGK.out.mono ?_); (rintro e w' ⟨rfl, rfl⟩))
            go_ret
            exact ⟨by rw [HBF.out]; rfl, rfl⟩
      · have HZN : Hid (ZeroP S (k + 1)) := fun j hj hu2 => by
          by_cases e : j = k
          · subst e; exact absurd hu2 hu
          · exact HZ.out j (by omega) hu2
        have hk4 : k = 0 ∨ k = 1 ∨ k = 2 ∨ (8 ≤ k ∧ k < 820) := by unfold UnusedI at hu; omega
        clear hu
        rcases hk4 with rfl | rfl | rfl | ⟨hk1, hk2⟩
        · go_wp2_with fail
          go_roundg (gk - 1)
          case measure => omega
          case rel => exact ⟨0 + 1, by omega, by go_num, HZN.out, rfl⟩
        · go_wp2_with fail
          go_roundg (gk - 1)
          case measure => omega
          case rel => exact ⟨1 + 1, by omega, by go_num, HZN.out, rfl⟩
        · go_wp2_with fail
          go_roundg (gk - 1)
          case measure => omega
          case rel => exact ⟨2 + 1, by omega, by go_num, HZN.out, rfl⟩
        · have g1 : decide ((k : Int) < 8) = false := decide_eq_false (by omega)
          have g2 : decide ((820 : Int) ≤ (k : Int)) = false := decide_eq_false (by omega)
          go_wp2_with fail
          go_roundg (gk - 1)
          case measure => omega
          case rel => exact ⟨k + 1, by omega, by go_num, HZN.out, rfl⟩
    · obtain rfl : k = 824 := by omega
      have hki : ¬ ((824 : Nat) : Int) < 824 := by omega
      have HG0 := Lib.hid (HG.out 0)
      have HG1 := Lib.hid (HG.out 1)
      have HG2 := Lib.hid (HG.out 2)
      have HBP : Hid (bb = true ↔ SuperP S) := by
        unfold Hid
        rw [HBB.out]
        constructor
        · intro hb
          exact Classical.byContradiction fun hn => by rw [superB_false hn] at hb; cases hb
        · exact superB_true
      obtain ⟨y0, hy0⟩ : ∃ y, y = S.get 0 := ⟨_, rfl⟩
      obtain ⟨y1, hy1⟩ : ∃ y, y = S.get 1 := ⟨_, rfl⟩
      obtain ⟨y2, hy2⟩ : ∃ y, y = S.get 2 := ⟨_, rfl⟩
      rw [← hy0] at HG0
      rw [← hy1] at HG1
      rw [← hy2] at HG2
      have hsp : bb = true ↔ y0 = 7596835243318849792 ∧ (y1 = 1 ∨ y1 = 2) ∧ y2 ≤ 32 := by
        rw [HBP.out]
        unfold SuperP
        rw [← hy0, ← hy1, ← hy2]
        exact ⟨fun h => h.2, fun h => ⟨HZ.out, h⟩⟩
      have HSP := Lib.hid hsp
      clear hy0 hy1 hy2 hsp HBP HBB
      go_upto_region 9 with (go_at_call 37; (with_reducible refine HG1.out.mono ?_); (rintro e w' ⟨rfl, rfl⟩))
      have hcase : (bb = false ∧ y0 ≠ 7596835243318849792) ∨ (bb = false ∧ y0 = 7596835243318849792 ∧ y1 ≠ 1 ∧ y1 ≠ 2) ∨ (y0 = 7596835243318849792 ∧ y1 = 1) ∨ (y0 = 7596835243318849792 ∧ y1 = 2) := by
        by_cases h0 : y0 = 7596835243318849792
        · by_cases h1 : y1 = 1
          · exact .inr (.inr (.inl ⟨h0, h1⟩))
          · by_cases h2 : y1 = 2
            · exact .inr (.inr (.inr ⟨h0, h2⟩))
            · refine .inr (.inl ⟨?_, h0, h1, h2⟩)
              cases hb : bb with
              | false => rfl
              | true => rcases (HSP.out.1 hb).2.1 with h | h; exact absurd h h1; exact absurd h h2
        · refine .inl ⟨?_, h0⟩
          cases hb : bb with
          | false => rfl
          | true => exact absurd (HSP.out.1 hb).1 h0
      have HC := Lib.hid hcase
      clear hcase
      rcases HC.out with ⟨hb, h0⟩ | ⟨hb, rfl, h1, h2⟩ | ⟨rfl, rfl⟩ | ⟨rfl, rfl⟩
      · have HB := Lib.hid hb
        have g0 : (y0 == 7596835243318849792) = false := beq_eq_false_iff_ne.2 h0
        clear hb
        go_wp2_with (first
          | (go_at_call 37; (with_reducible refine HG0.out.mono ?_); (rintro e w' ⟨rfl, rfl⟩))
          | (go_at_call 37; (with_reducible refine HG2.out.mono ?_); (rintro e w' ⟨rfl, rfl⟩)))
        go_ret
        exact ⟨by rw [HB.out]; rfl, rfl⟩
      · have HB := Lib.hid hb
        have g0 : (y1 == 1) = false := beq_eq_false_iff_ne.2 h1
        have g1 : (y1 == 2) = false := beq_eq_false_iff_ne.2 h2
        clear hb
        go_wp2_with (first
          | (go_at_call 37; (with_reducible refine HG0.out.mono ?_); (rintro e w' ⟨rfl, rfl⟩))
          | (go_at_call 37; (with_reducible refine HG2.out.mono ?_); (rintro e w' ⟨rfl, rfl⟩)))
        go_ret
        exact ⟨by rw [HB.out]; rfl, rfl⟩
      all_goals
        by_cases h2 : y2 ≤ 32
        · have hb : bb = true := HSP.out.2 ⟨rfl, by omega, h2⟩
          have HB := Lib.hid hb
          have g2 : decide (y2 ≤ 32) = true := decide_eq_true h2
          clear hb
          go_wp2_with (first
            | (go_at_call 37; (with_reducible refine HG0.out.mono ?_); (rintro e w' ⟨rfl, rfl⟩))
            | (go_at_call 37; (with_reducible refine HG2.out.mono ?_); (rintro e w' ⟨rfl, rfl⟩)))
          go_ret
          exact ⟨by rw [HB.out]; rfl, rfl⟩
        · have hb : bb = false := by
            cases hb : bb with
            | false => rfl
            | true => exact absurd (HSP.out.1 hb).2.2 h2
          have HB := Lib.hid hb
          have g2 : decide (y2 ≤ 32) = false := decide_eq_false h2
          clear hb
          go_wp2_with (first
            | (go_at_call 37; (with_reducible refine HG0.out.mono ?_); (rintro e w' ⟨rfl, rfl⟩))
            | (go_at_call 37; (with_reducible refine HG2.out.mono ?_); (rintro e w' ⟨rfl, rfl⟩)))
          go_ret
          exact ⟨by rw [HB.out]; rfl, rfl⟩
end Go.Proofs.Ytlopdbhjdijlmaa

namespace Go.Proofs.Ytlopdbhjdijlmaa
open Go.ChangeShapes Go.WideShapes Go.ChangeAt Go.RowKit
set_option linter.unusedSimpArgs false
set_option linter.unusedVariables false

def EntP (S : Sh) (k j : Nat) : Prop := ∀ q, q < j → (gotT S ((gotT S k).ents.getD q default).ino.toNat).format ≠ 0
def EntrP (S : Sh) (n : Nat) : Prop := ∀ k, k < n → EntP S k (gotT S k).ents.length
open Classical in
noncomputable def entrB (S : Sh) : Bool := decide (EntrP S 32 ∧ (gotT S 0).kind = 2)
open Classical in
theorem entrB_true {S : Sh} (h : EntrP S 32 ∧ (gotT S 0).kind = 2) : entrB S = true := by unfold entrB; exact decide_eq_true h
open Classical in
theorem entrB_false {S : Sh} (h : ¬ (EntrP S 32 ∧ (gotT S 0).kind = 2)) : entrB S = false := by unfold entrB; exact decide_eq_false h

set_option maxRecDepth 20000 in
set_option maxHeartbeats 4000000 in
theorem entries10 {w : World} {p : Nat} {D : Nat → Prop} {S : Sh} (h : SheetAt w p D S) :
    Calls Try.prog 70 #[.pointer (some ⟨p, 0, none⟩)] w fun e w' => e = .returned (.bool (entrB S)) ∧ Below w.heap.size w w' := by
  have hok := h.ok
  have HOK := Lib.hid hok
  have HAL := Lib.hid (all10 h)
  obtain ⟨hei, hlen⟩ := got_ents hok
  have HEI := Lib.hid hei
  have HLE := Lib.hid hlen
  have HL13 : Hid (Len13 (gotT S)) := fun j hj => got_len hok hj
  obtain ⟨bb, hbb⟩ : ∃ b, b = entrB S := ⟨_, rfl⟩
  rw [← hbb]
  have HBB := Lib.hid hbb
  clear h hok hbb hei hlen
  go_enter Try.func70, Try.ntmps70
  go_wp2_with fail
  refine HAL.out.mono ?_
  rintro e w1 ⟨ev, rfl, hh, hge, hb1⟩
  have HH := Lib.hid hh
  have HM1 : Hid (Mod nob w w1) := mod_of_below hb1
  have hs5 : (tabL (gotT S) ev).toArray.size = 576 := by rw [List.size_toArray, tabL_len HL13.out]
  have HISL : Hid ((Try.prog.info? 43).map (·.size) = some (tabL (gotT S) ev).length) := by unfold Hid; rw [tabL_len HL13.out]; exact Try.info576A
  have HISZ : Hid ((Try.prog.info? 43).map (·.size) = some (tabL (gotT S) ev).toArray.size) := by unfold Hid; rw [hs5]; exact Try.info576A
  have HONE : Hid ((tabL (gotT S) ev).toArray.all (·.oneCell') = true) := all_oneCell_toArray (tabL_one HH.out.one 32 (Nat.le_refl _))
  have HTZ : Hid (TabA (w1.alloc (.cells Try.zeroCells43 43)) w1.heap.size inoT0 nilT) := by rw [zeroA_eq]; exact TabA.new len13_0 w1
  have HTH : Hid ((w1.alloc (.cells Try.zeroCells43 43)).there w1.heap.size 0 (tabL (gotT S) ev).toArray.size) := by unfold Hid; rw [hs5]; exact HTZ.out.there 0 576 (by omega)
  clear hh hge hb1 HAL hs5
  go_upto_region 2 with (with_reducible refine wpList_store_mid (op := ⟨none, _, _, _, _, _⟩) rfl 43 _ _ rfl w1.heap.size 0 (tabL (gotT S) ev).toArray rfl rfl HTH.out HISZ.out HONE.out ?_)
  try simp only [Act.put]
  have HT2 : Hid (TabA ((w1.alloc (.cells Try.zeroCells43 43)).setCells w1.heap.size 0 (tabL (gotT S) ev)) w1.heap.size (gotT S) ev) := HTZ.out.whole HL13.out
  have HM12 : Hid (Mod nob w1 ((w1.alloc (.cells Try.zeroCells43 43)).setCells w1.heap.size 0 (tabL (gotT S) ev))) := Mod.setCells w1.heap.size (.inr (Nat.le_refl _)) _ _ _ ((Mod.refl nob w1).alloc _)
  generalize (w1.alloc (.cells Try.zeroCells43 43)).setCells w1.heap.size 0 (tabL (gotT S) ev) = w2 at *
  obtain ⟨B, hB⟩ : ∃ B, B = w1.heap.size := ⟨_, rfl⟩
  rw [← hB] at HT2 ⊢
  have HH2 : Hid (HoldsT w2 (gotT S) ev) := HH.out.still HM12.out
  have HM2 : Hid (Mod nob w w2) := HM1.out.step HM12.out (fun _ h => h)
  have HRA := Lib.hid HT2.out.all
  have HU43 := Lib.hid Try.underlying43
  clear hB HTZ HTH HISZ HONE HH HM1 HM12
  obtain ⟨AT, hAT⟩ : ∃ v, v = Value.agg (tabL (gotT S) ev).toArray := ⟨_, rfl⟩
  have HIDX : Hid (∀ k, k < 32 → ∀ w, (Instr.index 43 AT (.int .i64 (k : Nat))).run Try.prog w = .ok (.agg (inoL (gotT S k) (ev k)).toArray) w) := fun k hk w => by rw [hAT]; exact index_ino10 _ _ HL13.out k hk w
  go_wp2_with (with_reducible refine wpList_load_mid (op := ⟨some 10, _, _, _, _, _⟩) rfl 43 _ rfl B 0 rfl (tabL (gotT S) ev) _ HRA.out HU43.out rfl HISL.out ?_)
  rw [← hAT]
  clear hAT
  go_loopg [11] 32 (fun gk iv wr => ∃ k : Nat, k + gk = 32 ∧ iv = .int .i64 (k : Nat) ∧ Hid (EntrP S k) ∧ Hid (Mod nob w2 wr))
  case atStart => exact ⟨0, by omega, rfl, (fun j h => by omega), Mod.refl nob w2⟩
  case round =>
    obtain ⟨k, hk, rfl, HRP, HM⟩ := hrel
    by_cases hlt : k < 32
    · have hki : (k : Int) < 32 := by omega
      have HIK := Lib.hid (HIDX.out k hlt wr)
      have hl13 := HL13.out k hlt
      obtain ⟨m, hm⟩ : ∃ m, m = gotT S k := ⟨_, rfl⟩
      obtain ⟨ea, ec, hvv, hec, hec2, -, hcells⟩ := (HH2.out k hlt).mod HM.out (fun _ _ _ h => h)
      obtain ⟨L, hL⟩ : ∃ L, L = (gotT S k).ents.length := ⟨_, rfl⟩
      obtain ⟨v, hv⟩ : ∃ v, v = ev k := ⟨_, rfl⟩
      rw [← hv, ← hL] at hvv
      rw [← hm, ← hv] at HIK
      rw [← hm] at hl13
      have HV1 : Hid (v.oneCell' = true) := by rw [hvv]; rfl
      have HVV := Lib.hid hvv
      have HVE := Lib.hid hv
      have HMG := Lib.hid hm
      have HLL := Lib.hid hL
      have hL24 : L ≤ 24 := by rw [hL]; exact HLE.out k hlt
      have HL1 := HL13
      clear HL13
      have HL13 := Lib.hid hl13
      unfold maxLen at hec2
      rw [← hL] at hec
      clear hm hv hl13 hvv hL hcells
      have hszA : (inoL m v).toArray.size = 18 := by rw [List.size_toArray]; exact inoL_len HL13.out _
      have HISZ : Hid ((Try.prog.info? 25).map (·.size) = some (inoL m v).toArray.size) := by unfold Hid; rw [hszA]; exact Try.info18
      have HONE : Hid ((inoL m v).toArray.all (·.oneCell') = true) := all_oneCell_toArray (inoL_one HV1.out)
      have HTH : Hid ((wr.alloc (.cells z18 25)).there wr.heap.size 0 (inoL m v).toArray.size) := by unfold Hid; rw [hszA]; exact ino_there wr _
      have HROW := Lib.hid (ino_row wr 25 (inoL m v) (inoL_len HL13.out _))
      clear hszA
      go_upto_region 5 with (first
        | (with_reducible refine wpList_index_r (o := ⟨some 13, _, _, _, _, _⟩) rfl 43 (.tmp 10) (.tmp 11) rfl AT (.int .i64 (k : Nat)) rfl rfl HIK.out ?_)
        | (with_reducible refine wpList_store_mid (op := ⟨none, _, _, _, _, _⟩) rfl 25 _ _ rfl wr.heap.size 0 (inoL m v).toArray rfl rfl HTH.out HISZ.out HONE.out ?_))
      try simp only [Act.put]
      have HIX : Hid (InoB ((wr.alloc (.cells z18 25)).setCells wr.heap.size 0 (inoL m v)) wr.heap.size m v) := ⟨HROW.out.1, HL13.out⟩
      have HMX : Hid (Mod nob wr ((wr.alloc (.cells z18 25)).setCells wr.heap.size 0 (inoL m v))) := mod_of_below HROW.out.2
      clear HROW HTH HISZ HONE
      generalize (wr.alloc (.cells z18 25)).setCells wr.heap.size 0 (inoL m v) = w5 at *
      obtain ⟨X, hX⟩ : ∃ X, X = wr.heap.size := ⟨_, rfl⟩
      rw [← hX] at HIX ⊢
      clear hX
      have cx := HIX.out.at.ev
      rw [Nat.zero_add, HVV.out] at cx
      have HM5 : Hid (Mod nob w2 w5) := HM.out.step HMX.out (fun _ h => h)
      clear HIX HMX HIK
      have HL13 := HL1
      go_wp2_with fail
      go_loopg [17] L (fun gk iv wr => ∃ j : Nat, j + gk = L ∧ iv = .int .i64 (j : Nat) ∧ Hid (EntP S k j) ∧ Hid (Mod nob w2 wr))
      case atStart => exact ⟨0, by omega, rfl, (fun j h => by omega), HM5.out⟩
      case round =>
        obtain ⟨j, hj, rfl, HEP, HMW⟩ := hrel
        clear cx
        by_cases hltj : j < L
        · have hji : (j : Int) < (L : Int) := by omega
          obtain ⟨ea', ec', e, -, -, -, hcells⟩ := (HH2.out k hlt).mod HMW.out (fun _ _ _ h => h)
          obtain ⟨g, o, hea, d1, d2⟩ := hcells j (by rw [← HLL.out]; exact hltj)
          have hev : Value.slice ea L ec = Value.slice ea' (gotT S k).ents.length ec' := HVV.out.symm.trans (HVE.out.trans e)
          simp only [Value.slice.injEq] at hev
          obtain ⟨rfl, -, rfl⟩ := hev
          subst hea
          have hmem : (gotT S k).ents.getD j default ∈ (gotT S k).ents := by
            rw [List.getD_eq_getElem?_getD, List.getElem?_eq_getElem (by rw [← HLL.out]; exact hltj)]
            exact List.getElem_mem _
          obtain ⟨z0, z1⟩ := HEI.out k hlt _ hmem
          obtain ⟨z, hz⟩ : ∃ z, z = (gotT S k).ents.getD j default := ⟨_, rfl⟩
          rw [← hz] at d1 d2 z0 z1
          have HZZ := Lib.hid hz
          obtain ⟨zn, zi⟩ := z
          simp only at d1 d2 z0 z1
          obtain ⟨q, rfl⟩ := Int.eq_ofNat_of_zero_le z0
          have hq32 : q < 32 := by omega
          have cf := (HT2.out.mod (HMW.out.step ((Mod.refl nob wr).alloc (.cells #[.string zn, .int .i64 (q : Nat)] 27)) (fun _ h => h)) (fun h => h)).fmt q hq32
          obtain ⟨fo, hfo⟩ : ∃ fo, fo = (gotT S q).format := ⟨_, rfl⟩
          rw [← hfo] at cf
          have HFO := Lib.hid hfo
          have HM6 : Hid (Mod nob w2 (wr.alloc (.cells #[.string zn, .int .i64 (q : Nat)] 27))) := HMW.out.alloc _
          clear hcells hmem hz hfo e
          by_cases h0 : fo = 0
          · have hbf : bb = false := by
              rw [HBB.out]
              refine entrB_false (fun hp => ?_)
              have h1 := hp.1 k hlt j (by rw [← HLL.out]; exact hltj)
              rw [← HZZ.out] at h1
              simp only [Int.toNat_natCast] at h1
              exact h1 (HFO.out.symm.trans h0)
            have HBF := Lib.hid hbf
            subst h0
            clear hbf
            go_wp2_with fail
            go_ret
            exact ⟨by rw [HBF.out]; rfl, nob_mod_below (HM2.out.step HM6.out (fun _ h => h))⟩
          · have HEN : Hid (EntP S k (j + 1)) := fun r hr => by
              by_cases e : r = j
              · subst e
                rw [← HZZ.out]
                simp only [Int.toNat_natCast]
                exact fun e2 => h0 (HFO.out.trans e2)
              · exact HEP.out r (by omega)
            have hb0 : (fo == 0) = false := beq_eq_false_iff_ne.2 h0
            go_wp2_with fail
            go_roundg (gk - 1)
            case measure => omega
            case rel => exact ⟨j + 1, by omega, by go_num, HEN.out, HM6.out⟩
        · obtain rfl : j = L := by omega
          have hji : ¬ (j : Int) < (j : Int) := by omega
          have HRN : Hid (EntrP S (k + 1)) := fun r hr => by
            by_cases e : r = k
            · subst e; rw [← HLL.out]; exact HEP.out
            · exact HRP.out r (by omega)
          go_wp2_with fail
          go_roundg (32 - k - 1)
          case measure => omega
          case rel => exact ⟨k + 1, by omega, by go_num, HRN.out, HMW.out⟩
    · obtain rfl : k = 32 := by omega
      have hki : ¬ ((32 : Nat) : Int) < 32 := by omega
      have ck : wr.cell? ⟨B, 1, none⟩ = some (.int .i64 (gotT S 0).kind) := by
        have := (HT2.out.mod HM.out (fun h => h)).range 0 (by omega) 1 (.int .i64 (gotT S 0).kind) rfl
        simpa using this
      obtain ⟨kd, hkd⟩ : ∃ kd, kd = (gotT S 0).kind := ⟨_, rfl⟩
      rw [← hkd] at ck
      by_cases h2 : kd = 2
      · have hbt : bb = true := by rw [HBB.out]; exact entrB_true ⟨HRP.out, hkd.symm.trans h2⟩
        have HBT := Lib.hid hbt
        subst h2
        clear hbt hkd
        go_wp2_with fail
        go_ret
        exact ⟨by rw [HBT.out]; rfl, nob_mod_below (HM2.out.step HM.out (fun _ h => h))⟩
      · have hbt : bb = false := by rw [HBB.out]; exact entrB_false (fun hp => h2 (hkd.trans hp.2))
        have HBT := Lib.hid hbt
        have hb2 : (kd == 2) = false := beq_eq_false_iff_ne.2 h2
        clear hbt hkd
        go_wp2_with fail
        go_ret
        exact ⟨by rw [HBT.out]; simp [hb2], nob_mod_below (HM2.out.step HM.out (fun _ h => h))⟩
end Go.Proofs.Ytlopdbhjdijlmaa
