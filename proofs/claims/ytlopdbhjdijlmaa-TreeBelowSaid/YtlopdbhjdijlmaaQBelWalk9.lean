/-
  tree.Below: the walk. No condition but the sheet's holding a table.
  imagoref09.Below: a contract. No condition but the bounds that are typed.
  The law TreeBelow: the walk. No condition.
-/
import Derived.Test.YtlopdbhjdijlmaaQReach9
import Derived.Test.YtlopdbhjdijlmaaQTab8
import Derived.Test.YtlopdbhjdijlmaaQMade9
import Derived.Test.YtlopdbhjdijlmaaQTree9

namespace Go.Proofs.Ytlopdbhjdijlmaa
open Go.ChangeShapes Go.WideShapes Go.ChangeAt Go.RowKit
set_option linter.unusedSimpArgs false
set_option linter.unusedVariables false

theorem take_succ_getD9 {l : List En} {k : Nat} (h : k < l.length) : l.take (k + 1) = l.take k ++ [l.getD k default] := by
  rw [List.take_succ_eq_append_getElem h, List.getD_eq_getElem?_getD, List.getElem?_eq_getElem h]
  rfl
set_option maxRecDepth 20000 in
set_option maxHeartbeats 8000000 in
theorem below9 {w : World} {p : Nat} {D : Nat → Prop} {S : Sh} {t : Nat → Ino} {xs : Nat → List Nat} {room : Nat} (h : SheetAt w p D S) (ht : TabR S t xs room) (hf : ∀ k, k < 32 → (t k).format = 0 → (t k).ents = []) (hE : EntsIn t) (hn : ∀ k, k < 32 → (t k).ents.length ≤ 24) (d i : Int) :
    Calls Try.prog 44 #[.pointer (some ⟨p, 0, none⟩), .int .i64 d, .int .i64 i] w fun e w' => e = .returned (.bool (belB t d i)) ∧ Below w.heap.size w w' := by
  have HGT : Hid (∀ wx, Mod nob w wx → ∀ k, k < 32 → Calls Try.prog 26 #[.pointer (some ⟨p, 0, none⟩), .int .i64 (k : Nat)] wx fun e w' => ∃ (m : Ino) (ea xa : Option Addr) (ec xn xc : Nat) (E : Int), e = .returned (.tuple #[.agg (inoL m (.slice ea (t k).ents.length ec)).toArray, .slice xa xn xc, .int .i64 E]) ∧ m.bl.length = 13 ∧ HoldsE w' (.slice ea (t k).ents.length ec) (t k).ents ∧ (∀ g, (Value.slice ea (t k).ents.length ec).ownBlock = some g → wx.heap.size ≤ g) ∧ Below wx.heap.size wx w') :=
    fun wx hm k hk => get9 (h.mod hm (fun _ _ h => h)) ht hf hk
  have HNL := Lib.hid hn
  have HB0 : Hid (Met32 (w.alloc (.cells z32i 79)) w.heap.size (fun _ => false)) := Met32.new w
  have HM0 : Hid (Mod nob w (w.alloc (.cells z32i 79))) := (Mod.refl nob w).alloc _
  have HZ0 : Hid ((w.alloc (.cells z32i 79)).heap.size = w.heap.size + 1) := by unfold Hid; simp
  obtain ⟨bb, hbb⟩ : ∃ b, b = belB t d i := ⟨_, rfl⟩
  rw [← hbb]
  have HBB := Lib.hid hbb
  clear h ht hf hE hn hbb
  go_enter Try.func44, Try.ntmps44
  go_upto_region 2 with (fail)
  generalize w.alloc (.cells z32i 79) = w0 at *
  obtain ⟨Y, hY⟩ : ∃ Y, Y = w.heap.size := ⟨_, rfl⟩
  rw [← hY] at HB0 HZ0 ⊢
  have HYY := Lib.hid hY
  clear hY
  go_wp2_with fail
  have HQ1 : Hid (QAt (w0.alloc (.cells #[.int .i64 d] 3)) (Y + 1) (.slice (some ⟨w0.heap.size, 0, none⟩) 1 1) [d]) := QAt.new d (by have := HZ0.out; omega)
  have HB1 : Hid (Met32 (w0.alloc (.cells #[.int .i64 d] 3)) Y (fun _ => false)) := HB0.out.mod ((Mod.refl nob w0).alloc _) (fun h => h)
  have HM1 : Hid (Mod nob w (w0.alloc (.cells #[.int .i64 d] 3))) := HM0.out.alloc _
  have HW1 : Hid (Walked t d i (fun _ => False) (fun _ => false) [d]) := ⟨fun y hy => by rw [List.mem_singleton.1 hy]; exact .refl, .inr (by simp), (fun y h => h.elim), (fun k _ h => by cases h)⟩
  go_loopg [8] 801 (fun gk qv wr => ∃ (q : List Int) (f : Nat → Bool) (T : Int → Prop), (q.length + 25 * (32 - cntF f 32) ≤ gk ∧ gk ≤ 801) ∧ Hid (Walked t d i T f q) ∧ Hid (Met32 wr Y f) ∧ Hid (QAt wr (Y + 1) qv q) ∧ Hid (Mod nob w wr))
  case atStart =>
    refine ⟨[d], _, _, ⟨?_, Nat.le_refl _⟩, HW1.out, HB1.out, HQ1.out, HM1.out⟩
    rw [List.length_singleton]
    omega
  case round =>
    obtain ⟨q, f, T, ⟨hm1, hm2⟩, HW, HB, HQ, HM⟩ := hrel
    clear HQ1 HB1 HM1 HW1 HB0 HM0
    have hcf := cntF_le f 32
    have HBE : Hid (Below w.heap.size w wr) := nob_mod_below HM.out
    cases q with
    | nil =>
      have hb := HW.out.done
      have HBF := Lib.hid (HBB.out.trans hb)
      obtain ⟨g, o, cap, cur, rfl, -⟩ := HQ.out
      clear hb HBB
      go_wp2_with fail
      go_ret
      exact ⟨by rw [HBF.out]; rfl, HBE.out⟩
    | cons x r =>
      obtain ⟨g, o, cap, cur, hqv, -, hcm, -⟩ := HQ.out
      obtain ⟨n, hn⟩ : ∃ n, n = r.length := ⟨_, rfl⟩
      rw [List.length_cons, ← hn] at hqv hm1
      subst hqv
      obtain ⟨c0, hc1, hp1, hp2⟩ := QAt.pop (r := r) (by rw [← hn]; exact HQ.out)
      rw [← hn] at hp2
      have HN := Lib.hid hn
      have HP1 := Lib.hid hp1
      have HP2 := Lib.hid hp2
      unfold maxLen at hcm
      clear hn hp1 hp2 HQ
      have hn0 : (0 : Int) < (n : Int) + 1 := by omega
      go_upto_region 5 with (fail)
      go_cut [8] (fun v wc => ∃ g2 o2 cap2, v = .slice (some ⟨g2, o2, none⟩) n cap2 ∧ Hid (QAt wr (Y + 1) (.slice (some ⟨g2, o2, none⟩) n cap2) r) ∧ wr = wc)
      case first =>
        rcases Classical.em (cap = 1) with hcap | hcap
        · subst hcap
          obtain ⟨hr0, hq0⟩ := HP1.out rfl
          have hnz : n = 0 := by rw [HN.out, hr0]; rfl
          subst hnz
          have HR0 := Lib.hid hr0
          have HQ0 := Lib.hid hq0
          clear hr0 hq0 HP1 HP2
          go_wp2_with fail
          go_meet
          case rel => exact ⟨g, o, 0, rfl, by rw [HR0.out]; exact HQ0.out, rfl⟩
        · have HQ2 := Lib.hid (HP2.out hcap)
          clear HP1 HP2
          go_wp2_with fail
          go_meet
          case rel => exact ⟨g, o + 1, cap - 1, rfl, HQ2.out, rfl⟩
      case rest =>
        obtain ⟨g2, o2, cap2, rfl, HQR, rfl⟩ := hcut
        clear HP1 HP2 c0 hc1 hcm
        by_cases hxi : x = i
        · have hb : belB t d i = true := belB_true (by rw [← hxi]; exact HW.out.reach x (by simp))
          have HBF := Lib.hid (HBB.out.trans hb)
          clear hb HBB
          go_wp2_with fail
          go_ret
          exact ⟨by rw [HBF.out]; rfl, HBE.out⟩
        · have hxi2 : (x == i) = false := beq_eq_false_iff_ne.2 hxi
          have HXI := Lib.hid hxi
          rcases (show x < 0 ∨ (¬ x < 0 ∧ 32 ≤ x) ∨ (0 ≤ x ∧ x < 32) by omega) with hx | ⟨hx0, hx⟩ | ⟨hx0, hx⟩
          · have HWN : Hid (Walked t d i (fun y => T y ∨ y = x) f r) := HW.out.skip hxi (fun k hk e => by omega)
            clear hxi
            go_wp2_with fail
            go_roundg (gk - 1)
            case measure => omega
            case rel => exact ⟨r, f, _, ⟨by rw [← HN.out]; omega, by omega⟩, HWN.out, HB.out, HQR.out, HM.out⟩
          · have HWN : Hid (Walked t d i (fun y => T y ∨ y = x) f r) := HW.out.skip hxi (fun k hk e => by omega)
            clear hxi
            go_wp2_with fail
            go_roundg (gk - 1)
            case measure => omega
            case rel => exact ⟨r, f, _, ⟨by rw [← HN.out]; omega, by omega⟩, HWN.out, HB.out, HQR.out, HM.out⟩
          · obtain ⟨k, rfl⟩ := Int.eq_ofNat_of_zero_le hx0
            have hk32 : k < 32 := by omega
            have hx1 : ¬ (k : Int) < 0 := by omega
            have hx2 : ¬ (32 : Int) ≤ (k : Int) := by omega
            have ck := HB.out.cell k hk32
            cases hfk : f k with
            | true =>
              rw [hfk] at ck
              have HWN : Hid (Walked t d i (fun y => T y ∨ y = (k : Int)) f r) := HW.out.skip hxi (fun m hm e => by rw [show m = k by omega]; exact hfk)
              clear hxi hfk
              simp only [if_true] at ck
              go_wp2_with fail
              go_roundg (gk - 1)
              case measure => omega
              case rel => exact ⟨r, f, _, ⟨by rw [← HN.out]; omega, by omega⟩, HWN.out, HB.out, HQR.out, HM.out⟩
            | false =>
              rw [hfk] at ck
              have HWN := Lib.hid (HW.out.meet hk32 hxi)
              have hcn := cntF_meet hk32 hfk
              have hcn2 := cntF_le (fun m => if m = k then true else f m) 32
              have HBN := Lib.hid (HB.out.set k)
              have fzk := HB.out.frozen k
              simp only [Bool.false_eq_true, if_false] at ck
              clear hxi hfk
              obtain ⟨f2, hf2⟩ : ∃ f2, f2 = fun m => if m = k then true else f m := ⟨_, rfl⟩
              rw [← hf2] at HWN HBN hcn hcn2
              clear hf2
              obtain ⟨G, hG⟩ : ∃ G, G = gk := ⟨_, rfl⟩
              rw [← hG] at hm1 hm2
              have HGG := Lib.hid hG
              clear hG
              go_upto_region 10 with (fail)
              have HM2 : Hid (Mod nob w (wr.setCell ⟨Y, k, none⟩ (.int .i64 1))) := HM.out.setCell (.inr (by rw [← HYY.out]; exact Nat.le_refl _)) _
              have HQ2 : Hid (QAt (wr.setCell ⟨Y, k, none⟩ (.int .i64 1)) (Y + 1) (.slice (some ⟨g2, o2, none⟩) n cap2) r) := HQR.out.mod ((Mod.refl (fun q => q = Y) wr).setCell (a := ⟨Y, k, none⟩) (.inl rfl) _) (fun q hq e => by have e' : q = Y := e; omega)
              generalize wr.setCell ⟨Y, k, none⟩ (.int .i64 1) = w2 at *
              clear HB HQR ck fzk HW HM
              have HG2 := Lib.hid (HGT.out w2 HM2.out k hk32)
              obtain ⟨L, hL⟩ : ∃ L, L = (t k).ents.length := ⟨_, rfl⟩
              have HL := Lib.hid hL
              have hL24 : L ≤ 24 := by rw [hL]; exact HNL.out k hk32
              rw [← hL] at HG2
              clear hL
              go_wp2_with fail
              refine HG2.out.mono ?_
              rintro e w7 ⟨m, ea, xa, ec, xn, xc, E, rfl, hm13, hmv, hge, hb7⟩
              have HM13 := Lib.hid hm13
              have HMV := Lib.hid hmv
              have HGE := Lib.hid hge
              have HB7 := Lib.hid hb7
              clear hm13 hmv hge hb7 HG2
              have hszA : (inoL m (.slice ea L ec)).toArray.size = 18 := by rw [List.size_toArray]; exact inoL_len HM13.out _
              have HISZ : Hid ((Try.prog.info? 25).map (·.size) = some (inoL m (.slice ea L ec)).toArray.size) := by unfold Hid; rw [hszA]; exact Try.info18
              have HONE : Hid ((inoL m (.slice ea L ec)).toArray.all (·.oneCell') = true) := all_oneCell_toArray (inoL_one rfl)
              have HTH : Hid ((w7.alloc (.cells z18 25)).there w7.heap.size 0 (inoL m (.slice ea L ec)).toArray.size) := by unfold Hid; rw [hszA]; exact ino_there w7 _
              have HROW := Lib.hid (ino_row w7 25 (inoL m (.slice ea L ec)) (inoL_len HM13.out _))
              clear hszA
              go_upto_region 11 with (with_reducible refine wpList_store_mid (op := ⟨none, _, _, _, _, _⟩) rfl 25 _ _ rfl w7.heap.size 0 (inoL m (.slice ea L ec)).toArray rfl rfl HTH.out HISZ.out HONE.out ?_)
              try simp only [Act.put]
              have HIX : Hid (InoB ((w7.alloc (.cells z18 25)).setCells w7.heap.size 0 (inoL m (.slice ea L ec))) w7.heap.size m (.slice ea L ec)) := ⟨HROW.out.1, HM13.out⟩
              have HMX : Hid (Mod nob w7 ((w7.alloc (.cells z18 25)).setCells w7.heap.size 0 (inoL m (.slice ea L ec)))) := mod_of_below HROW.out.2
              clear HROW HTH HISZ HONE
              generalize (w7.alloc (.cells z18 25)).setCells w7.heap.size 0 (inoL m (.slice ea L ec)) = w8 at *
              obtain ⟨X, hX⟩ : ∃ X, X = w7.heap.size := ⟨_, rfl⟩
              rw [← hX] at HIX ⊢
              have HXX := Lib.hid hX
              clear hX
              have HM28 : Hid (Mod nob w2 w8) := (mod_of_below HB7.out).step HMX.out (fun _ h => h)
              have HM8 : Hid (Mod nob w w8) := HM2.out.step HM28.out (fun _ h => h)
              have HQ8 : Hid (QAt w8 (Y + 1) (.slice (some ⟨g2, o2, none⟩) n cap2) r) := HQ2.out.mod HM28.out (fun _ _ h => h)
              have HB8 : Hid (Met32 w8 Y f2) := HBN.out.mod HM28.out (fun h => h)
              have HE8 : Hid (HoldsE w8 (.slice ea L ec) (t k).ents) := HMV.out.mod HMX.out (fun _ _ _ h => h)
              have hg2lt : g2 < w2.heap.size := by
                obtain ⟨g', o', cap', cur', e, -, -, -, hh, -⟩ := HQ2.out
                simp only [Value.slice.injEq, Option.some.injEq, Addr.mk.injEq, and_true] at e
                obtain ⟨⟨rfl, -⟩, -⟩ := e
                exact (Array.getElem?_eq_some_iff.1 hh).1
              have HGQ : Hid (∀ q, (Value.slice ea L ec).ownBlock = some q → q ≠ g2) := fun q hq e => by have := HGE.out q hq; omega
              have HGL : Hid (∀ q, L ≠ 0 → (Value.slice ea L ec).ownBlock = some q → q < w8.heap.size) := fun q h0 hq => HE8.out.lt (fun e => h0 (by rw [HL.out, e]; rfl)) q hq
              have cx := HIX.out.at.ev
              rw [Nat.zero_add] at cx
              clear HQ2 HBN HMV HGE HB7 HMX HM28 HM2 hg2lt HXX
              go_wp2_with fail
              go_loopg [8, 52] L (fun gk qv jv wr => ∃ (j : Nat) (q2 : List Int) (g3 o3 cap3 : Nat), j + gk = L ∧ jv = .int .i64 (j : Nat) ∧ qv = .slice (some ⟨g3, o3, none⟩) (n + j) cap3 ∧ Hid (QAt wr (Y + 1) (.slice (some ⟨g3, o3, none⟩) (n + j) cap3) q2) ∧ Hid (q2 = r ++ ((t k).ents.take j).map En.ino) ∧ Hid (HoldsE wr (.slice ea L ec) (t k).ents) ∧ Hid (∀ q, (Value.slice ea L ec).ownBlock = some q → q ≠ g3) ∧ Hid (Met32 wr Y f2) ∧ Hid (Mod nob w wr))
              case atStart => exact ⟨0, r, g2, o2, cap2, by omega, rfl, rfl, HQ8.out, by unfold Hid; simp, HE8.out, HGQ.out, HB8.out, HM8.out⟩
              case round =>
                obtain ⟨j, q2, g3, o3, cap3, hj, rfl, rfl, HQ3, HQE, HE3, HG3, HB3, HM3⟩ := hrel
                clear HQ8 HE8 HGQ HB8 HM8 cx HIX HGL
                by_cases hltj : j < L
                · have hji : (j : Int) < (L : Int) := by omega
                  obtain ⟨ao1, c1', e, -, hcL, -, hcell⟩ := HE3.out
                  rw [← HL.out] at e
                  simp only [Value.slice.injEq] at e
                  obtain ⟨rfl, -, rfl⟩ := e
                  obtain ⟨g4, o4, rfl, d1, d2⟩ := hcell j (by rw [← HL.out]; exact hltj)
                  have hne : g4 ≠ g3 := HG3.out g4 rfl
                  have hlt4 : g4 < wr.heap.size := HE3.out.lt (fun e => by have := HL.out; rw [e] at this; simp at this; omega) g4 rfl
                  obtain ⟨z, hz⟩ : ∃ z, z = (t k).ents.getD j default := ⟨_, rfl⟩
                  rw [← hz] at d1 d2
                  have hq2n : q2.length = n + j := by
                    obtain ⟨g', o', cap', cur', e, -⟩ := HQ3.out
                    simp only [Value.slice.injEq] at e
                    omega
                  have htk := take_succ_getD9 (l := (t k).ents) (k := j) (by rw [← HL.out]; exact hltj)
                  rw [← hz] at htk
                  obtain ⟨zn, zi⟩ := z
                  simp only at d1 d2
                  have HTK := Lib.hid htk
                  have HQN := Lib.hid hq2n
                  have hz1 := HM3.out.size
                  clear hcell hz htk hq2n
                  unfold maxLen at hcL
                  go_upto_region 14 with (fail)
                  have HMA : Hid (Mod nob wr (wr.alloc (.cells #[.string zn, .int .i64 zi] 27))) := (Mod.refl nob wr).alloc _
                  have x1 : (wr.alloc (.cells #[.string zn, .int .i64 zi] 27)).cell? ⟨wr.heap.size, 1, none⟩ = some (.int .i64 zi) := by rw [cell_of_row _ _ _ _ _ _ (heap_alloc_new wr _)]; rfl
                  generalize wr.alloc (.cells #[.string zn, .int .i64 zi] 27) = wb at *
                  have HMB : Hid (Mod nob wr (wb.alloc (.cells #[.int .i64 zi] 3))) := HMA.out.alloc _
                  have hsz := HMB.out.size
                  obtain ⟨v', w', hrun, hq', hmod, hown⟩ := QAt.push (HQ3.out.mod HMB.out (fun _ _ h => h)) (by rw [HYY.out]; have := HMB.out.size; have := hlt4; have h1 : w.heap.size + 1 ≤ wr.heap.size := (by obtain ⟨cs, hh, -⟩ := HB3.out; have := (Array.getElem?_eq_some_iff.1 hh).1; rw [HYY.out] at this; omega); omega) (by rw [HQN.out]; omega) (heap_alloc_new wb _) 56
                  obtain ⟨g5, o5, cap5, cur5, hv', hv5, hv6, hv7, hv8, hv9, hv10⟩ := hq'
                  rw [List.length_append, HQN.out, List.length_singleton] at hv'
                  subst hv'
                  have HRUN := Lib.hid hrun
                  have HQ5 : Hid (QAt w' (Y + 1) (.slice (some ⟨g5, o5, none⟩) (n + j + 1) cap5) (q2 ++ [zi])) := ⟨g5, o5, cap5, cur5, by rw [List.length_append, HQN.out]; rfl, hv5, hv6, hv7, hv8, hv9, hv10⟩
                  have hg3Y : Y + 1 ≤ g3 := by
                    obtain ⟨g', o', cap', cur', e, -, -, h4, -⟩ := HQ3.out
                    simp only [Value.slice.injEq, Option.some.injEq, Addr.mk.injEq, and_true] at e
                    obtain ⟨⟨rfl, -⟩, -⟩ := e
                    exact h4
                  have HE5 : Hid (HoldsE w' (.slice (some ⟨g4, o4, none⟩) L ec) (t k).ents) := (HE3.out.mod HMB.out (fun _ _ _ h => h)).mod hmod (fun _ q hq e => by
                    cases hq
                    have e' : some g3 = some g4 := e
                    cases e'
                    exact hne rfl)
                  have HG5 : Hid (∀ q, (Value.slice (some ⟨g4, o4, none⟩) L ec).ownBlock = some q → q ≠ g5) := fun q hq e => by
                    cases hq
                    subst e
                    rcases hown with h | h
                    · have e' : some g4 = some g3 := h
                      cases e'
                      exact hne rfl
                    · have e' : some g4 = some (wb.alloc (.cells #[.int .i64 zi] 3)).heap.size := h
                      injection e' with e'
                      omega
                  have HB5 : Hid (Met32 w' Y f2) := (HB3.out.mod HMB.out (fun h => h)).mod hmod (fun e => by
                    have e' : some g3 = some Y := e
                    injection e' with e'
                    omega)
                  have HM5 : Hid (Mod nob w w') := (HM3.out.step HMB.out (fun _ h => h)).trans (hmod.mono (fun q hq e => .inr ⟨by
                    have e' : some g3 = some q := e
                    injection e' with e'
                    have := HYY.out
                    omega, hq⟩))
                  clear hrun hown hmod hv5 hv6 hv7 hv8 hv9 hv10 hsz hz1 d1 d2
                  go_wp2_with (with_reducible refine Lib.wpList_append_run (o := ⟨some 60, _, _, _, _, _⟩) _ rfl (.tmp 56) (.tmp 59) 56 56 rfl (.slice (some ⟨g3, o3, none⟩) (n + j) cap3) (.slice (some ⟨wb.heap.size, 0, none⟩) 1 1) rfl rfl _ _ HRUN.out ?_)
                  go_roundg (gk - 1)
                  case measure => omega
                  case rel =>
                    refine ⟨j + 1, q2 ++ [zi], g5, o5, cap5, by omega, by go_num, rfl, HQ5.out, ?_, HE5.out, HG5.out, HB5.out, HM5.out⟩
                    unfold Hid
                    rw [HQE.out, HTK.out, List.map_append, List.append_assoc]
                    rfl
                · obtain rfl : j = L := by omega
                  have hji : ¬ (j : Int) < (j : Int) := by omega
                  have hq3 : q2 = r ++ (t k).ents.map En.ino := by rw [HQE.out, HL.out, List.take_length]
                  have HQQ := Lib.hid hq3
                  have hlen : q2.length = n + j := by
                    obtain ⟨g', o', cap', cur', e, -⟩ := HQ3.out
                    simp only [Value.slice.injEq] at e
                    omega
                  have HLE := Lib.hid hlen
                  clear hq3 hlen
                  go_wp2_with fail
                  go_roundg (G - 1)
                  case measure => have := HGG.out; omega
                  case rel =>
                    refine ⟨q2, f2, _, ⟨?_, by omega⟩, by rw [HQQ.out]; exact HWN.out, HB3.out, HQ3.out, HM3.out⟩
                    rw [HLE.out]
                    omega
end Go.Proofs.Ytlopdbhjdijlmaa

namespace Go.Proofs.Ytlopdbhjdijlmaa
open Go.ChangeShapes Go.WideShapes Go.ChangeAt Go.RowKit
set_option linter.unusedSimpArgs false
set_option linter.unusedVariables false

/-- A block of 32 booleans. -/
def Bits32 (w : World) (g : Nat) (f : Nat → Bool) : Prop :=
  ∃ cs : Array Value, w.heap[g]? = some (.cells cs 113 (0, 0)) ∧ cs.size = 32 ∧ ∀ i, i < 32 → cs[i]? = some (.bool (f i))
theorem Bits32.cell {w : World} {g : Nat} {f : Nat → Bool} (h : Bits32 w g f) (i : Nat) (hi : i < 32) : w.cell? ⟨g, i, none⟩ = some (.bool (f i)) := by
  obtain ⟨cs, hg, _, hc⟩ := h
  rw [cell_of_row _ _ _ _ _ _ hg]
  exact hc i hi
theorem Bits32.frozen {w : World} {g : Nat} {f : Nat → Bool} (h : Bits32 w g f) (i : Nat) : w.frozen? ⟨g, i, none⟩ = false := by
  obtain ⟨cs, hg, _⟩ := h
  exact frozen_of_row w g i cs _ hg
theorem Bits32.mod {w w' : World} {g : Nat} {f : Nat → Bool} (h : Bits32 w g f) {D : Nat → Prop} (hm : Mod D w w') (hg : ¬ D g) : Bits32 w' g f := by
  obtain ⟨cs, hh, r⟩ := h
  exact ⟨cs, hm.heap hh hg, r⟩
theorem Bits32.set {w : World} {g : Nat} {f : Nat → Bool} (h : Bits32 w g f) (i : Nat) (v : Bool) : Bits32 (w.setCell ⟨g, i, none⟩ (.bool v)) g (fun k => if k = i then v else f k) := by
  obtain ⟨cs, hh, h1, h4⟩ := h
  refine ⟨_, heap_setCell_same w g i cs _ _ hh, by simpa using h1, fun k hk => ?_⟩
  simp only
  by_cases e : k = i
  · subst e
    rw [if_pos rfl, Array.getElem?_setIfInBounds]
    simp only [if_true]
    rw [if_pos (by omega)]
  · rw [if_neg e, Array.getElem?_setIfInBounds]
    rw [if_neg (fun h => e h.symm)]
    exact h4 k hk

abbrev z32b : Array Value := #[.bool false, .bool false, .bool false, .bool false, .bool false, .bool false, .bool false, .bool false, .bool false, .bool false, .bool false, .bool false, .bool false, .bool false, .bool false, .bool false, .bool false, .bool false, .bool false, .bool false, .bool false, .bool false, .bool false, .bool false, .bool false, .bool false, .bool false, .bool false, .bool false, .bool false, .bool false, .bool false]
theorem Bits32.new (w : World) : Bits32 (w.alloc (.cells z32b 113)) w.heap.size (fun _ => false) := by
  refine ⟨_, heap_alloc_new _ _, rfl, fun i hi => ?_⟩
  have e : z32b = (List.replicate 32 (Value.bool false)).toArray := rfl
  rw [e, List.getElem?_toArray, List.getElem?_replicate, if_pos hi]

theorem TabB.evc {w : World} {B : Nat} {f : Nat → Ino} {ev : Nat → Value} (h : TabB w B f ev) (i : Nat) (hi : i < 32) : w.cell? ⟨B, i * 18 + 17, none⟩ = some (ev i) := by
  have := h.range i hi 17 (ev i) (inoL_get (h.2 i hi) (ev i)).2.2.2.2.2
  exact this

set_option maxRecDepth 20000 in
set_option maxHeartbeats 8000000 in
theorem refBelow9 {w : World} {t : Nat → Ino} {ev : Nat → Value} (hr : RightT t) (he : HoldsT w t ev) (hE : EntsIn t) (hn : ∀ k, k < 32 → (t k).ents.length ≤ 1000) (d i : Int) :
    Calls Try.prog 45 #[.agg (tabL t ev).toArray, .int .i64 d, .int .i64 i] w fun e w' => e = .returned (.bool (belB t d i)) ∧ Below w.heap.size w w' := by
  have hb := TabB.new hr.len (ev := ev) w
  have HBEL : Hid (Below w.heap.size w (w.alloc (.cells (tabL t ev).toArray 44))) := (Below.refl _ _).alloc (Nat.le_refl _) _
  have HM0 : Hid (Mod nob w (w.alloc (.cells (tabL t ev).toArray 44))) := (Mod.refl nob w).alloc _
  have HT := Lib.hid hb
  have HE := Lib.hid (he.still HM0.out)
  have HEI := Lib.hid hE
  have HNL := Lib.hid hn
  obtain ⟨bb, hbb⟩ : ∃ b, b = belB t d i := ⟨_, rfl⟩
  rw [← hbb]
  have HBB := Lib.hid hbb
  clear hb he hr hE hn hbb
  go_enter Try.func45, Try.ntmps45
  go_upto_region 2 with (fail)
  have HB0 : Hid (Bits32 ((w.alloc (.cells (tabL t ev).toArray 44)).alloc (.cells z32b 113)) (w.heap.size + 1) (fun _ => false)) := by
    have := Bits32.new (w.alloc (.cells (tabL t ev).toArray 44))
    rw [show (w.alloc (.cells (tabL t ev).toArray 44)).heap.size = w.heap.size + 1 by simp] at this
    exact this
  have HMA : Hid (Mod nob w ((w.alloc (.cells (tabL t ev).toArray 44)).alloc (.cells z32b 113))) := HM0.out.alloc _
  have HT0 : Hid (TabB ((w.alloc (.cells (tabL t ev).toArray 44)).alloc (.cells z32b 113)) w.heap.size t ev) := HT.out.mod ((Mod.refl nob _).alloc _) (fun h => h)
  have HE0 : Hid (HoldsT ((w.alloc (.cells (tabL t ev).toArray 44)).alloc (.cells z32b 113)) t ev) := HE.out.still ((Mod.refl nob _).alloc _)
  have HEL : Hid (∀ k, k < 32 → (t k).ents ≠ [] → ∀ g, (ev k).ownBlock = some g → g < w.heap.size + 1) := fun k hk h0 g hg => by
    have := (HE.out k hk).lt h0 g hg
    simpa using this
  generalize (w.alloc (.cells (tabL t ev).toArray 44)).alloc (.cells z32b 113) = w1 at *
  obtain ⟨X, hX⟩ : ∃ X, X = w.heap.size := ⟨_, rfl⟩
  rw [← hX] at HB0 HT0 HEL ⊢
  have HXX := Lib.hid hX
  clear hX HT HE HM0 HBEL
  have HB1 : Hid (Below w.heap.size w w1) := nob_mod_below HMA.out
  by_cases hdi : d = i
  · have hb : belB t d i = true := by rw [hdi]; exact belB_true .refl
    have HB := Lib.hid (HBB.out.trans hb)
    clear hb HBB
    go_wp2_with fail
    go_ret
    exact ⟨by rw [HB.out]; rfl, HB1.out⟩
  · by_cases hout : d < 0 ∨ 31 < d
    · have hb : belB t d i = false := belB_false (fun h => hdi (reach_out hout h).symm)
      have HB := Lib.hid (HBB.out.trans hb)
      clear hb HBB
      rcases hout with hout | hout
      all_goals
        try have hout2 : ¬ d < 0 := by omega
        go_wp2_with fail
        go_ret
        exact ⟨by rw [HB.out]; rfl, HB1.out⟩
    · obtain ⟨dn, rfl⟩ := Int.eq_ofNat_of_zero_le (show 0 ≤ d by omega)
      have hd32 : dn < 32 := by omega
      have hd0 : ¬ (dn : Int) < 0 := by omega
      have hd31 : ¬ (31 : Int) < (dn : Int) := by omega
      have hdi2 : (dn : Int) < 32 := by omega
      clear hout
      have b0 := HB0.out.cell dn hd32
      have z0 := HB0.out.frozen dn
      have HD := Lib.hid hdi
      go_upto_region 7 with (fail)
      have HTD := Lib.hid (Told.start t hd32)
      have HBS : Hid (Bits32 (w1.setCell ⟨X + 1, dn, none⟩ (.bool true)) (X + 1) (fun k => decide (k = dn))) := by
        obtain ⟨cs, h1, h2, h3⟩ := HB0.out.set dn true
        refine ⟨cs, h1, h2, fun k hk => ?_⟩
        rw [h3 k hk]
        show some (Value.bool (if k = dn then true else false)) = some (Value.bool (decide (k = dn)))
        by_cases e : k = dn
        · rw [if_pos e, decide_eq_true e]
        · rw [if_neg e, decide_eq_false e]
      have HMS : Hid (Mod (fun q => q = X + 1) w1 (w1.setCell ⟨X + 1, dn, none⟩ (.bool true))) := (Mod.refl (fun q => q = X + 1) w1).setCell (a := ⟨X + 1, dn, none⟩) (.inl rfl) _
      generalize w1.setCell ⟨X + 1, dn, none⟩ (.bool true) = w2 at *
      clear b0 z0 HB0
      go_wp2_with fail
      go_loopg [8] 33 (fun gk iv wr => ∃ (r : Nat) (f : Nat → Bool), r + gk = 33 ∧ iv = .int .i64 (r : Nat) ∧ Hid (Told t dn r f) ∧ Hid (Bits32 wr (X + 1) f) ∧ Hid (Mod (fun q => q = X + 1) w1 wr))
      case atStart => exact ⟨0, _, by omega, rfl, HTD.out, HBS.out, HMS.out⟩
      case round =>
        obtain ⟨r, f, hr, rfl, HTO, HBI, HMW⟩ := hrel
        clear HTD HBS HMS
        by_cases hlt : r < 33
        · have hri : (r : Int) < 33 := by omega
          go_wp2_with fail
          go_loopg [9] 32 (fun gk iv wr => ∃ (k : Nat) (g : Nat → Bool), k + gk = 32 ∧ iv = .int .i64 (k : Nat) ∧ Hid (∀ m, m < 32 → g m = true → Reach t (dn : Int) (m : Int)) ∧ Hid (∀ m, m < 32 → f m = true → g m = true) ∧ Hid (∀ m, m < k → f m = true → ∀ e ∈ (t m).ents, g e.ino.toNat = true) ∧ Hid (Bits32 wr (X + 1) g) ∧ Hid (Mod (fun q => q = X + 1) w1 wr))
          case atStart => exact ⟨0, f, by omega, rfl, HTO.out.sound, (fun m _ h => h), (fun m h => by omega), HBI.out, HMW.out⟩
          case round =>
            obtain ⟨k, g, hk, rfl, HSG, HFG, HAG, HBG, HMG⟩ := hrel
            clear HBI HMW
            by_cases hltk : k < 32
            · have hki : (k : Int) < 32 := by omega
              have hk0 : (0 : Int) ≤ (k : Int) := Int.natCast_nonneg _
              obtain ⟨wq, hwq⟩ : ∃ y : World, y = wr := ⟨_, rfl⟩
              rw [← hwq] at HBG HMG ⊢
              clear hwq
              obtain ⟨L, hL⟩ : ∃ L, L = (t k).ents.length := ⟨_, rfl⟩
              have HL := Lib.hid hL
              have hL1000 : L ≤ 1000 := by rw [hL]; exact HNL.out k hltk
              obtain ⟨ao, c, hev, hc1, hc2, -, hcells⟩ := HE0.out k hltk
              rw [← hL] at hev hc1 hcells
              have HEV := Lib.hid hev
              have HCE : Hid (∀ wx, Mod (fun q => q = X + 1) w1 wx → wx.cell? ⟨X, k * 18 + 17, none⟩ = some (.slice ao L c) ∧ ∀ j, j < L → ∃ g o, ao = some ⟨g, o, none⟩ ∧ wx.cell? ⟨g, o + j * 2 + 1, none⟩ = some (.int .i64 ((t k).ents.getD j default).ino)) := fun wx hm => by
                have hx : ¬ (fun q => q = X + 1) X := by show ¬ X = X + 1; omega
                have h1 := (HT0.out.mod hm hx).evc k hltk
                rw [hev] at h1
                refine ⟨h1, fun j hj => ?_⟩
                obtain ⟨g1, o1, h2, -, h3⟩ := hcells j hj
                refine ⟨g1, o1, h2, hm.cell h3 (fun e => ?_)⟩
                have := HEL.out k hltk (fun h0 => by rw [hL, h0] at hj; simp at hj) g1 (by rw [hev, h2]; rfl)
                have e' : g1 = X + 1 := e
                omega
              clear hL hev hcells
              unfold maxLen at hc2
              cases hgk : g k with
              | false =>
                have HGK := Lib.hid hgk
                clear hgk
                go_wp2_with fail
                go_loopg [10] 1 (fun gk iv wr => iv = .int .i64 0 ∧ wq = wr)
                case atStart => exact ⟨rfl, rfl⟩
                case round =>
                  obtain ⟨rfl, rfl⟩ := hrel
                  have bk := HBG.out.cell k hltk
                  rw [HGK.out] at bk
                  have ec := (HCE.out wq HMG.out).1
                  have HNX : Hid (∀ m, m < k + 1 → f m = true → ∀ e ∈ (t m).ents, g e.ino.toNat = true) := fun m hm hf => by
                    by_cases e : m = k
                    · subst e
                      have := HFG.out m hltk hf
                      rw [HGK.out] at this
                      cases this
                    · exact HAG.out m (by omega) hf
                  rcases (show L = 0 ∨ 0 < L by omega) with h0 | h0
                  all_goals
                    try subst h0
                    try have h0i : (0 : Int) < (L : Int) := by omega
                    go_wp2_with fail
                    go_roundg (32 - k - 1)
                    case measure => omega
                    case rel => exact ⟨k + 1, g, by omega, by go_num, HSG.out, HFG.out, HNX.out, HBG.out, HMG.out⟩
              | true =>
                have HGK := Lib.hid hgk
                clear hgk
                go_wp2_with fail
                go_loopg [10] (L + 1) (fun gk iv wr => ∃ (j : Nat) (g' : Nat → Bool), j + gk = L + 1 ∧ j ≤ L ∧ iv = .int .i64 (j : Nat) ∧ Hid (∀ m, m < 32 → g' m = true → Reach t (dn : Int) (m : Int)) ∧ Hid (∀ m, m < 32 → f m = true → g' m = true) ∧ Hid (∀ m, m < k → f m = true → ∀ e ∈ (t m).ents, g' e.ino.toNat = true) ∧ Hid (g' k = true) ∧ Hid (∀ m, m < j → g' ((t k).ents.getD m default).ino.toNat = true) ∧ Hid (Bits32 wr (X + 1) g') ∧ Hid (Mod (fun q => q = X + 1) w1 wr))
                case atStart => exact ⟨0, g, by omega, by omega, rfl, HSG.out, HFG.out, HAG.out, HGK.out, (fun m h => by omega), HBG.out, HMG.out⟩
                case round =>
                  obtain ⟨j, g', hj, hjL, rfl, HSG2, HFG2, HAG2, HGK2, HJ2, HBG2, HMG2⟩ := hrel
                  clear HSG HFG HAG HGK HBG HMG
                  have bk := HBG2.out.cell k hltk
                  rw [HGK2.out] at bk
                  have ec := (HCE.out wr HMG2.out).1
                  by_cases hltj : j < L
                  · have hji : (j : Int) < (L : Int) := by omega
                    obtain ⟨g1, o1, rfl, e1⟩ := (HCE.out wr HMG2.out).2 j hltj
                    have hmem : (t k).ents.getD j default ∈ (t k).ents := by
                      rw [List.getD_eq_getElem?_getD, List.getElem?_eq_getElem (by rw [← HL.out]; exact hltj)]
                      exact List.getElem_mem _
                    obtain ⟨z0, z1⟩ := HEI.out k hltk _ hmem
                    have hrk : Reach t (dn : Int) ((t k).ents.getD j default).ino := by
                      refine .step (HSG2.out k hltk HGK2.out) ?_
                      unfold succL
                      rw [if_pos (by omega), Int.toNat_natCast]
                      exact List.mem_map_of_mem hmem
                    obtain ⟨m, hm⟩ := Int.eq_ofNat_of_zero_le z0
                    rw [hm] at e1 z1 hrk
                    have HM1 := Lib.hid hm
                    have hm32 : m < 32 := by omega
                    have hm0 : (0 : Int) ≤ (m : Int) := Int.natCast_nonneg _
                    have bm := HBG2.out.cell m hm32
                    have zm := HBG2.out.frozen m
                    have HSN : Hid (∀ q, q < 32 → (fun q => if q = m then true else g' q) q = true → Reach t (dn : Int) (q : Int)) := fun q hq h => by
                      by_cases e : q = m
                      · rw [e]; exact hrk
                      · simp only [if_neg e] at h
                        exact HSG2.out q hq h
                    have HUP : Hid (∀ q, g' q = true → (fun q => if q = m then true else g' q) q = true) := fun q h => by
                      by_cases e : q = m
                      · simp only [if_pos e]
                      · simp only [if_neg e]; exact h
                    have HBN := Lib.hid (HBG2.out.set m true)
                    have HMN : Hid (Mod (fun q => q = X + 1) w1 (wr.setCell ⟨X + 1, m, none⟩ (.bool true))) := HMG2.out.setCell (a := ⟨X + 1, m, none⟩) (.inl rfl) _
                    clear hmem hrk hm z0
                    go_wp2_with fail
                    go_roundg (gk - 1)
                    case measure => omega
                    case rel =>
                      refine ⟨j + 1, (fun q => if q = m then true else g' q), by omega, by omega, by go_num, HSN.out, (fun q hq h => HUP.out q (HFG2.out q hq h)), (fun q hq h e he => HUP.out _ (HAG2.out q hq h e he)), HUP.out _ HGK2.out, (fun q hq => ?_), HBN.out, HMN.out⟩
                      by_cases e : q = j
                      · subst e
                        rw [HM1.out]
                        show (if _ then true else _) = true
                        rw [if_pos (by simp)]
                      · exact HUP.out _ (HJ2.out q (by omega))
                  · obtain rfl : j = L := by omega
                    have hji : ¬ (j : Int) < (j : Int) := by omega
                    have HNX : Hid (∀ m, m < k + 1 → f m = true → ∀ e ∈ (t m).ents, g' e.ino.toNat = true) := fun m hm hf e he => by
                      by_cases em : m = k
                      · subst em
                        obtain ⟨q, hq, rfl⟩ := List.getElem_of_mem he
                        have := HJ2.out q (by rw [HL.out]; exact hq)
                        rw [List.getD_eq_getElem?_getD, List.getElem?_eq_getElem hq] at this
                        exact this
                      · exact HAG2.out m (by omega) hf e he
                    go_wp2_with fail
                    go_roundg (32 - k - 1)
                    case measure => omega
                    case rel => exact ⟨k + 1, g', by omega, by go_num, HSG2.out, HFG2.out, HNX.out, HBG2.out, HMG2.out⟩
            · have hki : ¬ (k : Int) < 32 := by omega
              have HNX : Hid (Told t dn (r + 1) g) := HTO.out.round HEI.out hd32 HSG.out HFG.out (fun m hm hf => HAG.out m (by omega) hf)
              go_wp2_with fail
              go_roundg (33 - r - 1)
              case measure => omega
              case rel => exact ⟨r + 1, g, by omega, by go_num, HNX.out, HBG.out, HMG.out⟩
        · obtain rfl : r = 33 := by omega
          have hri : ¬ ((33 : Nat) : Int) < 33 := by omega
          have HBE : Hid (Below w.heap.size w wr) := (HB1.out).trans (HMW.out.below (show w.heap.size ≤ w1.heap.size from HMA.out.size) (fun b h => by have := HXX.out; omega))
          by_cases hi : 0 ≤ i ∧ i < 32
          · obtain ⟨n, rfl⟩ := Int.eq_ofNat_of_zero_le hi.1
            have hn32 : n < 32 := by omega
            have hni : (n : Int) < 32 := hi.2
            have hn0 : (0 : Int) ≤ (n : Int) := hi.1
            have c0 := HBI.out.cell n hn32
            rw [HTO.out.done hn32, ← HBB.out] at c0
            clear HBB
            go_wp2_with fail
            go_ret
            exact ⟨rfl, HBE.out⟩
          · have hb : belB t (dn : Int) i = false := belB_false (fun h => by
              rcases reach_in HEI.out h with h | h
              · exact HD.out h.symm
              · exact hi h)
            have HB := Lib.hid (HBB.out.trans hb)
            clear hb HBB
            rcases (show i < 0 ∨ (0 ≤ i ∧ ¬ i < 32) by omega) with hi2 | ⟨hi1, hi2⟩
            all_goals
              try have hi3 : ¬ 0 ≤ i := by omega
              go_wp2_with fail
              go_ret
              exact ⟨by rw [HB.out]; rfl, HBE.out⟩
end Go.Proofs.Ytlopdbhjdijlmaa

namespace Go.Proofs.Ytlopdbhjdijlmaa
open Go.ChangeShapes Go.WideShapes Go.ChangeAt Go.RowKit
set_option linter.unusedSimpArgs false
set_option linter.unusedVariables false

set_option maxRecDepth 20000 in
set_option maxHeartbeats 4000000 in
theorem law_below {w : World} {lv : Value} {l : List InV} (hl : HoldsV w lv l) (d i : Int) :
    Calls Try.prog 8 #[lv, .int .i64 d, .int .i64 i] w fun e w' => e = .returned (.bool true) ∧ Below w.heap.size w w' := by
  have HAW : Hid (∀ wx, Calls Try.prog 9 #[] wx fun e w' => e = .returned (.bool true) ∧ Below wx.heap.size wx w') := fun wx => awake9 wx
  have HL := Lib.hid hl
  have HFW : Hid (∀ wx, Mod nob w wx → Calls Try.prog 42 #[lv] wx fun e w' => TellsB e ∧ Below wx.heap.size wx w') := fun wx hm => few9 (HL.out.old hm (fun _ h => h.elim))
  have HMD : Hid (∀ wx, Mod nob w wx → Calls Try.prog 43 #[lv] wx fun e w' => ∃ (p : Nat) (D : Nat → Prop) (S : Sh) (t : Nat → Ino) (ev : Nat → Value) (room : Nat), e = .returned (.tuple #[.pointer (some ⟨p, 0, none⟩), .agg (tabL t ev).toArray]) ∧ SheetAt w' p D S ∧ TabF S t room ∧ HoldsT w' t ev ∧ Below wx.heap.size wx w') := fun wx hm => made9 (HL.out.old hm (fun _ h => h.elim))
  obtain ⟨ao, c, rfl, hlc, hcm, -⟩ := hl
  obtain ⟨m, hm⟩ : ∃ m, m = l.length := ⟨_, rfl⟩
  rw [← hm] at HL HFW HMD hlc ⊢
  clear hm HL
  go_enter Try.func8, Try.ntmps8
  go_upto_if 15 with (first
    | (go_at_call 9; (with_reducible refine (HAW.out _).mono ?_); (rintro e w1 ⟨rfl, hb1⟩; have HX1 : Hid (Mod nob w w1) := mod_of_below hb1; clear hb1))
    | (go_at_call 42; (with_reducible refine (HFW.out _ HX1.out).mono ?_); (rintro e w2 ⟨⟨b, rfl⟩, hb2⟩)))
  have HX2 : Hid (Mod nob w w2) := HX1.out.step (mod_of_below hb2) (fun _ h => h)
  clear hb2 HX1 HFW
  cases b with
  | false =>
    go_wp2_with fail
    refine (HAW.out _).mono ?_
    rintro e w3 ⟨rfl, hb3⟩
    have HX3 : Hid (Mod nob w w3) := HX2.out.step (mod_of_below hb3) (fun _ h => h)
    clear hb3
    go_wp2_with fail
    go_ret
    exact ⟨rfl, nob_mod_below HX3.out⟩
  | true =>
    have HMD2 := Lib.hid (HMD.out _ HX2.out)
    clear HMD
    go_upto_region 3 with (fail)
    go_wp2_with fail
    refine HMD2.out.mono ?_
    rintro e w5 ⟨p, D, S, t, ev, room, rfl, hs, ht, hh, hb5⟩
    have HS := Lib.hid hs
    have HT := Lib.hid ht
    have HH := Lib.hid hh
    have HX5 : Hid (Mod nob w w5) := HX2.out.step (mod_of_below hb5) (fun _ h => h)
    clear hs ht hh hb5 HMD2 HX2
    have hs5 : (tabL t ev).toArray.size = 576 := by rw [List.size_toArray, tabL_len HT.out.right.len]
    have HISZ : Hid ((Try.prog.info? 44).map (·.size) = some (tabL t ev).toArray.size) := by unfold Hid; rw [hs5]; exact Try.info576
    have HISL : Hid ((Try.prog.info? 44).map (·.size) = some (tabL t ev).length) := by unfold Hid; rw [tabL_len HT.out.right.len]; exact Try.info576
    have HONE : Hid ((tabL t ev).toArray.all (·.oneCell') = true) := all_oneCell_toArray (tabL_one HH.out.one 32 (Nat.le_refl _))
    have HTZ : Hid (TabB (w5.alloc (.cells Try.zeroCells44 44)) w5.heap.size inoT0 nilT) := by rw [zeroT_eq]; exact TabB.new len13_0 w5
    have HTH : Hid ((w5.alloc (.cells Try.zeroCells44 44)).there w5.heap.size 0 (tabL t ev).toArray.size) := by unfold Hid; rw [hs5]; exact HTZ.out.there 0 576 (by omega)
    clear hs5
    go_upto_region 4 with (with_reducible refine wpList_store_mid (op := ⟨none, _, _, _, _, _⟩) rfl 44 _ _ rfl w5.heap.size 0 (tabL t ev).toArray rfl rfl HTH.out HISZ.out HONE.out ?_)
    try simp only [Act.put]
    have HT6 : Hid (TabB ((w5.alloc (.cells Try.zeroCells44 44)).setCells w5.heap.size 0 (tabL t ev)) w5.heap.size t ev) := HTZ.out.whole HT.out.right.len
    have HM6 : Hid (Mod nob w5 ((w5.alloc (.cells Try.zeroCells44 44)).setCells w5.heap.size 0 (tabL t ev))) := Mod.setCells w5.heap.size (.inr (Nat.le_refl _)) _ _ _ ((Mod.refl nob w5).alloc _)
    generalize (w5.alloc (.cells Try.zeroCells44 44)).setCells w5.heap.size 0 (tabL t ev) = w6 at *
    obtain ⟨X, hX⟩ : ∃ X, X = w5.heap.size := ⟨_, rfl⟩
    rw [← hX] at HT6 ⊢
    clear hX HTZ HTH HISZ HONE
    have HDW : Hid (Mod nob w6 w6.drew) := (Mod.refl nob w6).drew
    have HB6 : Hid (Below w.heap.size w w6) := nob_mod_below (HX5.out.step HM6.out (fun _ h => h))
    have HSS : Hid (∀ wx, Mod nob w6 wx → wx.rangeAt X 0 (tabL t ev)) := fun wx hm => (HT6.out.mod hm (fun h => h)).all
    obtain ⟨hei, hlen⟩ := HT.out.ents
    have hlen2 : ∀ k, k < 32 → (t k).ents.length ≤ 1000 := fun k hk => Nat.le_trans (hlen k hk) (by omega)
    obtain ⟨bb, hbb⟩ : ∃ b, b = belB t d i := ⟨_, rfl⟩
    have HBL : Hid (∀ wx, Mod nob w6 wx → Calls Try.prog 44 #[.pointer (some ⟨p, 0, none⟩), .int .i64 d, .int .i64 i] wx fun e w' => e = .returned (.bool bb) ∧ Below wx.heap.size wx w') := fun wx hm => by
      obtain ⟨xs, htab⟩ := HT.out.tab
      rw [hbb]
      exact below9 ((HS.out.mod HM6.out (fun _ _ h => h)).mod hm (fun _ _ h => h)) htab HT.out.bare hei hlen d i
    obtain ⟨AT, hAT⟩ : ∃ v, v = Value.agg (tabL t ev).toArray := ⟨_, rfl⟩
    have HRL : Hid (∀ wx, Mod nob w6 wx → Calls Try.prog 45 #[AT, .int .i64 d, .int .i64 i] wx fun e w' => e = .returned (.bool bb) ∧ Below wx.heap.size wx w') := fun wx hm => by
      rw [hbb, hAT]
      exact refBelow9 HT.out.right (HH.out.still (HM6.out.step hm (fun _ h => h))) hei hlen2 d i
    have HAT := Lib.hid hAT
    have HU44 := Lib.hid Try.underlying44
    clear hAT hbb hei hlen hlen2 HS HT HH HX5 HM6 HT6
    cases bb with
    | true =>
      refine wp_region_noPanic ?_
      refine wp_region_held_drew (S := fun wx => wx.rangeAt X 0 (tabL t ev)) (by kernel_rfl) (HSS.out _ HDW.out) (fun hHeld => ?_)
      refine wpAnyH_take (i := 0) (v := .pointer (some ⟨p, 0, none⟩)) rfl (by kernel_rfl) (by kernel_rfl) (by kernel_rfl) (fun _ _ _ h => h) (Or.inl ⟨by kernel_rfl, ?_⟩) hHeld ?_
      case refine_1 =>
        rintro wx -
        go_simp
      change wpAnyH _ _ _ _ _ _ _ (Act.put _ (some 22) _) _
      simp only [Act.put, List.setIfInBounds_toArray, List.set_cons_zero, List.set_cons_succ]
      refine wpAnyH_take (i := 1) (v := .int .i64 d) rfl (by kernel_rfl) (by kernel_rfl) (by kernel_rfl) (fun _ _ _ h => h) (Or.inl ⟨by kernel_rfl, ?_⟩) hHeld ?_
      case refine_1 =>
        rintro wx -
        go_simp
      change wpAnyH _ _ _ _ _ _ _ (Act.put _ (some 23) _) _
      simp only [Act.put, List.setIfInBounds_toArray, List.set_cons_zero, List.set_cons_succ]
      refine wpAnyH_take (i := 2) (v := .int .i64 i) rfl (by kernel_rfl) (by kernel_rfl) (by kernel_rfl) (fun _ _ _ h => h) (Or.inl ⟨by kernel_rfl, ?_⟩) hHeld ?_
      case refine_1 =>
        rintro wx -
        go_simp
      change wpAnyH _ _ _ _ _ _ _ (Act.put _ (some 24) _) _
      simp only [Act.put, List.setIfInBounds_toArray, List.set_cons_zero, List.set_cons_succ]
      refine wpAnyH_take (i := 4) (oi := ⟨some 26, .load 44 (.tmp 8), 44, _, _, none⟩) (v := AT) rfl (by kernel_rfl) (by kernel_rfl) (by kernel_rfl) (fun _ _ _ h => h) (by rw [HAT.out]; exact yieldsIf_load_mid (by kernel_rfl) 44 (.tmp 8) rfl X 0 rfl _ _ (fun _ h => h) HU44.out rfl HISL.out) hHeld ?_
      change wpAnyH _ _ _ _ _ _ _ (Act.put _ (some 26) _) _
      simp only [Act.put, List.setIfInBounds_toArray, List.set_cons_zero, List.set_cons_succ]
      refine wpAnyH_take (i := 5) (v := .int .i64 d) rfl (by kernel_rfl) (by kernel_rfl) (by kernel_rfl) (fun _ _ _ h => h) (Or.inl ⟨by kernel_rfl, ?_⟩) hHeld ?_
      case refine_1 =>
        rintro wx -
        go_simp
      change wpAnyH _ _ _ _ _ _ _ (Act.put _ (some 27) _) _
      simp only [Act.put, List.setIfInBounds_toArray, List.set_cons_zero, List.set_cons_succ]
      refine wpAnyH_take (i := 6) (v := .int .i64 i) rfl (by kernel_rfl) (by kernel_rfl) (by kernel_rfl) (fun _ _ _ h => h) (Or.inl ⟨by kernel_rfl, ?_⟩) hHeld ?_
      case refine_1 =>
        rintro wx -
        go_simp
      change wpAnyH _ _ _ _ _ _ _ (Act.put _ (some 28) _) _
      simp only [Act.put, List.setIfInBounds_toArray, List.set_cons_zero, List.set_cons_succ]
      refine wpAnyH_ready (rs := [3]) (by kernel_rfl) (by simp) ?_
      refine AllReadyH.cons rfl (fun K hK => ?_) AllReadyH.nil
      go_simp
      refine (HBL.out _ HDW.out).mono ?_
      rintro e wA ⟨rfl, hbA⟩
      have HXA : Hid (Mod nob w6 wA) := HDW.out.step (mod_of_below hbA) (fun _ h => h)
      clear hbA
      go_wp2_with fail
      refine hK.out _ _ (HSS.out _ HXA.out) (fun hH1 => ?_)
      clear hK K
      try simp only [Act.put, List.setIfInBounds_toArray, List.set_cons_zero, List.set_cons_succ]
      refine wpAnyH_ready (rs := [7]) (by kernel_rfl) (by simp) ?_
      refine AllReadyH.cons rfl (fun K hK => ?_) AllReadyH.nil
      go_simp
      refine (HRL.out _ HXA.out).mono ?_
      rintro e wB ⟨rfl, hbB⟩
      have HXB : Hid (Mod nob w6 wB) := HXA.out.step (mod_of_below hbB) (fun _ h => h)
      clear hbB
      go_wp2_with fail
      refine hK.out _ _ (HSS.out _ HXB.out) (fun hH2 => ?_)
      clear hK K
      try simp only [Act.put, List.setIfInBounds_toArray, List.set_cons_zero, List.set_cons_succ]
      refine wpAnyH_take (i := 8) (v := .bool true) rfl (by kernel_rfl) (by kernel_rfl) (by kernel_rfl) (fun _ _ _ h => h) (Or.inl ⟨by kernel_rfl, ?_⟩) hH2 ?_
      case refine_1 =>
        rintro wx -
        go_simp
      change wpAnyH _ _ _ _ _ _ _ (Act.put _ (some 30) _) _
      simp only [Act.put, List.setIfInBounds_toArray, List.set_cons_zero, List.set_cons_succ]
      refine wpAnyH_take (i := 9) (v := .bool true) rfl (by kernel_rfl) (by kernel_rfl) (by kernel_rfl) (fun _ _ _ h => h) (Or.inl ⟨by kernel_rfl, ?_⟩) hH2 ?_
      case refine_1 =>
        rintro wx -
        go_simp
      change wpAnyH _ _ _ _ _ _ _ (Act.put _ (some 6) _) _
      simp only [Act.put, List.setIfInBounds_toArray, List.set_cons_zero, List.set_cons_succ]
      refine wpAnyH_done (by kernel_rfl) ?_ _
      refine NoPanic.normal ?_
      go_wp2_with fail
      go_ret
      exact ⟨rfl, HB6.out.trans (HXB.out.below HB6.out.size (fun b h => h.elim))⟩
    | false =>
      refine wp_region_noPanic ?_
      refine wp_region_held_drew (S := fun wx => wx.rangeAt X 0 (tabL t ev)) (by kernel_rfl) (HSS.out _ HDW.out) (fun hHeld => ?_)
      refine wpAnyH_take (i := 0) (v := .pointer (some ⟨p, 0, none⟩)) rfl (by kernel_rfl) (by kernel_rfl) (by kernel_rfl) (fun _ _ _ h => h) (Or.inl ⟨by kernel_rfl, ?_⟩) hHeld ?_
      case refine_1 =>
        rintro wx -
        go_simp
      change wpAnyH _ _ _ _ _ _ _ (Act.put _ (some 22) _) _
      simp only [Act.put, List.setIfInBounds_toArray, List.set_cons_zero, List.set_cons_succ]
      refine wpAnyH_take (i := 1) (v := .int .i64 d) rfl (by kernel_rfl) (by kernel_rfl) (by kernel_rfl) (fun _ _ _ h => h) (Or.inl ⟨by kernel_rfl, ?_⟩) hHeld ?_
      case refine_1 =>
        rintro wx -
        go_simp
      change wpAnyH _ _ _ _ _ _ _ (Act.put _ (some 23) _) _
      simp only [Act.put, List.setIfInBounds_toArray, List.set_cons_zero, List.set_cons_succ]
      refine wpAnyH_take (i := 2) (v := .int .i64 i) rfl (by kernel_rfl) (by kernel_rfl) (by kernel_rfl) (fun _ _ _ h => h) (Or.inl ⟨by kernel_rfl, ?_⟩) hHeld ?_
      case refine_1 =>
        rintro wx -
        go_simp
      change wpAnyH _ _ _ _ _ _ _ (Act.put _ (some 24) _) _
      simp only [Act.put, List.setIfInBounds_toArray, List.set_cons_zero, List.set_cons_succ]
      refine wpAnyH_take (i := 4) (oi := ⟨some 26, .load 44 (.tmp 8), 44, _, _, none⟩) (v := AT) rfl (by kernel_rfl) (by kernel_rfl) (by kernel_rfl) (fun _ _ _ h => h) (by rw [HAT.out]; exact yieldsIf_load_mid (by kernel_rfl) 44 (.tmp 8) rfl X 0 rfl _ _ (fun _ h => h) HU44.out rfl HISL.out) hHeld ?_
      change wpAnyH _ _ _ _ _ _ _ (Act.put _ (some 26) _) _
      simp only [Act.put, List.setIfInBounds_toArray, List.set_cons_zero, List.set_cons_succ]
      refine wpAnyH_take (i := 5) (v := .int .i64 d) rfl (by kernel_rfl) (by kernel_rfl) (by kernel_rfl) (fun _ _ _ h => h) (Or.inl ⟨by kernel_rfl, ?_⟩) hHeld ?_
      case refine_1 =>
        rintro wx -
        go_simp
      change wpAnyH _ _ _ _ _ _ _ (Act.put _ (some 27) _) _
      simp only [Act.put, List.setIfInBounds_toArray, List.set_cons_zero, List.set_cons_succ]
      refine wpAnyH_take (i := 6) (v := .int .i64 i) rfl (by kernel_rfl) (by kernel_rfl) (by kernel_rfl) (fun _ _ _ h => h) (Or.inl ⟨by kernel_rfl, ?_⟩) hHeld ?_
      case refine_1 =>
        rintro wx -
        go_simp
      change wpAnyH _ _ _ _ _ _ _ (Act.put _ (some 28) _) _
      simp only [Act.put, List.setIfInBounds_toArray, List.set_cons_zero, List.set_cons_succ]
      refine wpAnyH_ready (rs := [3]) (by kernel_rfl) (by simp) ?_
      refine AllReadyH.cons rfl (fun K hK => ?_) AllReadyH.nil
      go_simp
      refine (HBL.out _ HDW.out).mono ?_
      rintro e wA ⟨rfl, hbA⟩
      have HXA : Hid (Mod nob w6 wA) := HDW.out.step (mod_of_below hbA) (fun _ h => h)
      clear hbA
      go_wp2_with fail
      refine hK.out _ _ (HSS.out _ HXA.out) (fun hH1 => ?_)
      clear hK K
      try simp only [Act.put, List.setIfInBounds_toArray, List.set_cons_zero, List.set_cons_succ]
      refine wpAnyH_ready (rs := [7]) (by kernel_rfl) (by simp) ?_
      refine AllReadyH.cons rfl (fun K hK => ?_) AllReadyH.nil
      go_simp
      refine (HRL.out _ HXA.out).mono ?_
      rintro e wB ⟨rfl, hbB⟩
      have HXB : Hid (Mod nob w6 wB) := HXA.out.step (mod_of_below hbB) (fun _ h => h)
      clear hbB
      go_wp2_with fail
      refine hK.out _ _ (HSS.out _ HXB.out) (fun hH2 => ?_)
      clear hK K
      try simp only [Act.put, List.setIfInBounds_toArray, List.set_cons_zero, List.set_cons_succ]
      refine wpAnyH_take (i := 8) (v := .bool true) rfl (by kernel_rfl) (by kernel_rfl) (by kernel_rfl) (fun _ _ _ h => h) (Or.inl ⟨by kernel_rfl, ?_⟩) hH2 ?_
      case refine_1 =>
        rintro wx -
        go_simp
      change wpAnyH _ _ _ _ _ _ _ (Act.put _ (some 30) _) _
      simp only [Act.put, List.setIfInBounds_toArray, List.set_cons_zero, List.set_cons_succ]
      refine wpAnyH_take (i := 9) (v := .bool true) rfl (by kernel_rfl) (by kernel_rfl) (by kernel_rfl) (fun _ _ _ h => h) (Or.inl ⟨by kernel_rfl, ?_⟩) hH2 ?_
      case refine_1 =>
        rintro wx -
        go_simp
      change wpAnyH _ _ _ _ _ _ _ (Act.put _ (some 6) _) _
      simp only [Act.put, List.setIfInBounds_toArray, List.set_cons_zero, List.set_cons_succ]
      refine wpAnyH_done (by kernel_rfl) ?_ _
      refine NoPanic.normal ?_
      go_wp2_with fail
      go_ret
      exact ⟨rfl, HB6.out.trans (HXB.out.below HB6.out.size (fun b h => h.elim))⟩
end Go.Proofs.Ytlopdbhjdijlmaa
