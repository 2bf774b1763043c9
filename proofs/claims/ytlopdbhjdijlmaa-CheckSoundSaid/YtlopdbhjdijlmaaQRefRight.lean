/-
  What is an inode: imagoref06.Right: a contract. No condition.
-/
import Derived.Test.YtlopdbhjdijlmaaQRightM
import Derived.IntWalk
import Derived.Lib.Strings

namespace Go.Proofs.Ytlopdbhjdijlmaa
open Go.ChangeShapes Go.WideShapes Go.ChangeAt Go.RowKit
set_option linter.unusedSimpArgs false
set_option linter.unusedVariables false

/-- What the first loop has seen. -/
def SeenTo (n : Ino) (k : Nat) : Prop := (n.kind = 1 → BlTo n k) ∧ (n.kind = 2 → ∀ j, j < k → n.bl.getD j 0 = 0)

/-- What each block must be. -/
def BlAt (n : Ino) (k : Nat) : Prop := (0 ≤ n.bl.getD k 0 ∧ n.bl.getD k 0 < 256) ∧ (n.bl.getD k 0 ≠ 0 → n.kind ≠ 2 ∧ (k : Int) * 64 < n.size ∧ ∀ j, j < k → n.bl.getD j 0 ≠ n.bl.getD k 0)

theorem right_at {n : Ino} (h : RightP n) (k : Nat) (hk : k < 13) : BlAt n k := by
  obtain ⟨-, -, -, h⟩ := h
  rcases h with ⟨h1, hf⟩ | ⟨h2, hd⟩
  · have := hf.1 k hk
    exact ⟨this.1, fun hb => ⟨by omega, this.2 hb⟩⟩
  · have := hd.2.2.2 k hk
    exact ⟨by omega, fun hb => absurd this hb⟩

theorem SeenTo.succ {n : Ino} {k : Nat} (h : SeenTo n k) (hb : BlAt n k) : SeenTo n (k + 1) := by
  refine ⟨fun hk j hj => ?_, fun hk j hj => ?_⟩
  · by_cases e : j = k
    · subst e
      exact ⟨hb.1, fun h0 => (hb.2 h0).2⟩
    · exact h.1 hk j (by omega)
  · by_cases e : j = k
    · subst e
      by_cases h0 : n.bl.getD j 0 = 0
      · exact h0
      · exact absurd hk (hb.2 h0).1
    · exact h.2 hk j (by omega)

theorem leS_empty {nm : ByteArray} (h : goodB nm.data.toList = true) : Op.bytesLess nm.toList (⟨#[]⟩ : ByteArray).toList = false ∧ (nm.toList == (⟨#[]⟩ : ByteArray).toList) = false := by
  have h0 : (⟨#[]⟩ : ByteArray).toList = [] := by rw [Lib.toList_data]
  have hne : nm.toList ≠ [] := by
    rw [Lib.toList_data]
    intro e
    rw [e] at h
    simp [goodB] at h
  rw [h0]
  refine ⟨?_, by simpa using hne⟩
  cases nm.toList <;> rfl

/-- What is left to ask where the blocks are right. -/
theorem right_file {n : Ino} (h1 : (n.format = 1 ∨ n.format = 2) ∧ 0 ≤ n.links ∧ n.links ≤ 65535) (hk : n.kind = 1) (hs : SeenTo n 13) : RightP n ↔ 0 ≤ n.size ∧ n.size ≤ 832 ∧ n.ents.length = 0 := by
  constructor
  · rintro ⟨-, -, -, h⟩
    rcases h with ⟨-, h⟩ | ⟨h, -⟩
    · exact ⟨h.2.1, h.2.2.1, by rw [h.2.2.2]; rfl⟩
    · omega
  · rintro ⟨a, b, c⟩
    exact ⟨h1.1, h1.2.1, h1.2.2, .inl ⟨hk, hs.1 hk, a, b, List.eq_nil_of_length_eq_zero c⟩⟩

theorem right_dir {n : Ino} (h1 : (n.format = 1 ∨ n.format = 2) ∧ 0 ≤ n.links ∧ n.links ≤ 65535) (hk : n.kind = 2) (hs : SeenTo n 13) (he : EntsTo n.ents n.ents.length) : RightP n ↔ n.ents.length ≤ 24 ∧ n.size = n.ents.length := by
  constructor
  · rintro ⟨-, -, -, h⟩
    rcases h with ⟨h, -⟩ | ⟨-, h⟩
    · omega
    · exact ⟨h.2.1, h.2.2.1⟩
  · rintro ⟨a, b⟩
    exact ⟨h1.1, h1.2.1, h1.2.2, .inr ⟨hk, he, a, b, hs.2 hk⟩⟩

theorem right_ents {n : Ino} (h : RightP n) (hk : n.kind = 2) (k : Nat) (hl : k < n.ents.length) : entOK n.ents k := by
  obtain ⟨-, -, -, h⟩ := h
  rcases h with ⟨h, -⟩ | ⟨-, h⟩
  · omega
  · exact h.1 k hl

set_option maxRecDepth 20000 in
set_option maxHeartbeats 8000000 in
theorem ref_right {w : World} {n : Ino} {ev : Value} (hn : n.Ok) (he : HoldsE w ev n.ents) :
    Calls Try.prog 11 #[.agg (inoA n ev)] w fun e w' => e = .returned (.bool (rightB n)) ∧ Below w.heap.size w w' := by
  have hb := InoB.new w hn.len ev
  have HB := Lib.hid hb
  have HNO := Lib.hid hn
  have HE := Lib.hid he
  obtain ⟨ao, c, rfl, e1, e2, -, -⟩ := he
  obtain ⟨L, hL⟩ : ∃ L, L = n.ents.length := ⟨_, rfl⟩
  rw [← hL] at HB HE hb e1 ⊢
  have HL := Lib.hid hL
  unfold maxLen at e2
  have c0 := hb.at.c0
  have c1 := hb.at.c1
  have c2 := hb.at.c2
  simp only [Nat.zero_add] at c1 c2
  have HBEL : Hid (Below w.heap.size w (w.alloc (.cells (inoA n (.slice ao L c)) 25))) := (Below.refl _ _).alloc (Nat.le_refl _) _
  obtain ⟨fo, hfo⟩ : ∃ fo, fo = n.format := ⟨_, rfl⟩
  obtain ⟨ki, hki⟩ : ∃ ki, ki = n.kind := ⟨_, rfl⟩
  obtain ⟨li, hli⟩ : ∃ li, li = n.links := ⟨_, rfl⟩
  obtain ⟨sz, hsz⟩ : ∃ sz, sz = n.size := ⟨_, rfl⟩
  rw [← hfo] at c0
  rw [← hki] at c1
  rw [← hli] at c2
  have hbad : ¬ ((fo = 1 ∨ fo = 2) ∧ 0 ≤ li ∧ li ≤ 65535 ∧ (ki = 1 ∨ ki = 2)) → rightB n = false := by
    intro h
    refine rightB_false (fun hr => h ?_)
    rw [hfo, hki, hli]
    exact ⟨hr.1, hr.2.1, hr.2.2.1, by rcases hr.2.2.2 with h | h; exact .inl h.1; exact .inr h.1⟩
  have HBAD := Lib.hid hbad
  have HFO := Lib.hid hfo
  have HKI := Lib.hid hki
  have HLI := Lib.hid hli
  have HSZ := Lib.hid hsz
  clear hb hn hfo hki hli hbad hsz hL
  rcases (show fo < 1 ∨ 2 < fo ∨ (1 ≤ fo ∧ fo ≤ 2) by omega) with h1 | h1 | ⟨h1, h2⟩
  · have H1 := Lib.hid h1
    go_enter Try.func11, Try.ntmps11
    go_wp2_with fail
    go_ret
    exact ⟨ret_b (HBAD.out (fun h => by have := h.1; have := H1.out; omega)).symm, HBEL.out⟩
  · have H1 := Lib.hid h1
    go_enter Try.func11, Try.ntmps11
    go_wp2_with fail
    go_ret
    exact ⟨ret_b (HBAD.out (fun h => by have := h.1; have := H1.out; omega)).symm, HBEL.out⟩
  · have H12 := Lib.hid (And.intro h1 h2)
    rcases (show ki < 1 ∨ 2 < ki ∨ (1 ≤ ki ∧ ki ≤ 2) by omega) with h3 | h3 | ⟨h3, h4⟩
    · have H1 := Lib.hid h3
      go_enter Try.func11, Try.ntmps11
      go_wp2_with fail
      go_ret
      exact ⟨ret_b (HBAD.out (fun h => by have := h.2.2.2; have := H1.out; omega)).symm, HBEL.out⟩
    · have H1 := Lib.hid h3
      go_enter Try.func11, Try.ntmps11
      go_wp2_with fail
      go_ret
      exact ⟨ret_b (HBAD.out (fun h => by have := h.2.2.2; have := H1.out; omega)).symm, HBEL.out⟩
    · have H34 := Lib.hid (And.intro h3 h4)
      rcases (show li < 0 ∨ 65535 < li ∨ (0 ≤ li ∧ li ≤ 65535) by omega) with h5 | h5 | ⟨h5, h6⟩
      · have H1 := Lib.hid h5
        go_enter Try.func11, Try.ntmps11
        go_wp2_with fail
        go_ret
        exact ⟨ret_b (HBAD.out (fun h => by have := h.2.1; have := H1.out; omega)).symm, HBEL.out⟩
      · have H1 := Lib.hid h5
        go_enter Try.func11, Try.ntmps11
        go_wp2_with fail
        go_ret
        exact ⟨ret_b (HBAD.out (fun h => by have := h.2.2.1; have := H1.out; omega)).symm, HBEL.out⟩
      · have HGO : Hid ((n.format = 1 ∨ n.format = 2) ∧ 0 ≤ n.links ∧ n.links ≤ 65535) := by
          unfold Hid
          rw [← HFO.out, ← HLI.out]
          exact ⟨by omega, by omega, by omega⟩
        clear HBAD
        go_enter Try.func11, Try.ntmps11
        go_wp2_with fail
        generalize w.alloc (.cells (inoA n (.slice ao L c)) 25) = w0 at *
        have hk12 : ki = 1 ∨ ki = 2 := by omega
        have HK12 := Lib.hid hk12
        clear h1 h2 h5 h6 c0 c1 c2 hk12 h3 h4
        go_loopg [3, 4, 5] 13 (fun gk iv _ _ wr => ∃ k : Nat, k + gk = 13 ∧ iv = .int .i64 k ∧ w0 = wr ∧ Hid (SeenTo n k))
        case atStart => exact ⟨0, by omega, rfl, rfl, ⟨fun _ j hj => by omega, fun _ j hj => by omega⟩⟩
        case round =>
          obtain ⟨k, hk, rfl, rfl, HSEE⟩ := hrel
          have c1 := HB.out.at.c1
          have c3 := HB.out.at.c3
          have c17 := HB.out.at.ev
          simp only [Nat.zero_add] at c1 c3 c17
          rw [← HKI.out] at c1
          rw [← HSZ.out] at c3
          by_cases hlt : k < 13
          · have hli : (k : Int) < 13 := by omega
            have hk0 : (0 : Int) ≤ (k : Int) := Int.natCast_nonneg _
            have d1 := HB.out.at.bl k hlt
            rw [Nat.zero_add] at d1
            obtain ⟨x, hx⟩ : ∃ x, x = n.bl.getD k 0 := ⟨_, rfl⟩
            rw [← hx] at d1
            have HX := Lib.hid hx
            have hbad : ¬ BlAt n k → rightB n = false := fun h => rightB_false (fun hr => h (right_at hr k hlt))
            have HBAD := Lib.hid hbad
            have hat : BlAt n k = ((0 ≤ x ∧ x < 256) ∧ (x ≠ 0 → ki ≠ 2 ∧ (k : Int) * 64 < sz ∧ ∀ j, j < k → n.bl.getD j 0 ≠ x)) := by
              unfold BlAt
              rw [hx, HKI.out, HSZ.out]
            have HAT := Lib.hid hat
            clear hx hbad hat
            rcases (show x < 0 ∨ 255 < x ∨ (0 ≤ x ∧ x ≤ 255) by omega) with h1 | h1 | ⟨h1, h2⟩
            · have H1 := Lib.hid h1
              go_wp2_with fail
              go_ret
              exact ⟨ret_b (HBAD.out (fun h => by rw [HAT.out] at h; have := h.1; have := H1.out; omega)).symm, HBEL.out⟩
            · have H1 := Lib.hid h1
              go_wp2_with fail
              go_ret
              exact ⟨ret_b (HBAD.out (fun h => by rw [HAT.out] at h; have := h.1; have := H1.out; omega)).symm, HBEL.out⟩
            · rcases (show x = 0 ∨ 0 < x by omega) with h0 | h0
              · subst h0
                go_wp2_with fail
                have HN := Lib.hid (HSEE.out.succ (by rw [HAT.out]; exact ⟨by omega, fun h => absurd rfl h⟩))
                obtain ⟨kk, hkk⟩ : ∃ kk, kk = k := ⟨_, rfl⟩
                go_loopg [5] k (fun gj jv wr => ∃ j : Nat, j + gj = k ∧ jv = .int .i64 j ∧ w0 = wr)
                case atStart => exact ⟨0, by omega, rfl, rfl⟩
                case round =>
                  obtain ⟨j, hj, rfl, rfl⟩ := hrel
                  by_cases hjk : j < k
                  · have hji : (j : Int) < (k : Int) := by omega
                    go_wp2_with fail
                    go_roundg (gk - 1)
                    case measure => omega
                    case rel => exact ⟨j + 1, by omega, by go_num, rfl⟩
                  · have hji : ¬ (j : Int) < (k : Int) := by omega
                    go_wp2_with fail
                    go_roundg (12 - k)
                    case measure => omega
                    case rel => exact ⟨k + 1, by omega, by go_num, rfl, HN.out⟩
              · by_cases hk2 : ki = 2
                · have H1 := Lib.hid hk2
                  have H0 := Lib.hid h0
                  go_wp2_with fail
                  go_ret
                  exact ⟨ret_b (HBAD.out (fun h => by rw [HAT.out] at h; have h1 := H0.out; exact (h.2 (by omega)).1 H1.out)).symm, HBEL.out⟩
                · have hk2b : (ki == 2) = false := by simpa using hk2
                  have HK2 := Lib.hid hk2
                  by_cases hs : sz ≤ 64 * (k : Int)
                  · have H1 := Lib.hid hs
                    have H0 := Lib.hid h0
                    clear hk2
                    go_wp2_with fail
                    go_ret
                    exact ⟨ret_b (HBAD.out (fun h => by rw [HAT.out] at h; have h1 := H0.out; have h2 := (h.2 (by omega)).2.1; have h3 := H1.out; omega)).symm, HBEL.out⟩
                  · have HS := Lib.hid hs
                    have H0 := Lib.hid h0
                    clear hk2
                    go_wp2_with fail
                    go_loopg [5] k (fun gj jv wr => ∃ j : Nat, j + gj = k ∧ jv = .int .i64 j ∧ w0 = wr ∧ Hid (∀ i, i < j → n.bl.getD i 0 ≠ x))
                    case atStart => exact ⟨0, by omega, rfl, rfl, fun i hi => by omega⟩
                    case round =>
                      obtain ⟨j, hj, rfl, rfl, HJ⟩ := hrel
                      by_cases hjk : j < k
                      · have hji : (j : Int) < (k : Int) := by omega
                        have hj0 : (0 : Int) ≤ (j : Int) := Int.natCast_nonneg _
                        have hj13 : (j : Int) < 13 := by omega
                        have d2 := HB.out.at.bl j (by omega)
                        rw [Nat.zero_add] at d2
                        obtain ⟨y, hy⟩ : ∃ y, y = n.bl.getD j 0 := ⟨_, rfl⟩
                        rw [← hy] at d2
                        have HY := Lib.hid hy
                        clear hy
                        by_cases hyx : y = x
                        · have hyb : (y == x) = true := by simpa using hyx
                          have H1 := Lib.hid hyx
                          have HJK := Lib.hid hjk
                          clear hyx
                          go_wp2_with fail
                          go_ret
                          exact ⟨ret_b (HBAD.out (fun h => by rw [HAT.out] at h; have h1 := H0.out; exact (h.2 (by omega)).2.2 j HJK.out (by rw [← HY.out]; exact H1.out))).symm, HBEL.out⟩
                        · have hyb : (y == x) = false := by simpa using hyx
                          have H1 := Lib.hid hyx
                          clear hyx
                          go_wp2_with fail
                          go_roundg (gk - 1)
                          case measure => omega
                          case rel =>
                            refine ⟨j + 1, by omega, by go_num, rfl, fun i hi => ?_⟩
                            by_cases e : i = j
                            · subst e
                              rw [← HY.out]
                              exact H1.out
                            · exact HJ.out i (by omega)
                      · have hji : ¬ (j : Int) < (k : Int) := by omega
                        obtain rfl : j = k := by omega
                        have HN := Lib.hid (HSEE.out.succ (by rw [HAT.out]; exact ⟨by omega, fun _ => ⟨HK2.out, by have := HS.out; omega, HJ.out⟩⟩))
                        go_wp2_with fail
                        go_roundg (12 - j)
                        case measure => omega
                        case rel => exact ⟨j + 1, by omega, by go_num, rfl, HN.out⟩
          · have hge : ¬ (k : Int) < 13 := by omega
            obtain rfl : k = 13 := by omega
            rcases HK12.out with hk1 | hk2
            · have hki1 : n.kind = 1 := by rw [← HKI.out]; exact hk1
              have hfin := right_file HGO.out hki1 HSEE.out
              rw [← HSZ.out, ← HL.out] at hfin
              have HFIN := Lib.hid hfin
              subst hk1
              clear hfin hki1
              rcases (show sz < 0 ∨ 832 < sz ∨ (0 ≤ sz ∧ sz ≤ 832) by omega) with h1 | h1 | ⟨h1, h2⟩
              · have H1 := Lib.hid h1
                have hd : decide (0 ≤ sz) = false := by simp; omega
                go_wp2_with fail
                go_ret
                exact ⟨ret_b (rightB_false (fun h => by have := HFIN.out.1 h; have := H1.out; omega)).symm, HBEL.out⟩
              · have H1 := Lib.hid h1
                have hd : 0 ≤ sz := by omega
                go_wp2_with fail
                go_ret
                exact ⟨ret_b (rightB_false (fun h => by have := HFIN.out.1 h; have := H1.out; omega)).symm, HBEL.out⟩
              · have H12 := Lib.hid (And.intro h1 h2)
                rcases Nat.eq_zero_or_pos L with h0 | h0
                · have H0 := Lib.hid h0
                  have hlb : ((L : Int) == 0) = true := by simp; omega
                  clear h0
                  go_wp2_with fail
                  go_ret
                  exact ⟨ret_b (rightB_true (HFIN.out.2 ⟨H12.out.1, H12.out.2, H0.out⟩)).symm, HBEL.out⟩
                · have hlb : ((L : Int) == 0) = false := by simp; omega
                  have H0 := Lib.hid h0
                  go_wp2_with fail
                  go_ret
                  exact ⟨ret_b (rightB_false (fun h => by have := HFIN.out.1 h; have := H0.out; omega)).symm, HBEL.out⟩
            · have hki2 : n.kind = 2 := by rw [← HKI.out]; exact hk2
              have HKI2 := Lib.hid hki2
              subst hk2
              clear hki2
              go_wp2_with fail
              go_loopg [6, 7] L (fun gk iv _ wr => ∃ k : Nat, k + gk = L ∧ iv = .int .i64 k ∧ Hid (EntsTo n.ents k) ∧ Hid (Mod nob w0 wr))
              case atStart => exact ⟨0, by omega, rfl, (fun k hk => by omega), Mod.refl _ _⟩
              case round =>
                obtain ⟨k, hk, rfl, HET, HMO⟩ := hrel
                clear c1 c3 c17
                have HBE : Hid (Below w.heap.size w wr) := HBEL.out.trans (HMO.out.below HBEL.out.size (fun b hb => hb.elim))
                have hib := HB.out.mod HMO.out (fun h => h)
                have c3 := hib.at.c3
                have c17 := hib.at.ev
                simp only [Nat.zero_add] at c3 c17
                rw [← HSZ.out] at c3
                clear hib
                by_cases hlt : k < L
                · have hli : (k : Int) < (L : Int) := by omega
                  have hk0 : (0 : Int) ≤ (k : Int) := Int.natCast_nonneg _
                  obtain ⟨ao', c', e, -, -, -, hcell⟩ := HE.out.below HBE.out
                  simp only [Value.slice.injEq] at e
                  obtain ⟨rfl, -, rfl⟩ := e
                  obtain ⟨g, o, rfl, d1, d2⟩ := hcell k (by rw [← HL.out]; exact hlt)
                  have hent : (n.ents.getD k default).Ok := by
                    rw [List.getD_eq_getElem?_getD, List.getElem?_eq_getElem (by rw [← HL.out]; exact hlt)]
                    exact HNO.out.ents _ (List.getElem_mem _)
                  have hbad : ¬ entOK n.ents k → rightB n = false := fun h => rightB_false (fun hr => h (right_ents hr HKI2.out k (by rw [← HL.out]; exact hlt)))
                  have HBAD := Lib.hid hbad
                  have hok : entOK n.ents k = (goodB (n.ents.getD k default).name.data.toList = true ∧ leS (n.ents.getD k default).name (prevN n.ents k) = false ∧ 0 ≤ (n.ents.getD k default).ino ∧ (n.ents.getD k default).ino < 32) := rfl
                  have HOK := Lib.hid hok
                  have hle : leS (n.ents.getD k default).name (prevN n.ents k) = (Op.bytesLess (n.ents.getD k default).name.toList (prevN n.ents k).toList || (n.ents.getD k default).name.toList == (prevN n.ents k).toList) := rfl
                  have HLE := Lib.hid hle
                  have hnm := hent.name
                  have hpc : 0 < k → wr.cell? ⟨g, o + (k - 1) * 2, none⟩ = some (.string (prevN n.ents k)) := by
                    intro h0
                    obtain ⟨g', o', e, f1, -⟩ := hcell (k - 1) (by rw [← HL.out]; omega)
                    cases e
                    rw [f1]
                    unfold prevN
                    rw [if_neg (by omega)]
                  have hp0 : k = 0 → prevN n.ents k = ⟨#[]⟩ := fun h => by unfold prevN; rw [if_pos h]
                  have HPC := Lib.hid hpc
                  have HP0 := Lib.hid hp0
                  clear hcell hent hbad hok hle hpc hp0
                  generalize (n.ents.getD k default).name = nm at *
                  generalize (n.ents.getD k default).ino = ino at *
                  generalize prevN n.ents k = la at *
                  have HNM := Lib.hid hnm
                  clear hnm
                  have HGC : Hid (∀ (b : Bool), goodB nm.data.toList = b → ∀ m (wx : World), Calls Try.prog 46 #[.string nm] (wx.drewN m) fun e w' => e = .returned (.bool b) ∧ w' = wx.drewN m) := by
                    intro b hb m wx
                    have := ref_good nm HNM.out (wx.drewN m)
                    rw [hb] at this
                    exact this.mono fun e w' ⟨h1, h2⟩ => ⟨h1, h2.symm⟩
                  have HTE : Hid (Below w.heap.size w (wr.alloc (.cells #[.string nm, .int .i64 ino] 27))) := HBE.out.alloc HBE.out.size _
                  cases hg : goodB nm.data.toList with
                  | false =>
                    have HG := Lib.hid hg
                    clear hg
                    go_wp2_with fail
                    go_quiet ((go_at_call 46; exact Calls.quiet_of_same (HGC.out _ HG.out _ _)))
                    go_wp2_with fail
                    go_ret
                    exact ⟨ret_b (HBAD.out (fun h => by rw [HOK.out] at h; have := h.1; rw [HG.out] at this; cases this)).symm, below_dN HTE.out _⟩
                  | true =>
                    have HG := Lib.hid hg
                    clear hg
                    rcases (show ino < 0 ∨ 31 < ino ∨ (0 ≤ ino ∧ ino ≤ 31) by omega) with h3 | h3 | ⟨h3, h4⟩
                    · have H3 := Lib.hid h3
                      have hd3 : decide (ino < 0) = true := by simpa using h3
                      go_wp2_with fail
                      go_quiet ((go_at_call 46; exact Calls.quiet_of_same (HGC.out _ HG.out _ _)))
                      go_wp2_with fail
                      go_ret
                      exact ⟨ret_b (HBAD.out (fun h => by rw [HOK.out] at h; have := h.2.2.1; have := H3.out; omega)).symm, below_dN HTE.out _⟩
                    · have H3 := Lib.hid h3
                      have hd3 : decide (ino < 0) = false := by simp; omega
                      have hd4 : decide (31 < ino) = true := by simpa using h3
                      go_wp2_with fail
                      go_quiet ((go_at_call 46; exact Calls.quiet_of_same (HGC.out _ HG.out _ _)))
                      go_wp2_with fail
                      go_ret
                      exact ⟨ret_b (HBAD.out (fun h => by rw [HOK.out] at h; have := h.2.2.2; have := H3.out; omega)).symm, below_dN HTE.out _⟩
                    · have H34 := Lib.hid (And.intro h3 h4)
                      have hd3 : decide (ino < 0) = false := by simp; omega
                      have hd4 : decide (31 < ino) = false := by simp; omega
                      rcases Nat.eq_zero_or_pos k with hk00 | hk00
                      · have HK00 := Lib.hid hk00
                        have hd5 : decide ((0 : Int) < (k : Int)) = false := by simp; omega
                        have hd6 : decide (0 < k) = false := by simp; omega
                        clear hk00
                        go_wp2_with fail
                        go_quiet ((go_at_call 46; exact Calls.quiet_of_same (HGC.out _ HG.out _ _)))
                        go_wp2_with fail
                        go_roundg (gk - 1)
                        case measure => omega
                        case rel =>
                          refine ⟨k + 1, by omega, by go_num, fun j hj => ?_, (HMO.out.alloc _).drewN _⟩
                          by_cases e : j = k
                          · subst e
                            rw [HOK.out]
                            exact ⟨HG.out, by rw [HLE.out, HP0.out HK00.out, (leS_empty HG.out).1, (leS_empty HG.out).2]; rfl, by have := H34.out; omega, by have := H34.out; omega⟩
                          · exact HET.out j (by omega)
                      · have hd5 : decide ((0 : Int) < (k : Int)) = true := by simp; omega
                        have hd6 : decide (0 < k) = true := by simp; omega
                        have hpc2 := HPC.out hk00
                        obtain ⟨j, hj⟩ : ∃ j, j = k - 1 := ⟨_, rfl⟩
                        rw [← hj] at hpc2
                        have hw : IntKind.i64.wrap ((k : Int) - 1) = (j : Int) := by
                          have e : (k : Int) - 1 = (j : Int) := by omega
                          rw [e]
                          exact IntWalk.i64_in _ (by omega)
                        have hj0 : (0 : Int) ≤ (j : Int) := Int.natCast_nonneg _
                        have hjL : (j : Int) < (L : Int) := by omega
                        have c17a : (wr.alloc (.cells #[.string nm, .int .i64 ino] 27)).cell? ⟨w.heap.size, 17, none⟩ = some (.slice (some ⟨g, o, none⟩) L c) := by rw [World.cell?_alloc_some _ _ _ (by rw [c17]; rfl)]; exact c17
                        have hpc3 : (wr.alloc (.cells #[.string nm, .int .i64 ino] 27)).cell? ⟨g, o + j * 2, none⟩ = some (.string la) := by rw [World.cell?_alloc_some _ _ _ (by rw [hpc2]; rfl)]; exact hpc2
                        have HJ := Lib.hid hj
                        clear hj hk00
                        cases h1 : Op.bytesLess nm.toList la.toList with
                        | true =>
                          have H1 := Lib.hid h1
                          go_wp2_with fail
                          go_quiet ((go_at_call 46; exact Calls.quiet_of_same (HGC.out _ HG.out _ _)))
                          go_wp2_with fail
                          go_ret
                          exact ⟨ret_b (HBAD.out (fun h => by rw [HOK.out] at h; have := h.2.1; rw [HLE.out, H1.out] at this; cases this)).symm, below_dN HTE.out _⟩
                        | false =>
                          have H1 := Lib.hid h1
                          cases h2 : (nm.toList == la.toList) with
                          | true =>
                            have H2 := Lib.hid h2
                            go_wp2_with fail
                            go_quiet ((go_at_call 46; exact Calls.quiet_of_same (HGC.out _ HG.out _ _)))
                            go_wp2_with fail
                            go_ret
                            exact ⟨ret_b (HBAD.out (fun h => by rw [HOK.out] at h; have := h.2.1; rw [HLE.out, H1.out, H2.out] at this; cases this)).symm, below_dN HTE.out _⟩
                          | false =>
                            have H2 := Lib.hid h2
                            go_wp2_with fail
                            go_quiet ((go_at_call 46; exact Calls.quiet_of_same (HGC.out _ HG.out _ _)))
                            go_wp2_with fail
                            go_roundg (gk - 1)
                            case measure => omega
                            case rel =>
                              refine ⟨k + 1, by omega, by go_num, fun i hi => ?_, (HMO.out.alloc _).drewN _⟩
                              by_cases e : i = k
                              · subst e
                                rw [HOK.out]
                                exact ⟨HG.out, by rw [HLE.out, H1.out, H2.out]; rfl, by have := H34.out; omega, by have := H34.out; omega⟩
                              · exact HET.out i (by omega)
                · have hge : ¬ (k : Int) < (L : Int) := by omega
                  obtain rfl : k = L := by omega
                  have hfin := right_dir HGO.out HKI2.out HSEE.out (by rw [← HL.out]; exact HET.out)
                  rw [← HSZ.out, ← HL.out] at hfin
                  have HFIN := Lib.hid hfin
                  clear hfin
                  by_cases h1 : k ≤ 24
                  · have h1i : (k : Int) ≤ 24 := by omega
                    by_cases h2 : sz = (k : Int)
                    · have H12 := Lib.hid (And.intro h1 h2)
                      have h2b : (sz == (k : Int)) = true := by simpa using h2
                      clear h1 h2
                      go_wp2_with fail
                      go_ret
                      exact ⟨ret_b (rightB_true (HFIN.out.2 H12.out)).symm, HBE.out⟩
                    · have H2 := Lib.hid h2
                      have h2b : (sz == (k : Int)) = false := by simpa using h2
                      go_wp2_with fail
                      go_ret
                      exact ⟨ret_b (rightB_false (fun h => H2.out (HFIN.out.1 h).2)).symm, HBE.out⟩
                  · have H1 := Lib.hid h1
                    have h1i : ¬ (k : Int) ≤ 24 := by omega
                    go_wp2_with fail
                    go_ret
                    exact ⟨ret_b (rightB_false (fun h => H1.out (HFIN.out.1 h).1)).symm, HBE.out⟩
end Go.Proofs.Ytlopdbhjdijlmaa
