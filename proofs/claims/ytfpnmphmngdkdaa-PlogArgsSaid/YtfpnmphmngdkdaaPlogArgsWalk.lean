/-
  The law PlogArgs: the walk. No condition.
-/
import Derived.Test.YtfpnmphmngdkdaaPlogSame
import Derived.Test.YtfpnmphmngdkdaaPmemSizesM
namespace Go.Proofs.Ytfpnmphmngdkdaa
open Go.ChangeShapes Go.WideShapes Go.ChangeAt Go.RowKit Go.Maps
set_option linter.unusedSimpArgs false
set_option linter.unusedVariables false

theorem other_size {S : Pm} (hn : S.n ≠ 3128) (l : List (Int × Int)) : S.standing = ([], false, 1) ∧ S.commit l = (S, 1) ∧ S.replay = (S, 1) := by
  have h1 : S.standing = ([], false, 1) := by unfold Pm.standing; rw [if_pos hn]
  refine ⟨h1, by unfold Pm.commit; rw [if_pos (.inl hn)], ?_⟩
  unfold Pm.replay
  rw [h1]
  rw [if_pos (by simp)]

theorem plog_commit_size {w : World} {p : Nat} {D : Nat → Prop} {S : Pm} (h : PmAt w p D S) (hn : S.n ≠ 3128) (ao : Option Addr) (l c : Nat) :
    Calls Try.prog 18 #[.pointer (some ⟨p, 0, none⟩), .slice ao l c] w fun e w' => e = .returned (.int .i64 1) ∧ w = w' := by
  have HLEN := Lib.hid (pm_len h)
  have hne : ((S.n : Int) != 3128) = true := by simp; omega
  clear h hn
  go_enter Try.func18, Try.ntmps18
  go_wp2_with fail
  refine HLEN.out.mono ?_
  rintro e w1 ⟨rfl, rfl⟩
  go_wp2
  go_ret
  exact ⟨rfl, rfl⟩

set_option maxRecDepth 20000 in
set_option maxHeartbeats 1000000 in
theorem law_args0 {w : World} {bv : Value} {b : List (Int × Int)} (hb : HoldsL w bv b) (hwb : Word64 b) (n : Nat) (hn : n < 65536) :
    Calls Try.prog 3 #[.int .u16 (n : Int), bv] w fun e w' => e = .returned (.bool true) ∧ Below w.heap.size w w' := by
  have HB := Lib.hid hb
  have HWB := Lib.hid hwb
  obtain ⟨bo, d, rfl, hld, hdm, -⟩ := hb
  obtain ⟨m, hm⟩ : ∃ m, m = b.length := ⟨_, rfl⟩
  rw [← hm] at HB hld ⊢
  unfold maxLen at hdm
  obtain ⟨k, hk⟩ : ∃ k, k = n % 5000 := ⟨_, rfl⟩
  have hkk : ((n : Int) % 5000) = (k : Int) := by omega
  have hk1 : k < 5000 := by omega
  by_cases h1 : k ≠ 3128 ∧ m ≤ 100
  · obtain ⟨h1, h2⟩ := h1
    have HM := Lib.hid hm
    have hbk : ((k : Int) == 3128) = false := by simp; omega
    have hsn := new_n k (by omega)
    obtain ⟨o1, o2, o3⟩ := other_size (S := Pm.new (List.replicate k 0)) (by rw [hsn]; exact h1) b
    have HO := Lib.hid (And.intro o1 (And.intro o2 o3))
    have hde : (Pm.new (List.replicate k 0)).deeds = 0 := rfl
    have HNEW : Hid (∀ w : World, Calls Try.prog 16 #[.int .i64 (k : Int)] w fun e w' => ∃ p, e = .returned (.pointer (some ⟨p, 0, none⟩)) ∧ PmAt w' p (grow nob w w') (Pm.new (List.replicate k 0)) ∧ Below w.heap.size w w') := by
      intro w
      have := pm_new (k : Int) w
      rw [show min ((k : Int)).toNat 10000 = k by omega] at this
      exact this
    have HDE := Lib.hid hde
    have HSN : Hid ((Pm.new (List.replicate k 0)).n ≠ 3128) := by unfold Hid; rw [hsn]; exact h1
    generalize Pm.new (List.replicate k 0) = S at HO HDE HNEW HSN
    clear hm hwb o1 o2 o3 hsn hde hk
    go_enter Try.func3, Try.ntmps3
    go_wp2_with fail
    refine (awake3 _).mono ?_
    rintro e w1 ⟨rfl, hb1⟩
    have HB1 := Lib.hid hb1
    clear hb1
    go_wp2_with fail
    refine (HNEW.out _).mono ?_
    rintro e w2 ⟨p, rfl, h2', hb2⟩
    have H2 := Lib.hid h2'
    have HB2 : Hid (Below w.heap.size w w2) := HB1.out.trans (hb2.mono HB1.out.size)
    have HDW : Hid (∀ g, grow nob w1 w2 g → w.heap.size ≤ g) := by
      intro g hd
      have := HB1.out.size
      rcases hd with hd | hd
      · exact hd.elim
      · omega
    have hst := plog_standing H2.out
    rw [HO.out.1] at hst
    have HST := Lib.hid hst
    generalize grow nob w1 w2 = DD at H2 HDW
    clear h2' hb2 hst
    go_wp2_with fail
    refine HST.out.mono ?_
    rintro e w3 ⟨v3, rfl, ho3, hb3⟩
    have H3 : Hid (PmAt w3 p DD S) := H2.out.mod (mod_of_below hb3) (fun _ _ h => h)
    have HB3 : Hid (Below w.heap.size w w3) := HB2.out.trans (hb3.mono HB2.out.size)
    obtain ⟨ao3, cap3, rfl, -, -, -⟩ := own_shape ho3
    have HCM := Lib.hid (plog_commit_size H3.out HSN.out bo m d)
    have hrp := plog_replay H3.out (by have := HDE.out; omega)
    rw [HO.out.2.2] at hrp
    have HRP := Lib.hid hrp
    clear ho3 hb3 HST hrp
    go_wp2_with fail
    refine HCM.out.mono ?_
    rintro e w4 ⟨rfl, rfl⟩
    go_wp2_with fail
    refine HRP.out.mono ?_
    rintro e w4 ⟨rfl, h4, m4⟩
    have hde := pm_deeds h4
    rw [HDE.out] at hde
    have HDD := Lib.hid hde
    have HB4 : Hid (Below w.heap.size w w4) := HB3.out.trans (m4.below HB3.out.size HDW.out)
    clear h4 m4 hde
    go_wp2_with fail
    refine HDD.out.mono ?_
    rintro e w5 ⟨rfl, rfl⟩
    go_wp2
    go_ret
    exact ⟨rfl, HB4.out⟩
  · rcases (show k = 3128 ∨ (k ≠ 3128 ∧ 100 < m) by omega) with rfl | ⟨h2, h3⟩
    · clear h1 hm hk
      go_enter Try.func3, Try.ntmps3
      go_wp2_with fail
      refine (awake3 _).mono ?_
      rintro e w1 ⟨rfl, hb1⟩
      go_wp2_with fail
      refine (awake3 _).mono ?_
      rintro e w2 ⟨rfl, hb2⟩
      go_wp2
      go_ret
      exact ⟨rfl, hb1.trans (hb2.mono hb1.size)⟩
    · have hbk : ((k : Int) == 3128) = false := by simp; omega
      clear h1 hm hk
      go_enter Try.func3, Try.ntmps3
      go_wp2_with fail
      refine (awake3 _).mono ?_
      rintro e w1 ⟨rfl, hb1⟩
      go_wp2_with fail
      refine (awake3 _).mono ?_
      rintro e w2 ⟨rfl, hb2⟩
      go_wp2
      go_ret
      exact ⟨rfl, hb1.trans (hb2.mono hb1.size)⟩
end Go.Proofs.Ytfpnmphmngdkdaa
