/-
  A memory that may last, made: contracts. No condition but the bounds that are typed.
-/
import Derived.Test.YtfpnmphmngdkdaaPm5
namespace Go.Proofs.Ytfpnmphmngdkdaa
open Go.ChangeShapes Go.WideShapes Go.ChangeAt Go.RowKit
set_option linter.unusedSimpArgs false
set_option linter.unusedVariables false

theorem pm_made {w w1 : World} {v : Value} {xs : List Int} (hl : xs.length ≤ 10000) (hwf : ∀ z ∈ xs, 0 ≤ z ∧ z < 18446744073709551616) (hb : Below w.heap.size w w1) (ho : w1.ownsRow w.heap.size 41 1 v xs.length (u64s xs)) (w4 : World)
    (hw : w4 = ((w1.alloc (.map #[] 0)).alloc (.map #[] 0)).alloc (.cells #[v, .map (some w1.heap.size), .map (some (w1.heap.size + 1)), .int .i64 (-1), .int .i64 0, .bool false] 108)) :
    PmAt w4 (w1.heap.size + 2) (grow nob w w4) (Pm.new xs) ∧ Below w.heap.size w w4 := by
  have hs := hb.size
  have hz4 : w4.heap.size = w1.heap.size + 3 := by rw [hw]; simp
  have hn : (Pm.new xs).n = xs.length := by show min xs.length 10000 = _; omega
  have m1 : Mod nob w1 w4 := by rw [hw]; exact (((Mod.refl nob w1).alloc _).alloc _).alloc _
  have m2 : Mod nob (w1.alloc (.map #[] 0)) w4 := by rw [hw]; exact ((Mod.refl nob _).alloc _).alloc _
  have m3 : Mod nob ((w1.alloc (.map #[] 0)).alloc (.map #[] 0)) w4 := by rw [hw]; exact (Mod.refl nob _).alloc _
  have hsz : ((w1.alloc (.map #[] 0)).alloc (.map #[] 0)).heap.size = w1.heap.size + 2 := by simp
  have hsz1 : (w1.alloc (.map #[] 0)).heap.size = w1.heap.size + 1 := by simp
  have hbel : Below w.heap.size w w4 := hb.trans ((nob_mod_below m1).mono hs)
  refine ⟨⟨v, w1.heap.size, w1.heap.size + 1, ?_, ?_, ?_, ?_, Pm.Ok.new hwf, by omega, by omega, by omega, ?_, ?_, ?_, ?_, ?_, ?_⟩, hbel⟩
  · have := heap_alloc_new ((w1.alloc (.map #[] 0)).alloc (.map #[] 0)) (.cells #[v, .map (some w1.heap.size), .map (some (w1.heap.size + 1)), .int .i64 (-1), .int .i64 0, .bool false] 108)
    rw [hsz, ← hw] at this
    exact this
  · rw [hn]
    exact (NowR.of_own rfl ho).mod m1 (fun _ _ h => h)
  · exact (MapR.made w1 _).mod m2 (fun h => h)
  · have := (MapR.made (w1.alloc (.map #[] 0)) (Pm.new xs).n).mod m3 (fun h => h)
    rw [hsz1] at this
    exact this
  · intro g hg
    have a := own_ge ho g hg
    have b : g < w1.heap.size := by
      rcases ho.2 with ⟨rfl, _⟩ | ⟨g', cap, cur, rfl, hb, hgc, _⟩
      · cases hg
      · cases hg; exact lt_of_block hgc
    omega
  · exact .inr ⟨by omega, by omega⟩
  · exact .inr ⟨by omega, by omega⟩
  · exact .inr ⟨by omega, by omega⟩
  · intro g hg
    have a := own_ge ho g hg
    have b : g < w1.heap.size := by
      rcases ho.2 with ⟨rfl, _⟩ | ⟨g', cap, cur, rfl, hb, hgc, _⟩
      · cases hg
      · cases hg; exact lt_of_block hgc
    exact .inr ⟨by omega, by omega⟩
  · intro b hb
    rcases hb with hb | hb
    · exact hb.elim
    · exact hb.2

set_option maxRecDepth 20000 in
theorem pm_of {w : World} {v : Value} {xs : List Int} (hv : HoldsU w v xs) (hl : xs.length ≤ 10000) (hwf : ∀ z ∈ xs, 0 ≤ z ∧ z < 18446744073709551616) :
    Calls Try.prog 51 #[v] w fun e w' => ∃ p, e = .returned (.pointer (some ⟨p, 0, none⟩)) ∧ PmAt w' p (grow nob w w') (Pm.new xs) ∧ Below w.heap.size w w' := by
  have HV := Lib.hid hv
  have HWF := Lib.hid hwf
  clear hwf
  obtain ⟨ao, c, rfl, -, hlc, hcm, -⟩ := hv
  obtain ⟨n, hn⟩ : ∃ n, n = xs.length := ⟨_, rfl⟩
  rw [← hn] at hl hlc HV ⊢
  have HN := Lib.hid hn
  clear hn
  have hn1 : ¬ (10000 : Int) < (n : Int) := by omega
  unfold maxLen at hcm
  have hmm := @run_makeMap Try.prog
  go_enter Try.func51, Try.ntmps51
  go_wp2_with fail
  refine (clone_u64 HV.out (by rw [← HN.out]; omega)).mono ?_
  rintro e w1 ⟨v', rfl, ho1, hb1⟩
  rw [← HN.out] at ho1
  obtain ⟨ao', cap', rfl, -, -, -⟩ := own_shape ho1
  have HO := Lib.hid ho1
  have HB := Lib.hid hb1
  clear ho1 hb1
  go_wp2
  go_ret
  have ho := HO.out
  rw [HN.out] at ho
  obtain ⟨h1, h2⟩ := pm_made (by rw [← HN.out]; exact hl) HWF.out HB.out ho _ rfl
  rw [← HN.out] at h1 h2
  exact ⟨_, rfl, h1, h2⟩

theorem zeros_wf (n : Nat) : ∀ z ∈ List.replicate n (0 : Int), 0 ≤ z ∧ z < 18446744073709551616 := by
  intro z hz
  rw [List.eq_of_mem_replicate hz]
  omega

theorem made_holds {w1 : World} {base g n : Nat} (h : w1.ownsRow base 41 1 (.slice (some ⟨g, 0, none⟩) n n) n (madeCells (Value.int .u64 0).cells (n * 1)).toList) : HoldsU w1 (.slice (some ⟨g, 0, none⟩) n n) (List.replicate n 0) := by
  have hb := made_block h
  have hm : n ≤ maxLen := by
    rcases h.2 with ⟨hv, _⟩ | ⟨g', cap', cur, hv, _, hg, h1, h2, _⟩
    · cases hv
    · simp at hv; omega
  have e : u64s (List.replicate n 0) = zeroRow n := by unfold u64s zeroRow; simp
  refine ⟨some ⟨g, 0, none⟩, n, by simp, (by intro h; cases h), by simp, hm, fun ad ha j u hj => ?_⟩
  simp at ha
  subst ha
  have hadd : (⟨g, 0, none⟩ : Addr).add j = ⟨g, j, none⟩ := by unfold Addr.add; split <;> simp_all
  rw [hadd, cell_of_row _ _ _ _ _ _ hb]
  rw [e] at hj
  simpa using hj

set_option maxRecDepth 20000 in
theorem pm_new (n : Int) (w : World) :
    Calls Try.prog 16 #[.int .i64 n] w fun e w' => ∃ p, e = .returned (.pointer (some ⟨p, 0, none⟩)) ∧ PmAt w' p (grow nob w w') (Pm.new (List.replicate (min n.toNat 10000) 0)) ∧ Below w.heap.size w w' := by
  obtain ⟨i0, hi0, hz0, hz1, hz2⟩ := info_parts Try.infoU64
  obtain ⟨k, hk⟩ : ∃ k, k = min n.toNat 10000 := ⟨_, rfl⟩
  rw [← hk]
  have hk1 : k ≤ 10000 := by omega
  rcases (show (n < 0 ∧ k = 0) ∨ (0 ≤ n ∧ n ≤ 10000 ∧ (k : Int) = n) ∨ (10000 < n ∧ k = 10000) by omega) with ⟨h0, rfl⟩ | ⟨h0, h1, h2⟩ | ⟨h0, rfl⟩
  · clear hk
    go_enter Try.func16, Try.ntmps16
    go_wp2_with (at_make; refine wpList_make_full _ rfl _ _ 53 rfl w.heap.size 41 i0 (.int .u64 0) 1 Try.underlying53 hi0 hz0 hz1 .i64 .i64 0 0 0 rfl rfl rfl rfl (by rw [hz2]; omega) (by unfold maxLen; omega) (Nat.le_refl _) ?_)
    intro w1 hown1 hgr1
    have hb1 : Below w.heap.size w w1 := (Below.refl _ _).grown hgr1 (Nat.le_refl _) (by intro k hk; cases hk)
    have HH := Lib.hid (made_holds hown1)
    have HB := Lib.hid hb1
    clear hown1 hgr1 hb1
    go_wp2_with fail
    refine (pm_of HH.out (by simp) (zeros_wf _)).mono ?_
    rintro e w2 ⟨p, rfl, h5, hb5⟩
    have H5 : Hid (PmAt w2 p (grow nob w w2) (Pm.new (List.replicate 0 0))) := h5.mono (fun b hb => by rcases hb with hb | hb; exact hb.elim; exact .inr ⟨by have := HB.out.size; omega, hb.2⟩) (fun b hb => by rcases hb with hb | hb; exact hb.elim; exact hb.2)
    have HB5 : Hid (Below w.heap.size w w2) := HB.out.trans (hb5.mono HB.out.size)
    clear h5 hb5
    go_wp2
    go_ret
    exact ⟨p, rfl, H5.out, HB5.out⟩
  · have HK := Lib.hid h2
    clear hk
    subst h2
    go_enter Try.func16, Try.ntmps16
    go_wp2_with (at_make; refine wpList_make_full _ rfl _ _ 53 rfl w.heap.size 41 i0 (.int .u64 0) 1 Try.underlying53 hi0 hz0 hz1 .i64 .i64 k k k rfl rfl rfl rfl (by rw [hz2]; omega) (by unfold maxLen; omega) (Nat.le_refl _) ?_)
    intro w1 hown1 hgr1
    have hb1 : Below w.heap.size w w1 := (Below.refl _ _).grown hgr1 (Nat.le_refl _) (by intro k hk; cases hk)
    have HH := Lib.hid (made_holds (n := k) (by rw [Nat.mul_one]; exact hown1))
    have HB := Lib.hid hb1
    clear hown1 hgr1 hb1
    go_wp2_with fail
    refine (pm_of HH.out (by simpa using hk1) (zeros_wf _)).mono ?_
    rintro e w2 ⟨p, rfl, h5, hb5⟩
    have H5 : Hid (PmAt w2 p (grow nob w w2) (Pm.new (List.replicate k 0))) := h5.mono (fun b hb => by rcases hb with hb | hb; exact hb.elim; exact .inr ⟨by have := HB.out.size; omega, hb.2⟩) (fun b hb => by rcases hb with hb | hb; exact hb.elim; exact hb.2)
    have HB5 : Hid (Below w.heap.size w w2) := HB.out.trans (hb5.mono HB.out.size)
    clear h5 hb5
    go_wp2
    go_ret
    exact ⟨p, rfl, H5.out, HB5.out⟩
  · clear hk
    go_enter Try.func16, Try.ntmps16
    go_wp2_with (at_make; refine wpList_make_full _ rfl _ _ 53 rfl w.heap.size 41 i0 (.int .u64 0) 1 Try.underlying53 hi0 hz0 hz1 .i64 .i64 10000 10000 10000 rfl rfl rfl rfl (by rw [hz2]; omega) (by unfold maxLen; omega) (Nat.le_refl _) ?_)
    intro w1 hown1 hgr1
    have hb1 : Below w.heap.size w w1 := (Below.refl _ _).grown hgr1 (Nat.le_refl _) (by intro k hk; cases hk)
    have HH := Lib.hid (made_holds hown1)
    have HB := Lib.hid hb1
    clear hown1 hgr1 hb1
    go_wp2_with fail
    refine (pm_of HH.out (by rw [List.length_replicate]; exact Nat.le_refl _) (zeros_wf _)).mono ?_
    rintro e w2 ⟨p, rfl, h5, hb5⟩
    have H5 : Hid (PmAt w2 p (grow nob w w2) (Pm.new (List.replicate 10000 0))) := h5.mono (fun b hb => by rcases hb with hb | hb; exact hb.elim; exact .inr ⟨by have := HB.out.size; omega, hb.2⟩) (fun b hb => by rcases hb with hb | hb; exact hb.elim; exact hb.2)
    have HB5 : Hid (Below w.heap.size w w2) := HB.out.trans (hb5.mono HB.out.size)
    clear h5 hb5
    go_wp2
    go_ret
    exact ⟨p, rfl, H5.out, HB5.out⟩
end Go.Proofs.Ytfpnmphmngdkdaa
