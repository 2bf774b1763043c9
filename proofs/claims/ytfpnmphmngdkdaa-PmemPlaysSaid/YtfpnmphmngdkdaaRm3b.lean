/-
  The document's memory (imagoref01): a new one, of words: a contract. No condition but the bounds that are typed.
-/
import Derived.Test.YtfpnmphmngdkdaaRm3
namespace Go.Proofs.Ytfpnmphmngdkdaa
open Go.ChangeShapes Go.WideShapes Go.ChangeAt Go.RowKit
set_option linter.unusedSimpArgs false
set_option linter.unusedVariables false
attribute [local go_sem ↓] Go.wp_at_zero Go.wp_at_succ

set_option maxRecDepth 20000 in
set_option maxHeartbeats 40000000 in
theorem rm_new_some {w : World} {v : Value} {xs : List Int} (hv : HoldsU w v xs) (hl : xs.length ≤ 10000) (h0 : 0 < xs.length) (hwf : ∀ z ∈ xs, 0 ≤ z ∧ z < 18446744073709551616) :
    Calls Try.prog 52 #[v] w fun e w' => ∃ p, e = .returned (.pointer (some ⟨p, 0, none⟩)) ∧ RmAt w' p (grow nob w w') (Rm.new xs) ∧ Below w.heap.size w w' := by
  obtain ⟨i0, hi0, hz0, hz1, hz2⟩ := info_parts Try.infoU64
  have HV := Lib.hid hv
  have HWF := Lib.hid hwf
  obtain ⟨n, hn⟩ : ∃ n, n = xs.length := ⟨_, rfl⟩
  obtain ⟨ao, c, rfl, hao, hlc, hcm, hcells⟩ := hv
  rw [← hn] at HV hl hlc h0 ⊢
  have HN := Lib.hid hn
  have HAO := Lib.hid hao
  have hmk := run_make_row' (P := Try.prog) 59 4 (.bool false) 1 Try.underlying59 Try.infoBool rfl .i64 .i64 n (by omega) (by omega)
  clear hwf hn hcells hao hcm
  have HLU : Hid ((u64s xs).length = n * 1) := by unfold Hid u64s; rw [List.length_map, HN.out]; omega
  have HON : Hid (∀ u ∈ u64s xs, u.oneCell' = true) := ints_oneCell _ _
  cases ao with
  | none => have := HAO.out rfl; omega
  | some ad =>
    have HC : Hid (∀ wc, Bel w wc → ∀ j u, (u64s xs)[j]? = some u → wc.cell? (ad.add j) = some u) := by
      intro wc hb
      obtain ⟨ao', c', e, _, _, _, h⟩ := HV.out.bel hb
      simp only [Value.slice.injEq] at e
      obtain ⟨rfl, _, rfl⟩ := e
      exact h ad rfl
    clear hlc
    go_enter Try.func52, Try.ntmps52
    go_wp2_with fail
    go_region_law (first
      | (refine step_append_grows (o := ⟨some 5, _, _, _, _, _⟩) rfl (.tmp 3) (.tmp 4) 53 rfl 41 i0 (.int .u64 0) 1 8 Try.underlying53 hi0 hz0 hz1 hz2 rfl (by decide) _ 0 0 [] (by rfl) (fun h => by cases h) rfl (fun _ _ j u hj => by cases hj) ad n c (u64s xs) (by rfl) HLU.out (HC.out _ (by repeat (first | with_reducible exact Bel.rfl' _ | with_reducible refine Bel.al ?_ _ | with_reducible refine Bel.dr ?_ | with_reducible refine Bel.via hb8 ?_))) HON.out (by omega) (by unfold maxLen; omega) (by omega) ?_; intro v5 w5 ho5 hg5; have hb5 := bel_grown hg5; simp only [Nat.zero_add, List.nil_append] at ho5; obtain ⟨g5, c5, rfl, hl5, hm5, -, -⟩ := own_some ho5 (by omega); have hN5 := Lib.hid (NowR.of_own HN.out ho5); clear ho5 hg5)
      | (refine step_append_grows (o := ⟨some 8, _, _, _, _, _⟩) rfl (.tmp 6) (.tmp 7) 53 rfl 41 i0 (.int .u64 0) 1 8 Try.underlying53 hi0 hz0 hz1 hz2 rfl (by decide) _ 0 0 [] (by rfl) (fun h => by cases h) rfl (fun _ _ j u hj => by cases hj) ad n c (u64s xs) (by rfl) HLU.out (HC.out _ (by repeat (first | with_reducible exact Bel.rfl' _ | with_reducible refine Bel.al ?_ _ | with_reducible refine Bel.dr ?_ | with_reducible refine Bel.via hb5 ?_))) HON.out (by omega) (by unfold maxLen; omega) (by omega) ?_; intro v8 w8 ho8 hg8; have hb8 := bel_grown hg8; simp only [Nat.zero_add, List.nil_append] at ho8; obtain ⟨g8, c8, rfl, hl8, hm8, -, -⟩ := own_some ho8 (by omega); have hN8 := Lib.hid (NowR.of_own HN.out ho8); clear ho8 hg8))
    all_goals
      go_wp2_with fail
      go_ret
      go_simp
      have s5 := Below.size hb5
      have s8 := Below.size hb8
      simp only [size_al, size_dr] at s5 s8 hl5 hl8
      refine rm_made HN.out hl HWF.out ?_ ?_ ?_ ?_ ?_ ?_ ?_ ?_ ?_ ?_ ?_
      · repeat (first | with_reducible exact hN5.out | with_reducible refine NowR.al ?_ _ | with_reducible refine NowR.bel ?_ hb8)
      · repeat (first | with_reducible exact hN8.out | with_reducible refine NowR.al ?_ _ | with_reducible refine NowR.bel ?_ hb5)
      · repeat (first | ((with_reducible refine FlR.new _ _ _ ?_ hl); (simp only [size_al, size_dr]; done)) | with_reducible refine FlR.al ?_ _ | with_reducible refine FlR.dr ?_ | with_reducible refine FlR.bel ?_ hb5 | with_reducible refine FlR.bel ?_ hb8)
      · (try simp only [size_al, size_dr]); omega
      · (try simp only [size_al, size_dr]); omega
      · (try simp only [size_al, size_dr]); omega
      · omega
      · omega
      · omega
      · repeat (first | with_reducible exact Bel.rfl' _ | with_reducible refine Bel.al ?_ _ | with_reducible refine Bel.dr ?_ | with_reducible refine Bel.via hb5 ?_ | with_reducible refine Bel.via hb8 ?_)
      · first | rfl | simp only [size_al, size_dr]

theorem rm_new {w : World} {v : Value} {xs : List Int} (hv : HoldsU w v xs) (hl : xs.length ≤ 10000) (hwf : ∀ z ∈ xs, 0 ≤ z ∧ z < 18446744073709551616) :
    Calls Try.prog 52 #[v] w fun e w' => ∃ p, e = .returned (.pointer (some ⟨p, 0, none⟩)) ∧ RmAt w' p (grow nob w w') (Rm.new xs) ∧ Below w.heap.size w w' := by
  rcases Nat.eq_zero_or_pos xs.length with h0 | h0
  · exact rm_new_none hv hl h0 hwf
  · exact rm_new_some hv hl h0 hwf
end Go.Proofs.Ytfpnmphmngdkdaa
