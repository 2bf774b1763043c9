import Derived.Test.YtcbcemeagiociaaBack
namespace Go.Proofs.Ytcbcemeagiociaa
open Go.ChangeShapes Go.WideShapes Go.ChangeAt Go.RowKit
set_option linter.unusedSimpArgs false
set_option linter.unusedVariables false

/-- What a slice value of pairs holds, in whatever block. -/
def HoldsP (w : World) (v : Value) (ps : List (Int × Int)) : Prop :=
  ∃ ao c, v = .slice ao ps.length c ∧ ∀ j, j < ps.length → ∃ g, ao = some ⟨g, 0, none⟩ ∧ w.cell? ⟨g, j * 2, none⟩ = some (.int .i64 (ps.getD j (0, 0)).1) ∧ w.cell? ⟨g, j * 2 + 1, none⟩ = some (.int .u64 (ps.getD j (0, 0)).2)

/-- The reference's answer, over the last puts. -/
def refWord (ws : List Int) (i : Int) : Int := if i < 0 ∨ (ws.length : Int) ≤ i ∨ 3128 ≤ i then 0 else ws.getD i.toNat 0
def refFrom (ws : List Int) (ps : List (Int × Int)) (i : Int) : Nat → Int
  | 0 => refWord ws i
  | k + 1 => if (ps.getD k (0, 0)).1 = i then (ps.getD k (0, 0)).2 else refFrom ws ps i k

set_option maxRecDepth 20000 in
set_option maxHeartbeats 1000000 in
theorem ref4_get0 {w : World} {v pv : Value} {ws : List Int} {ps : List (Int × Int)} (nn : Nat) (hn : nn = ws.length) (hv : HoldsU w v ws) (mm : Nat) (hm : mm = ps.length) (hp : HoldsP w pv ps) (hlen : mm < 1099511627776) (i : Int) :
    Calls Try.prog 32 #[v, pv, .int .i64 i] w fun e w' => e = .returned (.int .u64 (refFrom ws ps i mm)) ∧ w = w' := by
  obtain ⟨ao, c, rfl, hao, hlc, hcm, hcells⟩ := hv
  obtain ⟨po, pc, rfl, hpc⟩ := hp
  rw [← hn] at hlc
  rw [← hn, ← hm]
  rw [← hm] at hpc
  have HC := Lib.hid hcells
  have HP := Lib.hid hpc
  have HN := Lib.hid hn
  have HM := Lib.hid hm
  unfold maxLen at hcm
  have HAO := Lib.hid hao
  clear hcells hpc hao hn hm
  go_enter Try.func32, Try.ntmps32
  go_wp2
  go_loopg [7] mm (fun g k wr => ∃ j : Nat, j = g ∧ k = .int .i64 ((j : Int) - 1) ∧ j ≤ mm ∧ Hid (refFrom ws ps i j = refFrom ws ps i mm) ∧ w = wr)
  case atStart => exact ⟨mm, rfl, rfl, by omega, rfl, rfl⟩
  case round =>
    obtain ⟨j, rfl, rfl, hj, HR, rfl⟩ := hrel
    by_cases h0 : j = 0
    · subst h0
      have HR0 : Hid (refWord ws i = refFrom ws ps i mm) := HR.out
      by_cases hi : 0 ≤ i ∧ i < (nn : Int) ∧ i < 3128
      · obtain ⟨hi0, hi1, hi2⟩ := hi
        obtain ⟨n, rfl⟩ := Int.eq_ofNat_of_zero_le hi0
        have hnl : n < ws.length := by have := HN.out; omega
        cases ao with
        | none => have := HAO.out rfl; omega
        | some ad =>
          have hc := HC.out ad rfl n (.int .u64 (ws.getD n 0)) (by simp [u64s, List.getD_eq_getElem?_getD, hnl])
          have hrw : refWord ws (n : Int) = ws.getD n 0 := by
            unfold refWord
            rw [if_neg (by omega)]
            rfl
          rw [hrw] at HR0
          generalize ws.getD n 0 = x at hc HR0
          obtain ⟨g, o, kk⟩ := ad
          clear hrw hnl
          go_wp2
          go_ret
          rw [← HR0.out]
          exact ⟨rfl, rfl⟩
      · have hrw : refWord ws i = 0 := by
          unfold refWord
          rw [if_pos (by have := HN.out; omega)]
        rw [hrw] at HR0
        rcases (show i < 0 ∨ (0 ≤ i ∧ (nn : Int) ≤ i) ∨ (0 ≤ i ∧ i < nn ∧ 3128 ≤ i) by omega) with hi' | ⟨hi', hi''⟩ | ⟨hi', hi'', hi3⟩
        all_goals
          clear hrw hi
          go_wp2
          go_ret
          rw [← HR0.out]
          exact ⟨rfl, rfl⟩
    · obtain ⟨n, rfl⟩ : ∃ n, j = n + 1 := ⟨j - 1, by omega⟩
      obtain ⟨g, rfl, hc1, hc2⟩ := HP.out n (by omega)
      have HST : Hid ((if (ps.getD n (0, 0)).1 = i then (ps.getD n (0, 0)).2 else refFrom ws ps i n) = refFrom ws ps i mm) := HR.out
      generalize (ps.getD n (0, 0)).1 = x at hc1 HST
      generalize (ps.getD n (0, 0)).2 = y at hc2 HST
      by_cases hx : x = i
      · have hxb : (x == i) = true := by simpa using hx
        rw [if_pos hx] at HST
        go_wp2
        go_ret
        rw [← HST.out]
        exact ⟨rfl, rfl⟩
      · have hxb : (x == i) = false := by simpa using hx
        rw [if_neg hx] at HST
        have HX := Lib.hid hx
        clear hx
        go_wp2
        go_roundg (n)
        case measure => omega
        case rel => exact ⟨n, rfl, (by simp), by omega, HST, rfl⟩

theorem ref4_get {w : World} {v pv : Value} {ws : List Int} {ps : List (Int × Int)} (hv : HoldsU w v ws) (hp : HoldsP w pv ps) (hlen : ps.length < 1099511627776) (i : Int) :
    Calls Try.prog 32 #[v, pv, .int .i64 i] w fun e w' => e = .returned (.int .u64 (refFrom ws ps i ps.length)) ∧ w = w' :=
  ref4_get0 ws.length rfl hv ps.length rfl hp hlen i
end Go.Proofs.Ytcbcemeagiociaa
