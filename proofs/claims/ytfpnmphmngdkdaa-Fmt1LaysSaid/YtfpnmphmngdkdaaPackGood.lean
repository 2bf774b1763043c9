/-
  What the two functions Good (of package pack, and of its reference) answer: contracts. No condition but the reach.
-/
import Derived.Test.YtfpnmphmngdkdaaPack
namespace Go.Proofs.Ytfpnmphmngdkdaa
open Go.ChangeShapes Go.WideShapes Go.ChangeAt Go.RowKit
set_option linter.unusedSimpArgs false
set_option linter.unusedVariables false

def okc (c : UInt8) : Bool := decide (33 ≤ c.toNat ∧ c.toNat ≤ 126 ∧ c.toNat ≠ 47)
def goodB (l : List UInt8) : Bool := l.all okc && decide (1 ≤ l.length ∧ l.length ≤ 7) && !(l == [46]) && !(l == [46, 46])

theorem getElem_data (s : ByteArray) (k : Nat) (h : k < s.size) : s.data.toList[k]'(by simpa using h) = s[k] := rfl

theorem good_bad (s : ByteArray) (k : Nat) (h : k < s.size) (hb : okc s[k] = false) : goodB s.data.toList = false := by
  have : s.data.toList.all okc = false := by
    rw [List.all_eq_false]
    exact ⟨s[k], by rw [← getElem_data s k h]; exact List.getElem_mem _, by simp [hb]⟩
  simp [goodB, this]

theorem good_all (s : ByteArray) (h : ∀ j (hj : j < s.size), j < s.size → okc s[j] = true) : s.data.toList.all okc = true := by
  rw [List.all_eq_true]
  intro x hx
  obtain ⟨j, hj, rfl⟩ := List.mem_iff_getElem.1 hx
  have hj' : j < s.size := by simpa using hj
  exact h j hj' hj'

theorem good_fin (s : ByteArray) (h : s.data.toList.all okc = true) : goodB s.data.toList = (decide (1 ≤ (s.size : Int)) && decide ((s.size : Int) ≤ 7) && !(s.toList == [46]) && !(s.toList == [46, 46])) := by
  have e : s.toList = s.data.toList := ByteArray.toList_eq s
  have e2 : s.data.toList.length = s.size := by simp
  unfold goodB
  rw [h, e, e2, Bool.true_and]
  congr 2
  rw [Bool.eq_iff_iff]
  simp
  omega

theorem all_step (s : ByteArray) (k : Nat) (h : k < s.size) (hA : ∀ j (hj : j < s.size), j < k → okc s[j] = true) (hk : okc s[k] = true) : ∀ j (hj : j < s.size), j < k + 1 → okc s[j] = true := by
  intro j hj hlt
  by_cases e : j = k
  · subst e; exact hk
  · exact hA j hj (by omega)

set_option maxHeartbeats 400000 in
theorem good_any (s : ByteArray) (hs : s.size ≤ maxLen) (w : World) :
    Calls Try.prog 127 #[.string s] w fun e w' => e = .returned (.bool (goodB s.data.toList)) ∧ w = w' := by
  unfold maxLen at hs
  go_enter Try.func127, Try.ntmps127
  go_wp2
  go_loopg [3, 6] s.size (fun g i c wr => ∃ k : Nat, k + g = s.size ∧ c = .int .i64 k ∧ w = wr ∧ Hid (∀ j (hj : j < s.size), j < k → okc s[j] = true))
  case atStart => exact ⟨0, by omega, rfl, rfl, by intro j hj h; omega⟩
  case round =>
    obtain ⟨k, hk, rfl, rfl, HA⟩ := hrel
    by_cases hlt : k < s.size
    · by_cases hb : okc s[k] = true
      · have HA2 := Lib.hid (all_step s k hlt HA.out hb)
        have hc : 33 ≤ s[k].toNat ∧ s[k].toNat ≤ 126 ∧ s[k].toNat ≠ 47 := by simpa [okc] using hb
        obtain ⟨h1, h2, h3⟩ := hc
        have h4 : ((s[k].toNat : Int) == 47) = false := by simp; omega
        clear hb h3
        go_wp2
        go_roundg (gk - 1)
        case measure => omega
        case rel => exact ⟨k + 1, by omega, by go_num, rfl, HA2⟩
      · have HB := Lib.hid (good_bad s k hlt (by simpa using hb))
        have hc : s[k].toNat < 33 ∨ (33 ≤ s[k].toNat ∧ 126 < s[k].toNat) ∨ (33 ≤ s[k].toNat ∧ s[k].toNat ≤ 126 ∧ s[k].toNat = 47) := by
          have : ¬ (33 ≤ s[k].toNat ∧ s[k].toNat ≤ 126 ∧ s[k].toNat ≠ 47) := by simpa [okc] using hb
          omega
        clear hb
        rcases hc with hc | ⟨hc, hd⟩ | ⟨hc, hd, he⟩
        · go_wp2
          go_ret
          rw [HB.out]
          exact ⟨rfl, rfl⟩
        · go_wp2
          go_ret
          rw [HB.out]
          exact ⟨rfl, rfl⟩
        · have h4 : ((s[k].toNat : Int) == 47) = true := by simp; omega
          clear he
          go_wp2
          go_ret
          rw [HB.out]
          exact ⟨rfl, rfl⟩
    · have hk0 : gk = 0 := by omega
      have HALL := Lib.hid (good_all s (fun j hj _ => HA.out j hj (by omega)))
      have HG := Lib.hid (good_fin s HALL.out)
      go_wp2
      all_goals
        go_ret
        refine ⟨?_, rfl⟩
        rw [HG.out]
        first
        | rfl
        | (simp [*]; done)
        | (simp [*]; omega)
theorem good_fin2 (s : ByteArray) (h : s.data.toList.all okc = true) : goodB s.data.toList = (decide (0 < (s.size : Int)) && decide ((s.size : Int) < 8) && !(s.toList == [46]) && !(s.toList == [46, 46])) := by
  rw [good_fin s h]
  congr 2
  rw [Bool.eq_iff_iff]
  simp
  omega

set_option maxHeartbeats 400000 in
set_option maxRecDepth 20000 in
theorem ref_good (s : ByteArray) (hs : s.size ≤ maxLen) (w : World) :
    Calls Try.prog 89 #[.string s] w fun e w' => e = .returned (.bool (goodB s.data.toList)) ∧ w = w' := by
  unfold maxLen at hs
  go_enter Try.func89, Try.ntmps89
  go_wp2
  go_loopg [3] s.size (fun g c wr => ∃ k : Nat, k + g = s.size ∧ c = .int .i64 k ∧ w = wr ∧ Hid (∀ j (hj : j < s.size), j < k → okc s[j] = true))
  case atStart => exact ⟨0, by omega, rfl, rfl, by intro j hj h; omega⟩
  case round =>
    obtain ⟨k, hk, rfl, rfl, HA⟩ := hrel
    by_cases hlt : k < s.size
    · by_cases hb : okc s[k] = true
      · have HA2 := Lib.hid (all_step s k hlt HA.out hb)
        have hc : 33 ≤ s[k].toNat ∧ s[k].toNat ≤ 126 ∧ s[k].toNat ≠ 47 := by simpa [okc] using hb
        obtain ⟨h1', h2', h3⟩ := hc
        have h1 : 32 < s[k].toNat := h1'
        have h2 : s[k].toNat < 127 := by omega
        have h4 : ((s[k].toNat : Int) == 47) = false := by simp; omega
        clear hb h3
        go_wp2
        go_roundg (gk - 1)
        case measure => omega
        case rel => exact ⟨k + 1, by omega, by go_num, rfl, HA2⟩
      · have HB := Lib.hid (good_bad s k hlt (by simpa using hb))
        have hc : s[k].toNat ≤ 32 ∨ (32 < s[k].toNat ∧ 127 ≤ s[k].toNat) ∨ (32 < s[k].toNat ∧ s[k].toNat < 127 ∧ s[k].toNat = 47) := by
          have : ¬ (33 ≤ s[k].toNat ∧ s[k].toNat ≤ 126 ∧ s[k].toNat ≠ 47) := by simpa [okc] using hb
          omega
        clear hb
        rcases hc with hc | ⟨hc, hd⟩ | ⟨hc, hd, he⟩
        · go_wp2
          go_ret
          rw [HB.out]
          exact ⟨rfl, rfl⟩
        · go_wp2
          go_ret
          rw [HB.out]
          exact ⟨rfl, rfl⟩
        · have h4 : ((s[k].toNat : Int) == 47) = true := by simp; omega
          clear he
          go_wp2
          go_ret
          rw [HB.out]
          exact ⟨rfl, rfl⟩
    · have hk0 : gk = 0 := by omega
      have HALL := Lib.hid (good_all s (fun j hj _ => HA.out j hj (by omega)))
      have HG := Lib.hid (good_fin2 s HALL.out)
      go_wp2
      all_goals
        go_ret
        refine ⟨?_, rfl⟩
        rw [HG.out]
        first
        | rfl
        | (simp [*]; done)
        | (simp [*]; omega)
end Go.Proofs.Ytfpnmphmngdkdaa
