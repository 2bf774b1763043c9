/-
  imagolaw07.awake: a contract; how many words a sheet keeps that an inode was laid in. No condition.
-/
import Derived.Test.YtfpnmphmngdkdaaQRunsM
import Derived.Test.YtfpnmphmngdkdaaQLayTwo
import Derived.Test.YtfpnmphmngdkdaaQLayGet

namespace Go.Proofs.Ytfpnmphmngdkdaa
open Go.ChangeShapes Go.WideShapes Go.ChangeAt Go.RowKit
set_option linter.unusedSimpArgs false
set_option linter.unusedVariables false

theorem awake7 (w : World) : Calls Try.prog 37 #[] w fun e w' => e = .returned (.bool true) ∧ Below w.heap.size w w' := by
  have hr : RunsM.runs [9, 10, 11, 0, 0, 0, 0, 0, 0, 0, 0, 0, 0] = [2307] := by decide
  go_enter Try.func37, Try.ntmps37
  go_wp2_with fail
  refine (fmt2_runs [9, 10, 11, 0, 0, 0, 0, 0, 0, 0, 0, 0, 0] rfl _).mono ?_
  rintro e w1 ⟨v, rfl, ho, hb⟩
  rw [hr] at ho
  obtain ⟨g, cap, rfl, hg⟩ := own_some ho (by decide)
  have hc : w1.cell? ⟨g, 0, none⟩ = some (.int .u64 2307) := ho.cellAt 0 (by decide)
  clear ho
  go_wp2
  go_ret
  exact ⟨rfl, hb⟩

theorem put2S_was (S : Sh) (at_ : Int) {n : Ino} (hr : RightP n) (own : List Nat) (ho : own.length ≤ 40) : (put2S S at_ n own).was.length ≤ S.was.length + 400 := by
  have h1 := Sh.put_was_le S at_ (tagW n)
  have h2 := Sh.put_was_le (S.put at_ (tagW n)) (at_ + 1) n.size
  unfold put2S
  split
  · unfold file2S
    have h3 := putN_was (if own = [] then ((S.put at_ (tagW n)).put (at_ + 1) n.size) else putN ((S.put at_ (tagW n)).put (at_ + 1) n.size) (1080 + ((own.getD 0 0 : Nat) : Int) * 8) (fun k => (RunsM.runs n.bl).getD (5 + k) 0) 8) (at_ + 2) (w6f (RunsM.runs n.bl) own) 6
    have h4 := putN_was ((S.put at_ (tagW n)).put (at_ + 1) n.size) (1080 + ((own.getD 0 0 : Nat) : Int) * 8) (fun k => (RunsM.runs n.bl).getD (5 + k) 0) 8
    split at h3 <;> rename_i hn
    · rw [if_pos hn]; omega
    · rw [if_neg hn]; omega
  · unfold dir2S
    have h3 := putN_was (dir2To ((S.put at_ (tagW n)).put (at_ + 1) n.size) at_ n.ents own 4) (at_ + 6) (fun _ => 0) 2
    have h4 := dir2To_was ((S.put at_ (tagW n)).put (at_ + 1) n.size) at_ n.ents own hr.ents ho 4
    omega

theorem lay2T_was (S : Sh) (i : Int) (n : Ino) : (lay2T S i n).was.length ≤ S.was.length + 3000 := by
  unfold lay2T
  by_cases hb : LayBad2 i n
  · rw [if_pos hb]; omega
  · rw [if_neg hb]
    obtain ⟨-, hr, -⟩ := LayBad2.not hb
    split
    · rename_i hfr
      have hnd := need2_le hr
      have hlaw := takeFrom_law 255 S 1 (need2 n) (Nat.le_refl _) (by omega) (by rw [← freeN_from]; exact hfr)
      unfold lay2S
      have h1 := put2S_was (takeFrom 255 S 1 (need2 n)).1 (824 + i * 8) hr (takeFrom 255 S 1 (need2 n)).2 (by rw [hlaw.1]; exact hnd)
      have h2 := hlaw.2.2.2.2.2
      omega
    · omega
end Go.Proofs.Ytfpnmphmngdkdaa
