/-
  The law InodeTurns: what stands behind each put: plain lemmas. Nothing is assumed.
-/
import Derived.Test.YtlopdbhjdijlmaaQNew8
import Derived.Test.YtlopdbhjdijlmaaQMisc8
import Derived.Test.YtlopdbhjdijlmaaQLayGet
import Derived.Test.YtlopdbhjdijlmaaQFew6
import Derived.Test.YtlopdbhjdijlmaaQRefRight

namespace Go.Proofs.Ytlopdbhjdijlmaa
open Go.ChangeShapes Go.WideShapes Go.ChangeAt Go.RowKit
set_option linter.unusedSimpArgs false
set_option linter.unusedVariables false

/-- An inode that lies there, apart from some blocks. -/
structure Keep (w : World) (D : Nat → Prop) (B : Nat) (n : Ino) (ev : Value) : Prop where
  ino : InoB w B n ev
  ents : HoldsE w ev n.ents
  nb : ¬ D B
  ne : n.ents ≠ [] → ∀ g, ev.ownBlock = some g → ¬ D g
theorem Keep.still {w w' : World} {D : Nat → Prop} {B : Nat} {n : Ino} {ev : Value} (h : Keep w D B n ev) (hm : Mod nob w w') : Keep w' D B n ev :=
  ⟨h.ino.mod hm (fun h => h), h.ents.mod hm (fun _ _ _ h => h), h.nb, h.ne⟩
theorem Keep.put {w w' : World} {D : Nat → Prop} {B : Nat} {n : Ino} {ev : Value} (h : Keep w D B n ev) (hm : Mod D w w') : Keep w' (grow D w w') B n ev := by
  refine ⟨h.ino.mod hm h.nb, h.ents.mod hm h.ne, fun hd => ?_, fun h0 g hg hd => ?_⟩
  · rcases hd with hd | hd
    · exact h.nb hd
    · have := h.ino.lt; omega
  · rcases hd with hd | hd
    · exact h.ne h0 g hg hd
    · have := h.ents.lt h0 g hg; omega
theorem Keep.range {w : World} {D : Nat → Prop} {B : Nat} {n : Ino} {ev : Value} (h : Keep w D B n ev) : w.rangeAt B 0 (inoL n ev) := h.ino.at.range h.ino.2
theorem InoB.setFmt {w : World} {B : Nat} {n : Ino} {ev : Value} (h : InoB w B n ev) (f : Int) : InoB (w.setCell ⟨B, 0, none⟩ (.int .i64 f)) B { n with format := f } ev := by
  refine ⟨?_, h.2⟩
  rw [heap_setCell_same _ _ _ _ _ _ h.1]
  congr 2

theorem freeTo_set_ge (S : Sh) (b : Nat) (hb : b < 256) : ∀ k, k ≤ 256 → freeTo S k ≤ freeTo (setB S b true) k + if b < k then 1 else 0 := by
  intro k
  induction k with
  | zero => intro _; simp [freeTo]
  | succ k ih =>
    intro hk
    have hs : freeTo (setB S b true) (k + 1) = freeTo (setB S b true) k + if 1 ≤ k ∧ bitB (setB S b true) k = false then 1 else 0 := rfl
    have hs2 : freeTo S (k + 1) = freeTo S k + if 1 ≤ k ∧ bitB S k = false then 1 else 0 := rfl
    have hi := ih (by omega)
    have hbit := bit_setB (S := S) b hb true k (by omega)
    by_cases e : k = b
    · subst e
      rw [if_neg (by omega)] at hi
      rw [hs, hs2, if_pos (show k < k + 1 by omega)]
      split <;> split <;> omega
    · rw [if_neg (fun h => e h.1)] at hbit
      rw [hs, hs2, hbit]
      by_cases h2 : b < k
      · rw [if_pos h2] at hi
        rw [if_pos (show b < k + 1 by omega)]
        omega
      · rw [if_neg h2] at hi
        rw [if_neg (show ¬ b < k + 1 by omega)]
        omega
theorem setI_free (S : Sh) (x : Int) : freeN S ≤ freeN (setI S x true) + 1 := by
  unfold setI
  split
  · have := freeTo_set_ge S x.toNat (by omega) 256 (Nat.le_refl _)
    rw [if_pos (by omega)] at this
    exact this
  · omega
theorem setI_get (S : Sh) (x : Int) (u : Bool) (j : Int) (hj : 820 ≤ j) : (setI S x u).get j = S.get j := by
  unfold setI
  split
  · by_cases h : j < 3128
    · have e : j = ((j.toNat : Nat) : Int) := by omega
      rw [e, get_natx _ _ (by omega), get_natx _ _ (by omega), now_setB S x.toNat (by omega) u j.toNat (.inr (by omega))]
    · unfold Sh.get
      rw [if_neg (by omega), if_neg (by omega)]
  · rfl
/-- The bits of so many numbers set. -/
def setTo (S : Sh) (l : List Int) : Nat → Sh
  | 0 => S
  | k + 1 => setI (setTo S l k) (l.getD k 0) true
theorem setTo_was (S : Sh) (l : List Int) (k : Nat) : (setTo S l k).was.length ≤ S.was.length + k := by
  induction k with
  | zero => exact Nat.le_refl _
  | succ k ih => have := setI_was (setTo S l k) (l.getD k 0) true; simp only [setTo]; omega
theorem setTo_free (S : Sh) (l : List Int) (k : Nat) : freeN S ≤ freeN (setTo S l k) + k := by
  induction k with
  | zero => simp [setTo]
  | succ k ih => have := setI_free (setTo S l k) (l.getD k 0); simp only [setTo]; omega
theorem setTo_get (S : Sh) (l : List Int) (j : Int) (hj : 820 ≤ j) (k : Nat) : (setTo S l k).get j = S.get j := by
  induction k with
  | zero => rfl
  | succ k ih => simp only [setTo]; rw [setI_get _ _ _ j hj]; exact ih
theorem new_free : freeN (Sh.new []) = 255 := by
  rw [freeN_from]
  refine freeFrom_all _ _ _ (fun c h1 h2 => ?_)
  have h := new_nil_get ((816 + c / 64 : Nat) : Int)
  rw [get_natx _ _ (by omega)] at h
  unfold bitB
  rw [h]
  simp

theorem put2S_was' (S : Sh) (at_ : Int) {n : Ino} (hr : RightP n) (own : List Nat) (ho : own.length ≤ 40) : (put2S S at_ n own).was.length ≤ S.was.length + 400 := by
  have h1 := Sh.put_was_le S at_ (tagW n)
  have h2 := Sh.put_was_le (S.put at_ (tagW n)) (at_ + 1) n.size
  unfold put2S
  split
  · unfold file2S
    have h3 := putN_was (if own = [] then ((S.put at_ (tagW n)).put (at_ + 1) n.size) else putN ((S.put at_ (tagW n)).put (at_ + 1) n.size) (1080 + ((own.getD 0 0 : Nat) : Int) * 8) (fun k => (RunsM.runs n.bl).getD (5 + k) 0) 8) (at_ + 2) (w6f (RunsM.runs n.bl) own) 6
    have h4 := putN_was ((S.put at_ (tagW n)).put (at_ + 1) n.size) (1080 + ((own.getD 0 0 : Nat) : Int) * 8) (fun k => (RunsM.runs n.bl).getD (5 + k) 0) 8
    split at h3 <;> rename_i hn
    · rw [if_pos hn]; omega
    · rw [if_neg hn]; omega
  · unfold dir2S
    have h3 := putN_was (dir2To ((S.put at_ (tagW n)).put (at_ + 1) n.size) at_ n.ents own 4) (at_ + 6) (fun _ => 0) 2
    have h4 := dir2To_was ((S.put at_ (tagW n)).put (at_ + 1) n.size) at_ n.ents own hr.ents ho 4
    omega

theorem giveS_ok {S : Sh} (hS : S.Ok) : ∀ (l : List Nat), (∀ b ∈ l, b < 256) → (giveS S l).Ok := by
  intro l
  induction l generalizing S with
  | nil => intro _; exact hS
  | cons b l ih => intro h; exact ih (setB_ok hS b false) (fun c hc => h c (by simp [hc]))
theorem lay2S_was (S : Sh) (i : Int) (n : Ino) (hr : RightP n) (hf : need2 n ≤ freeN S) : (lay2S S i n).was.length ≤ S.was.length + 3000 := by
  have hnd := need2_le hr
  have h := tookN S (need2 n) hf
  have h1 := put2S_was' (takeFrom 255 S 1 (need2 n)).1 (824 + i * 8) hr (takeFrom 255 S 1 (need2 n)).2 (by rw [h.len]; exact hnd)
  have h2 := h.was
  unfold lay2S
  omega
theorem putI_was {S : Sh} (hS : S.Ok) {i : Int} {n : Ino} (hn : n.Ok) : (putI S i n).2.was.length ≤ S.was.length + 3100 := by
  unfold putI
  split
  · dsimp only; omega
  · rename_i hi
    split
    · dsimp only; omega
    · rename_i hr
      have hr' : RightP n := Classical.not_not.1 hr
      split
      · dsimp only; omega
      · split
        · rename_i hfr
          have h1 := giveS_was (ownI S i) S
          have h2 := (ownI_law hS i).2
          dsimp only
          unfold layI
          unfold needI at hfr
          split
          · rename_i hf
            rw [if_pos hf] at hfr
            have := lay2S_was (giveS S (ownI S i)) i n hr' hfr
            omega
          · rename_i hf
            rw [if_neg hf] at hfr
            have := lay1S_ok (giveS S (ownI S i)) (giveS_ok hS (ownI S i) (ownI_law hS i).1) i (by omega) n hr' hn.len hfr
            omega
        · dsimp only; omega

/-- The inode in the other format. -/
def turnN (n : Ino) : Ino := { n with format := 3 - n.format }
theorem turnN_right {n : Ino} (h : RightP n) : RightP (turnN n) := by
  obtain ⟨h1, h2, h3, h4⟩ := h
  refine ⟨?_, h2, h3, ?_⟩
  · show 3 - n.format = 1 ∨ 3 - n.format = 2
    omega
  · rcases h4 with ⟨hk, h5⟩ | ⟨hk, h5⟩
    · exact .inl ⟨hk, h5⟩
    · exact .inr ⟨hk, h5⟩
theorem turnN_ok {n : Ino} (h : n.Ok) (hr : RightP n) : (turnN n).Ok := by
  obtain ⟨h1, h2, h3, h4, h5, h6, h7⟩ := h
  refine ⟨?_, h2, h3, h4, h5, h6, h7⟩
  have := hr.1
  show i64 (3 - n.format)
  unfold i64
  omega

/-- All three puts. -/
structure Turns (S : Sh) (i : Int) (n : Ino) (T1 T2 T3 : Sh) (xs1 xs2 xs3 : List Nat) : Prop where
  e1 : putI S i n = (0, T1)
  e2 : putI T1 i (turnN n) = (0, T2)
  e3 : putI T2 i n = (0, T3)
  i1 : InI T1 i n xs1
  i2 : InI T2 i (turnN n) xs2
  i3 : InI T3 i n xs3
  fr : freeN T3 = freeN T1
  w1 : T1.was.length ≤ S.was.length + 3100
  w2 : T2.was.length ≤ S.was.length + 6200
theorem turns_law {S : Sh} (hS : S.Ok) {i : Int} (hi : 0 ≤ i ∧ i < 32) {n : Ino} (hn : n.Ok) (hr : RightP n) (hz : ∀ j : Int, 824 + i * 8 ≤ j → j < 832 + i * 8 → S.get j = 0) (hf : 40 ≤ freeN S) (hok : ∀ T : Sh, T = (putI S i n).2 → T.Ok) :
    ∃ T1 T2 T3 xs1 xs2 xs3, Turns S i n T1 T2 T3 xs1 xs2 xs3 := by
  obtain ⟨-, he, ho⟩ := get_free hi hz
  have hfr0 : freeN (giveS S (ownI S i)) = freeN S := by rw [ho]; rfl
  have l1 := needI_le hr
  have l2 := needI_le (turnN_right hr)
  obtain ⟨a1, xs1, b1, c1⟩ := put_in hi hn hr (by rw [he]; decide) (by rw [hfr0]; omega)
  rw [hfr0] at c1
  have hw1 := putI_was hS (i := i) hn
  have hk1 := hok _ rfl
  generalize hP1 : putI S i n = P1 at *
  obtain ⟨q1, T1⟩ := P1
  dsimp only at a1 b1 c1 hw1 hk1
  subst a1
  obtain ⟨a2, xs2, b2, c2⟩ := put_in (S := T1) hi (turnN_ok hn hr) (turnN_right hr) (by rw [b1.err]; decide) (by rw [b1.free]; omega)
  rw [b1.free] at c2
  have hw2 := putI_was hk1 (i := i) (turnN_ok hn hr)
  generalize hP2 : putI T1 i (turnN n) = P2 at *
  obtain ⟨q2, T2⟩ := P2
  dsimp only at a2 b2 c2 hw2
  subst a2
  obtain ⟨a3, xs3, b3, c3⟩ := put_in (S := T2) hi hn hr (by rw [b2.err]; decide) (by rw [b2.free]; omega)
  rw [b2.free] at c3
  generalize hP3 : putI T2 i n = P3 at *
  obtain ⟨q3, T3⟩ := P3
  dsimp only at a3 b3 c3
  subst a3
  exact ⟨T1, T2, T3, xs1, xs2, xs3, hP1, hP2, hP3, b1, b2, b3, by omega, hw1, by omega⟩
end Go.Proofs.Ytlopdbhjdijlmaa
