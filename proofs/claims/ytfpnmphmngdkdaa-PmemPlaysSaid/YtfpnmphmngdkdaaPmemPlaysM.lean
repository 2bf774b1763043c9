/-
  The document's memory (imagoref01), as plain functions; it and the program's memory, call by call: plain.
-/
import Derived.Test.YtfpnmphmngdkdaaPmCrashM
import Derived.Test.YtfpnmphmngdkdaaOp1
namespace Go.Proofs.Ytfpnmphmngdkdaa
set_option linter.unusedVariables false

structure Rm where
  n : Nat
  now : Nat → Int
  last : Nat → Int
  fl : Nat → Bool
  deeds : Nat
  fuse : Int

def Rm.dirt (R : Rm) : Nat → Option Int := fun i => if R.now i = R.last i then none else some (R.last i)
def Rm.dirty (R : Rm) : Nat := cnt R.dirt R.n
def updB (f : Nat → Bool) (i : Nat) (v : Bool) : Nat → Bool := fun k => if k = i then v else f k
def Rm.deed (R : Rm) : Rm := { R with deeds := R.deeds + 1, fuse := if 0 < R.fuse then R.fuse - 1 else R.fuse }
def Rm.err (R : Rm) (o : OpV) : Int := if o.kind % 6 < 4 ∧ R.fuse = 0 then 9 else if o.kind % 6 < 3 ∧ (o.i < 0 ∨ (R.n : Int) ≤ o.i) then 1 else 0
def Rm.got (R : Rm) (o : OpV) : Int := if R.err o = 0 ∧ o.kind % 6 = 1 then R.now o.i.toNat else 0
def Rm.store (R : Rm) (i : Nat) (v : Int) : Rm := { R with now := upd R.now i v, fl := updB R.fl i false }
def Rm.flushTo (R : Rm) (a k : Nat) : Rm := { R with fl := fun j => if j < k ∧ j / 8 = a then true else R.fl j }
def Rm.fenceTo (R : Rm) (k : Nat) : Rm := { R with last := fun j => if j < k ∧ R.fl j = true then R.now j else R.last j, fl := fun j => if j < k then false else R.fl j }
def Rm.left (R : Rm) (keep : List Nat) (j : Nat) : Int := if R.now j ≠ R.last j ∧ back keep (cnt R.dirt j) = false then R.now j else R.last j
def Rm.crashTo (R : Rm) (keep : List Nat) (k : Nat) : Rm :=
  { R with now := fun j => if j < k then R.left keep j else R.now j, last := fun j => if j < k then R.left keep j else R.last j, fl := fun j => if j < k then false else R.fl j }
def Rm.crash (R : Rm) (keep : List Nat) : Rm := { R.crashTo keep R.n with fuse := -1 }
def Rm.blow (R : Rm) (k : Int) : Rm := { R with fuse := if R.fuse = 0 then 0 else max k (-1) }

def Rm.step (R : Rm) (o : OpV) : Rm :=
  if R.err o ≠ 0 then R
  else if o.kind % 6 = 0 then (R.store o.i.toNat o.word).deed
  else if o.kind % 6 = 1 then R
  else if o.kind % 6 = 2 then (R.flushTo (o.i.toNat / 8) R.n).deed
  else if o.kind % 6 = 3 then (R.fenceTo R.n).deed
  else if o.kind % 6 = 4 then R.blow o.n
  else R.crash o.keep

def Pm.step (S : Pm) (o : OpV) : Pm :=
  if o.kind % 6 = 0 then S.store o.i o.word
  else if o.kind % 6 = 1 then S
  else if o.kind % 6 = 2 then S.flush o.i
  else if o.kind % 6 = 3 then S.fence
  else if o.kind % 6 = 4 then S.blow o.n
  else S.crash o.keep
def Pm.err (S : Pm) (o : OpV) : Int := if o.kind % 6 < 3 then S.may o.i else if o.kind % 6 = 3 then S.fenceE else 0
def Pm.got (S : Pm) (o : OpV) : Int := if o.kind % 6 = 1 then S.load o.i else 0

/-- The two memories are the same, each in its way. -/
structure Rel (S : Pm) (R : Rm) : Prop where
  n : S.n = R.n
  now : ∀ i, i < R.n → S.now i = R.now i
  old : ∀ i, i < R.n → S.old i = if R.now i = R.last i then none else some (R.last i)
  fl : ∀ i, i < R.n → (S.fl i).isSome = (decide (R.now i ≠ R.last i) && R.fl i)
  deeds : S.deeds = R.deeds
  fuse : S.fuse = R.fuse
  gone : S.gone = decide (R.fuse = 0)
  ge : -1 ≤ R.fuse

theorem cnt_congr {f g : Nat → Option Int} {n : Nat} (h : ∀ i, i < n → (f i).isSome = (g i).isSome) : cnt f n = cnt g n := by
  induction n with
  | zero => rfl
  | succ n ih => simp only [cnt]; rw [ih (fun i hi => h i (by omega)), h n (by omega)]

theorem Rel.cnt {S : Pm} {R : Rm} (h : Rel S R) (k : Nat) (hk : k ≤ R.n) : Proofs.Ytfpnmphmngdkdaa.cnt S.old k = Proofs.Ytfpnmphmngdkdaa.cnt R.dirt k :=
  cnt_congr (fun i hi => by rw [h.old i (by omega)]; rfl)

theorem Rel.dirty {S : Pm} {R : Rm} (h : Rel S R) : S.dirty = R.dirty := by
  unfold Pm.dirty Rm.dirty
  rw [h.n]
  exact h.cnt R.n (Nat.le_refl _)

theorem Rel.last {S : Pm} {R : Rm} (h : Rel S R) {i : Nat} (hi : i < R.n) : S.last i = R.last i := by
  unfold Pm.last
  rw [h.old i hi]
  split
  · rename_i e
    rw [← e]
    exact h.now i hi
  · rfl

theorem Rel.deed {S : Pm} {R : Rm} (h : Rel S R) (h0 : R.fuse ≠ 0) : Rel S.deed R.deed := by
  have hg := h.ge
  refine ⟨h.n, h.now, h.old, h.fl, by simp only [Pm.deed, Rm.deed]; rw [h.deeds], by simp only [Pm.deed, Rm.deed]; rw [h.fuse], ?_, ?_⟩
  · simp only [Pm.deed, Rm.deed]
    rw [h.fuse, h.gone]
    split <;> rfl
  · simp only [Rm.deed]
    split <;> omega

theorem Rel.may {S : Pm} {R : Rm} (h : Rel S R) (i : Int) : S.may i = if R.fuse = 0 then 9 else if i < 0 ∨ (R.n : Int) ≤ i then 1 else 0 := by
  unfold Pm.may
  rw [h.gone, h.n]
  simp only [decide_eq_true_eq]

theorem Rel.store {S : Pm} {R : Rm} (h : Rel S R) (i : Nat) (hi : i < R.n) (v : Int) : Rel (S.put i v) (R.store i v) := by
  have hl := h.last hi
  refine ⟨h.n, fun k hk => ?_, fun k hk => ?_, fun k hk => ?_, h.deeds, h.fuse, h.gone, h.ge⟩
  · simp only [Pm.put, Rm.store, upd]
    split
    · rfl
    · exact h.now k hk
  · show updO S.old i (if S.last i = v then none else some (S.last i)) k = if upd R.now i v k = R.last k then none else some (R.last k)
    by_cases e : k = i
    · subst e
      have e1 : upd R.now k v k = v := by unfold upd; rw [if_pos rfl]
      have e2 : updO S.old k (if S.last k = v then none else some (S.last k)) k = if S.last k = v then none else some (S.last k) := by unfold updO; rw [if_pos rfl]
      rw [e1, e2, hl]
      by_cases e2 : R.last k = v
      · rw [if_pos e2, if_pos e2.symm]
      · rw [if_neg e2, if_neg (fun x => e2 x.symm)]
    · have e1 : upd R.now i v k = R.now k := by unfold upd; rw [if_neg e]
      have e2 : updO S.old i (if S.last i = v then none else some (S.last i)) k = S.old k := by unfold updO; rw [if_neg e]
      rw [e1, e2]
      exact h.old k hk
  · show (updO S.fl i none k).isSome = (decide (upd R.now i v k ≠ R.last k) && updB R.fl i false k)
    by_cases e : k = i
    · subst e
      simp [updO, updB]
    · have e1 : upd R.now i v k = R.now k := by unfold upd; rw [if_neg e]
      have e2 : updO S.fl i none k = S.fl k := by unfold updO; rw [if_neg e]
      have e3 : updB R.fl i false k = R.fl k := by unfold updB; rw [if_neg e]
      rw [e1, e2, e3]
      exact h.fl k hk

theorem Rel.flush {S : Pm} {R : Rm} (h : Rel S R) (i : Nat) (hi : i < R.n) : Rel (S.flushTo (i / 8 * 8) (min (i / 8 * 8 + 8) S.n)) (R.flushTo (i / 8) R.n) := by
  refine ⟨h.n, h.now, h.old, fun k hk => ?_, h.deeds, h.fuse, h.gone, h.ge⟩
  have hn := h.n
  have hk : k < R.n := hk
  show ((if i / 8 * 8 ≤ k ∧ k < min (i / 8 * 8 + 8) S.n ∧ (S.old k).isSome = true then some (S.now k) else S.fl k) : Option Int).isSome = (decide (R.now k ≠ R.last k) && (if k < R.n ∧ k / 8 = i / 8 then true else R.fl k))
  have ho := h.old k hk
  have hf := h.fl k hk
  by_cases e : k / 8 = i / 8
  · rw [if_pos (c := k < R.n ∧ k / 8 = i / 8) ⟨hk, e⟩]
    by_cases d : R.now k = R.last k
    · rw [if_pos d] at ho
      rw [if_neg (fun x => by have := x.2.2; rw [ho] at this; cases this), hf]
      simp [d]
    · rw [if_neg d] at ho
      rw [if_pos ⟨by omega, by omega, by rw [ho]; rfl⟩]
      simp [d]
  · rw [if_neg (c := k < R.n ∧ k / 8 = i / 8) (fun x => e x.2), if_neg (fun x => by omega)]
    exact hf

theorem Rel.fence {S : Pm} {R : Rm} (h : Rel S R) : Rel S.settle (R.fenceTo R.n) := by
  refine ⟨h.n, h.now, fun k hk => ?_, fun k hk => ?_, h.deeds, h.fuse, h.gone, h.ge⟩
  · show (if (S.fl k).isSome = true then none else S.old k) = if R.now k = (if k < R.n ∧ R.fl k = true then R.now k else R.last k) then none else some (if k < R.n ∧ R.fl k = true then R.now k else R.last k)
    rw [h.fl k hk]
    have ho := h.old k hk
    cases hf : R.fl k with
    | true =>
      rw [if_pos (c := k < R.n ∧ true = true) ⟨hk, rfl⟩, if_pos (c := R.now k = R.now k) rfl]
      split
      · rfl
      · rename_i e
        rw [ho, if_pos (by simpa using e)]
    | false =>
      rw [if_neg (c := k < R.n ∧ false = true) (fun x => by cases x.2), if_neg (by simp)]
      exact ho
  · show ((none : Option Int)).isSome = (_ && (if k < R.n then false else R.fl k))
    have hk : k < R.n := hk
    rw [if_pos hk]
    simp

theorem Rel.blow {S : Pm} {R : Rm} (h : Rel S R) (k : Int) : Rel (S.blow k) (R.blow k) := by
  unfold Pm.blow
  by_cases e : R.fuse = 0
  · have hg : S.gone = true := by rw [h.gone]; simpa using e
    rw [if_pos hg]
    have e1 : R.blow k = { R with fuse := 0 } := by unfold Rm.blow; rw [if_pos e]
    rw [e1]
    exact ⟨h.n, h.now, h.old, h.fl, h.deeds, by rw [h.fuse, e], hg, by simp⟩
  · have hg : ¬ S.gone = true := by rw [h.gone]; simpa using e
    rw [if_neg hg]
    have e1 : R.blow k = { R with fuse := max k (-1) } := by unfold Rm.blow; rw [if_neg e]
    rw [e1]
    refine ⟨h.n, h.now, h.old, h.fl, h.deeds, rfl, ?_, ?_⟩
    · show decide (k = 0) = decide (max k (-1) = 0)
      by_cases e : k = 0
      · subst e; rfl
      · have : ¬ max k (-1) = 0 := by omega
        simp [e, this]
    · show -1 ≤ max k (-1)
      omega

theorem Rel.crash {S : Pm} (hok : S.Ok) {R : Rm} (h : Rel S R) (keep : List Nat) : Rel (S.crash keep) (R.crash keep) := by
  refine ⟨h.n, fun k hk => ?_, fun k hk => ?_, fun k hk => ?_, h.deeds, rfl, rfl, by simp [Rm.crash]⟩
  · have hk' : k < R.n := hk
    rw [Pm.crash_now hok]
    show _ = if k < R.n then R.left keep k else R.now k
    rw [if_pos hk', h.last hk', h.now k hk', h.cnt k (by omega), h.old k hk']
    unfold Rm.left
    by_cases d : R.now k = R.last k
    · rw [if_pos d, if_neg (fun x => by cases x.1), if_neg (fun x => x.1 d), d]
    · rw [if_neg d]
      cases hb : back keep (Proofs.Ytfpnmphmngdkdaa.cnt R.dirt k) with
      | true => rw [if_pos ⟨rfl, rfl⟩, if_neg (fun x => by cases x.2)]
      | false => rw [if_neg (fun x => by cases x.2), if_pos ⟨d, rfl⟩]
  · have hk' : k < R.n := hk
    show none = if (if k < R.n then R.left keep k else R.now k) = (if k < R.n then R.left keep k else R.last k) then none else _
    rw [if_pos hk', if_pos hk', if_pos rfl]
  · have hk' : k < R.n := hk
    show ((none : Option Int)).isSome = (_ && (if k < R.n then false else R.fl k))
    rw [if_pos hk']
    simp

theorem Rel.err {S : Pm} {R : Rm} (h : Rel S R) (o : OpV) : S.err o = R.err o := by
  have h6 := Nat.mod_lt o.kind (show 0 < 6 by omega)
  unfold Pm.err Rm.err Pm.fenceE
  rw [h.may, h.gone]
  by_cases e : o.kind % 6 < 3
  · simp [e, show o.kind % 6 < 4 by omega]
  · by_cases e2 : o.kind % 6 = 3
    · simp [e2]
    · simp [e, e2, show ¬ o.kind % 6 < 4 by omega]

theorem Rel.got {S : Pm} {R : Rm} (h : Rel S R) (o : OpV) : S.got o = R.got o := by
  unfold Pm.got Rm.got
  rw [← h.err]
  by_cases e : o.kind % 6 = 1
  · have he : S.err o = S.may o.i := by unfold Pm.err; rw [if_pos (by omega)]
    rw [if_pos e, he]
    unfold Pm.load
    by_cases hm : S.may o.i = 0
    · have := Pm.may_ok hm
      have hn := h.n
      rw [if_pos hm, if_pos ⟨hm, e⟩, h.now _ (by omega)]
    · rw [if_neg hm, if_neg (fun x => hm x.1)]
  · rw [if_neg e, if_neg (fun x => e x.2)]

theorem Rel.step {S : Pm} (hok : S.Ok) {R : Rm} (h : Rel S R) (o : OpV) : Rel (S.step o) (R.step o) := by
  have h6 := Nat.mod_lt o.kind (show 0 < 6 by omega)
  have he := h.err o
  have hn := h.n
  unfold Rm.step Pm.step
  rw [← he]
  by_cases k0 : o.kind % 6 = 0
  · rw [if_pos k0, if_pos k0]
    have hem : S.err o = S.may o.i := by unfold Pm.err; rw [if_pos (by omega)]
    unfold Pm.store
    rw [hem]
    by_cases hm : S.may o.i = 0
    · have hmo := Pm.may_ok hm
      rw [if_pos hm, if_neg (fun x => x hm)]
      refine (h.store _ (by omega) _).deed ?_
      show R.fuse ≠ 0
      intro e
      have := h.gone
      rw [hmo.2.2, e] at this
      cases this
    · rw [if_neg hm, if_pos hm]
      exact h
  · rw [if_neg k0, if_neg k0]
    by_cases k1 : o.kind % 6 = 1
    · rw [if_pos k1, if_pos k1]
      split <;> exact h
    · rw [if_neg k1, if_neg k1]
      by_cases k2 : o.kind % 6 = 2
      · rw [if_pos k2, if_pos k2]
        have hem : S.err o = S.may o.i := by unfold Pm.err; rw [if_pos (by omega)]
        unfold Pm.flush
        rw [hem]
        by_cases hm : S.may o.i = 0
        · have hmo := Pm.may_ok hm
          rw [if_pos hm, if_neg (fun x => x hm)]
          refine (h.flush _ (by omega)).deed ?_
          show R.fuse ≠ 0
          intro e
          have := h.gone
          rw [hmo.2.2, e] at this
          cases this
        · rw [if_neg hm, if_pos hm]
          exact h
      · rw [if_neg k2, if_neg k2]
        by_cases k3 : o.kind % 6 = 3
        · rw [if_pos k3, if_pos k3]
          have hem : S.err o = S.fenceE := by unfold Pm.err; rw [if_neg (by omega), if_pos k3]
          rw [hem]
          unfold Pm.fence Pm.fenceE
          by_cases hg : S.gone = true
          · rw [if_pos hg, if_pos hg, if_pos (by decide)]
            exact h
          · rw [if_neg hg, if_neg hg, if_neg (by decide)]
            refine h.fence.deed ?_
            show R.fuse ≠ 0
            intro e
            have := h.gone
            rw [e] at this
            exact hg this
        · have hem : S.err o = 0 := by unfold Pm.err; rw [if_neg (by omega), if_neg k3]
          have h00 : ¬ ((0 : Int) ≠ 0) := fun x => x rfl
          rw [if_neg k3, if_neg k3, hem, if_neg h00]
          by_cases k4 : o.kind % 6 = 4
          · rw [if_pos k4, if_pos k4]
            exact h.blow _
          · rw [if_neg k4, if_neg k4]
            exact h.crash hok _

theorem Pm.Ok.step {S : Pm} (h : S.Ok) {o : OpV} (ho : o.Ok) : (S.step o).Ok := by
  unfold Pm.step
  split
  · exact h.store _ _ ho.word.1 ho.word.2
  split
  · exact h
  split
  · exact h.flush _
  split
  · exact h.fence
  split
  · exact h.blow _ ho.n.2
  · exact h.crash _

def Rm.new (l : List Int) : Rm := ⟨l.length, fun i => l.getD i 0, fun i => l.getD i 0, fun _ => false, 0, -1⟩

theorem Rel.new (l : List Int) (h : l.length ≤ 10000) : Rel (Pm.new l) (Rm.new l) := by
  refine ⟨?_, fun i _ => rfl, fun i _ => ?_, fun i _ => ?_, rfl, rfl, rfl, by simp [Rm.new]⟩
  · simp only [Pm.new, Rm.new]; omega
  · show none = if l.getD i 0 = l.getD i 0 then none else some (l.getD i 0)
    rw [if_pos rfl]
  · simp [Pm.new, Rm.new]

/-- The document's memory fits. -/
structure Rm.Ok (R : Rm) : Prop where
  now : ∀ i, 0 ≤ R.now i ∧ R.now i < 18446744073709551616
  last : ∀ i, 0 ≤ R.last i ∧ R.last i < 18446744073709551616
  fuse : -1 ≤ R.fuse ∧ R.fuse ≤ 9223372036854775807

theorem Rm.step_deeds (R : Rm) (o : OpV) : (R.step o).deeds ≤ R.deeds + 1 := by
  unfold Rm.step
  split
  · omega
  split
  · exact Nat.le_refl _
  split
  · omega
  split
  · exact Nat.le_refl _
  split
  · exact Nat.le_refl _
  split
  · exact Nat.le_succ _
  · exact Nat.le_succ _

theorem Rm.step_n (R : Rm) (o : OpV) : (R.step o).n = R.n := by
  unfold Rm.step
  repeat' split
  all_goals rfl
end Go.Proofs.Ytfpnmphmngdkdaa
