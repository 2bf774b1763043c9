/-
  What a commit leaves where the power stays: plain law. No walk here.
-/
import Derived.Test.YtfpnmphmngdkdaaPlog6
namespace Go.Proofs.Ytfpnmphmngdkdaa
set_option linter.unusedVariables false
set_option linter.unusedSimpArgs false

def afterF (f : Nat → Int) (l : List (Int × Int)) : Nat → Int := l.foldl (fun g x => upd g x.1.toNat x.2) f

theorem afterF_cons (f : Nat → Int) (x : Int × Int) (l : List (Int × Int)) : afterF f (x :: l) = afterF (upd f x.1.toNat x.2) l := rfl

theorem afterF_congr (l : List (Int × Int)) : ∀ (f g : Nat → Int) (k : Nat), f k = g k → afterF f l k = afterF g l k := by
  induction l with
  | nil => intro f g k h; exact h
  | cons x l ih =>
    intro f g k h
    rw [afterF_cons, afterF_cons]
    refine ih _ _ k ?_
    unfold upd
    split
    · rfl
    · exact h

theorem afterF_out (l : List (Int × Int)) (k : Nat) : ∀ (f : Nat → Int), (∀ x ∈ l, x.1.toNat ≠ k) → afterF f l k = f k := by
  induction l with
  | nil => intro f _; rfl
  | cons x l ih =>
    intro f h
    rw [afterF_cons, ih _ (fun y hy => h y (by simp [hy]))]
    unfold upd
    rw [if_neg (fun e => h x (by simp) e.symm)]

/-- The power is there, and stays. -/
def Live (S : Pm) : Prop := S.gone = false ∧ S.fuse = -1
def InR2 (S : Pm) (l : List (Int × Int)) : Prop := ∀ x ∈ l, 0 ≤ x.1 ∧ x.1 < S.n
def Words2 (l : List (Int × Int)) : Prop := ∀ x ∈ l, 0 ≤ x.2 ∧ x.2 < 18446744073709551616

theorem live_may {S : Pm} (h : Live S) {i : Int} (h0 : 0 ≤ i) (h1 : i < S.n) : S.may i = 0 := by
  unfold Pm.may
  rw [h.1]
  simp
  omega

theorem live_deed {S : Pm} (h : Live S) : S.deed = { S with deeds := S.deeds + 1 } := by
  unfold Pm.deed
  rw [if_neg (by rw [h.2]; omega), if_neg (by rw [h.2]; omega)]

theorem live_store {S : Pm} (h : Live S) {i : Int} (h0 : 0 ≤ i) (h1 : i < S.n) (v : Int) : S.store i v = { S.put i.toNat v with deeds := S.deeds + 1 } := by
  unfold Pm.store
  rw [if_pos (live_may h h0 h1)]
  exact live_deed (S := S.put i.toNat v) h

theorem storeAll_live (l : List (Int × Int)) : ∀ S : Pm, S.Ok → Live S → InR2 S l → Words2 l → ∃ T, S.storeAll l = (T, 0) ∧ T.Ok ∧ Live T ∧ T.n = S.n ∧ T.now = afterF S.now l ∧ T.deeds = S.deeds + l.length ∧
    (∀ k, (T.old k).isSome = true → (S.old k).isSome = true ∨ ∃ x ∈ l, x.1.toNat = k) ∧ (∀ k, S.fl k = none → T.fl k = none) := by
  induction l with
  | nil => intro S h hl _ _; exact ⟨S, rfl, h, hl, rfl, rfl, rfl, fun k hk => .inl hk, fun k hk => hk⟩
  | cons x l ih =>
    intro S h hl hr hw
    have hx := hr x (by simp)
    have hwx := hw x (by simp)
    have hst := live_store hl hx.1 hx.2 x.2
    have hok := h.store x.1 x.2 hwx.1 hwx.2
    have hn : (S.store x.1 x.2).n = S.n := Pm.store_n _ _ _
    have hlv : Live (S.store x.1 x.2) := by rw [hst]; exact hl
    obtain ⟨T, e, a1, a2, a3, a4, a5, a6, a7⟩ := ih (S.store x.1 x.2) hok hlv (fun y hy => by rw [hn]; exact hr y (by simp [hy])) (fun y hy => hw y (by simp [hy]))
    refine ⟨T, ?_, a1, a2, a3.trans hn, ?_, ?_, ?_, ?_⟩
    · simp only [Pm.storeAll]
      rw [if_pos (live_may hl hx.1 hx.2), e]
    · rw [a4, afterF_cons, hst]; rfl
    · rw [a5, hst]
      simp only [List.length_cons]
      omega
    · intro k hk
      rcases a6 k hk with h1 | ⟨y, hy, hyk⟩
      · rw [hst] at h1
        simp only [Pm.put, updO] at h1
        split at h1
        · rename_i e; exact .inr ⟨x, by simp, e.symm⟩
        · exact .inl h1
      · exact .inr ⟨y, by simp [hy], hyk⟩
    · intro k hk
      refine a7 k ?_
      rw [hst]
      simp only [Pm.put, updO]
      split
      · rfl
      · exact hk

def Flushed (U : Pm) (z : Int) : Prop := ∀ k : Nat, ((k / 8 : Nat) : Int) = z → (U.old k).isSome = true → (U.fl k).isSome = true

/-- How many lines are met for the first time. -/
def freshN (f : Int → Nat) : List (Int × Int) → Nat
  | [] => 0
  | x :: l => (if 0 < f (x.1 / 8) then 0 else 1) + freshN (inc f (x.1 / 8)) l

theorem live_flush {U : Pm} (h : Live U) {i : Int} (h0 : 0 ≤ i) (h1 : i < U.n) : U.flush i = { U.flushTo (i.toNat / 8 * 8) (min (i.toNat / 8 * 8 + 8) U.n) with deeds := U.deeds + 1 } := by
  unfold Pm.flush
  rw [if_pos (live_may h h0 h1)]
  exact live_deed (S := U.flushTo _ _) h

theorem flushAll_live (l : List (Int × Int)) : ∀ (U : Pm) (f : Int → Nat), U.Ok → Live U → InR2 U l → (∀ z, 0 < f z → Flushed U z) → ∃ V, U.flushAll f l = (V, 0) ∧ V.Ok ∧ Live V ∧ V.n = U.n ∧ V.now = U.now ∧ V.old = U.old ∧ V.deeds = U.deeds + freshN f l ∧
    (∀ z, Flushed U z → Flushed V z) ∧ ∀ x ∈ l, Flushed V (x.1 / 8) := by
  induction l with
  | nil => intro U f h hl _ _; exact ⟨U, rfl, h, hl, rfl, rfl, rfl, rfl, fun z hz => hz, fun x hx => by cases hx⟩
  | cons x l ih =>
    intro U f h hl hr hf
    have hx := hr x (by simp)
    by_cases hm : 0 < f (x.1 / 8)
    · obtain ⟨V, e, a1, a2, a3, a4, a5, a6, a7, a8⟩ := ih U (inc f (x.1 / 8)) h hl (fun y hy => hr y (by simp [hy])) (by
        intro z hz
        unfold inc at hz
        split at hz
        · rename_i e; subst e; exact hf _ hm
        · exact hf z hz)
      refine ⟨V, ?_, a1, a2, a3, a4, a5, ?_, a7, ?_⟩
      · simp only [Pm.flushAll]; rw [if_pos hm, e]
      · rw [a6]; simp only [freshN]; rw [if_pos hm]; omega
      · intro y hy
        rcases List.mem_cons.1 hy with rfl | hy
        · exact a7 _ (hf _ hm)
        · exact a8 y hy
    · have hfl := live_flush hl hx.1 hx.2
      have hold : (U.flush x.1).old = U.old := by rw [hfl]; rfl
      have hmono : ∀ z, Flushed U z → Flushed (U.flush x.1) z := by
        intro z hz k hk ho
        rw [hold] at ho
        rw [hfl]
        show (if _ then _ else _ : Option Int).isSome = true
        split
        · rfl
        · exact hz k hk ho
      have hself : Flushed (U.flush x.1) (x.1 / 8) := by
        intro k hk ho
        rw [hold] at ho
        have hkn : k < U.n := by
          cases e : U.old k with
          | none => rw [e] at ho; cases ho
          | some y => exact (h.old k y e).1
        rw [hfl]
        show (if _ then _ else _ : Option Int).isSome = true
        obtain ⟨n, hn⟩ := Int.eq_ofNat_of_zero_le hx.1
        rw [if_pos ⟨by omega, by omega, ho⟩]
        rfl
      obtain ⟨V, e, a1, a2, a3, a4, a5, a6, a7, a8⟩ := ih (U.flush x.1) (inc f (x.1 / 8)) (h.flush _) (by rw [hfl]; exact hl) (fun y hy => by rw [Pm.flush_n]; exact hr y (by simp [hy])) (by
        intro z hz
        unfold inc at hz
        split at hz
        · rename_i e; subst e; exact hself
        · exact hmono z (hf z hz))
      refine ⟨V, ?_, a1, a2, a3.trans (Pm.flush_n _ _), ?_, a5.trans hold, ?_, fun z hz => a7 z (hmono z hz), ?_⟩
      · simp only [Pm.flushAll]; rw [if_neg hm, if_pos (live_may hl hx.1 hx.2), e]
      · rw [a4, hfl]; rfl
      · rw [a6, hfl]; simp only [freshN]; rw [if_neg hm]; omega
      · intro y hy
        rcases List.mem_cons.1 hy with rfl | hy
        · exact a7 _ hself
        · exact a8 y hy

/-- All is lasting. -/
def Calm (S : Pm) : Prop := Live S ∧ (∀ k, S.old k = none) ∧ ∀ k, S.fl k = none

theorem write_calm {S : Pm} (hok : S.Ok) (h : Calm S) {l : List (Int × Int)} (hr : InR2 S l) (hw : Words2 l) :
    ∃ T, S.write l = (T, 0) ∧ T.Ok ∧ Calm T ∧ T.n = S.n ∧ T.now = afterF S.now l ∧ T.deeds = S.deeds + l.length + freshN (fun _ => 0) l + 1 := by
  obtain ⟨hl, ho, hf⟩ := h
  obtain ⟨T, e1, a1, a2, a3, a4, a5, a6, a7⟩ := storeAll_live l S hok hl hr hw
  obtain ⟨V, e2, b1, b2, b3, b4, b5, b6, b7, b8⟩ := flushAll_live l T (fun _ => 0) a1 a2 (fun x hx => by rw [a3]; exact hr x hx) (fun z hz => by omega)
  have hfe : V.fence = { V.settle with deeds := V.deeds + 1 } := by
    unfold Pm.fence
    rw [b2.1]
    simp only [Bool.false_eq_true, if_false]
    exact live_deed (S := V.settle) b2
  refine ⟨V.fence, ?_, b1.fence, ⟨by rw [hfe]; exact b2, ?_, ?_⟩, ?_, ?_, ?_⟩
  · unfold Pm.write Pm.flushes
    rw [e1]
    simp only [if_true]
    rw [e2]
    simp only [if_true, Pm.fenceR]
    unfold Pm.fenceE
    rw [b2.1]
    rfl
  · intro k
    rw [hfe]
    show (if (V.fl k).isSome then none else V.old k) = none
    split
    · rfl
    · rename_i hk
      rw [b5]
      cases e : T.old k with
      | none => rfl
      | some y =>
        exfalso
        have hs : (T.old k).isSome = true := by rw [e]; rfl
        rcases a6 k hs with h1 | ⟨x, hx, hxk⟩
        · rw [ho k] at h1; cases h1
        · have hx0 := hr x hx
          refine hk (b8 x hx k ?_ (by rw [b5]; exact hs))
          omega
  · intro k
    rw [hfe]
    rfl
  · rw [hfe]
    exact b3.trans a3
  · rw [hfe]
    exact b4.trans a4
  · rw [hfe]
    show V.deeds + 1 = _
    rw [b6, a5]

theorem mark_calm {S : Pm} (hok : S.Ok) (h : Calm S) (hn : S.n = 3128) {c : Int} (h0 : 0 ≤ c) (h1 : c < 18446744073709551616) :
    ∃ T, S.mark c = (T, 0) ∧ T.Ok ∧ Calm T ∧ T.n = S.n ∧ T.now = upd S.now 8 c ∧ T.deeds = S.deeds + 3 := by
  obtain ⟨T, e, a1, a2, a3, a4, a5⟩ := write_calm hok h (l := [(8, c)]) (by intro x hx; simp at hx; subst hx; rw [hn]; exact ⟨by simp, by simp⟩) (by intro x hx; simp at hx; subst hx; exact ⟨h0, h1⟩)
  exact ⟨T, e, a1, a2, a3, a4, by rw [a5]; rfl⟩

/-- How many deeds a commit of pairs has. -/
def commitDeeds (l : List (Int × Int)) : Nat :=
  if l.length = 0 then 0 else (2 * l.length + freshN (fun _ => 0) (asPairsL 9 (pairWords l)) + 1) + 3 + (l.length + freshN (fun _ => 0) l + 1) + 3

theorem done_calm {S : Pm} (hok : S.Ok) (h : Calm S) (hn : S.n = 3128) {l : List (Int × Int)} (hr : InR2 S l) (hw : Words2 l) :
    ∃ T, S.doneP l = (T, 0) ∧ T.Ok ∧ Calm T ∧ T.n = S.n ∧ T.now = upd (afterF S.now l) 8 0 ∧ T.deeds = S.deeds + (l.length + freshN (fun _ => 0) l + 1) + 3 := by
  obtain ⟨T, e1, a1, a2, a3, a4, a5⟩ := write_calm hok h hr hw
  obtain ⟨U, e2, b1, b2, b3, b4, b5⟩ := mark_calm a1 a2 (a3.trans hn) (c := 0) (by omega) (by omega)
  refine ⟨U, ?_, b1, b2, b3.trans a3, by rw [b4, a4], by rw [b5, a5]; omega⟩
  unfold Pm.doneP
  rw [e1]
  simp only [if_true]
  exact e2

theorem good_in {l : List (Int × Int)} (h : goodP l = true) : (∀ x ∈ l, 0 ≤ x.1 ∧ x.1 < 3128 ∧ (x.1 < 8 ∨ 816 ≤ x.1)) ∧ l.length ≤ 400 := by
  unfold goodP at h
  simp only [Bool.and_eq_true, decide_eq_true_eq, List.all_eq_true] at h
  refine ⟨fun x hx => ?_, h.1⟩
  have h1 := h.2 x hx
  unfold placeB at h1
  simpa only [decide_eq_true_eq] using h1

theorem commit_calm {S : Pm} (hok : S.Ok) (h : Calm S) (hn : S.n = 3128) {l : List (Int × Int)} (hg : goodP l = true) (hw : Words2 l) :
    ∃ T, S.commit l = (T, 0) ∧ T.Ok ∧ Calm T ∧ T.n = 3128 ∧ (∀ k, k < 8 ∨ 816 ≤ k → T.now k = afterF S.now l k) ∧ (T.now 8 = 0 ∨ (l = [] ∧ T.now 8 = S.now 8)) ∧ T.deeds = S.deeds + commitDeeds l := by
  obtain ⟨hin, hl4⟩ := good_in hg
  have hgo : S.commit l = if S.may 0 ≠ 0 ∨ l.length = 0 then (S, S.may 0) else S.commitGo l := by
    unfold Pm.commit
    rw [if_neg (by simp [hn, hg])]
  have hm0 := live_may h.1 (i := 0) (by omega) (by rw [hn]; simp)
  by_cases h0 : l.length = 0
  · have hl : l = [] := List.eq_nil_of_length_eq_zero h0
    subst hl
    refine ⟨S, by rw [hgo, if_pos (.inr rfl), hm0], hok, h, hn, fun k _ => rfl, .inr ⟨rfl, rfl⟩, ?_⟩
    unfold commitDeeds
    rw [if_pos h0]; rfl
  · have hpos : Pos l := fun x hx => by have := hin x hx; have := hw x hx; omega
    have hal : (asPairsL 9 (pairWords l)).length = 2 * l.length := by rw [asPairsL_len, pairWords_len]
    have hA1 : ∀ x ∈ asPairsL 9 (pairWords l), 9 ≤ x.1 ∧ x.1 < 9 + 2 * l.length ∧ 0 ≤ x.2 ∧ x.2 < 18446744073709551616 := by
      intro x hx
      have hx2 := (asPairsL_word64 9 (by omega) _ (pairWords_mem hpos) (by rw [pairWords_len]; omega) x hx).2
      unfold asPairsL at hx
      obtain ⟨i, hi, rfl⟩ := List.mem_map.1 hx
      have hi := List.mem_range.1 hi
      rw [pairWords_len] at hi
      exact ⟨by simp only; omega, by simp only; omega, hx2⟩
    have hcr := commitW_range (l := l) (by omega)
    obtain ⟨T1, e1, a1, a2, a3, a4, a5⟩ := write_calm hok h (l := asPairsL 9 (pairWords l)) (fun x hx => by have := hA1 x hx; rw [hn]; omega) (fun x hx => (hA1 x hx).2.2)
    obtain ⟨T2, e2, b1, b2, b3, b4, b5⟩ := mark_calm a1 a2 (a3.trans hn) hcr.1 hcr.2
    have hn2 : T2.n = 3128 := b3.trans (a3.trans hn)
    obtain ⟨T3, e3, c1, c2, c3, c4, c5⟩ := done_calm b1 b2 hn2 (l := l) (fun x hx => by have := hin x hx; rw [hn2]; omega) hw
    refine ⟨T3, ?_, c1, c2, c3.trans hn2, ?_, .inl ?_, ?_⟩
    · rw [hgo, if_neg (by simp [hm0, h0])]
      unfold Pm.commitGo
      rw [e1, bindW_ok, e2, bindW_ok]
      exact e3
    · intro k hk
      rw [c4]
      unfold upd
      rw [if_neg (by omega)]
      refine afterF_congr l _ _ k ?_
      rw [b4]
      unfold upd
      rw [if_neg (by omega), a4]
      refine afterF_out _ k _ (fun x hx => ?_)
      have := hA1 x hx
      omega
    · rw [c4]
      unfold upd
      rw [if_pos rfl]
    · rw [c5, b5, a5, hal]
      unfold commitDeeds
      rw [if_neg h0]
      omega

theorem standing_none {S : Pm} (hn : S.n = 3128) (hg : S.gone = false) (h8 : S.now 8 = 0) : S.standing = ([], false, 0) := by
  unfold Pm.standing
  rw [if_neg (by simp [hn]), hg]
  have : standN S = 0 := by unfold standN; rw [h8]; rfl
  rw [this]
  simp

theorem new_calm (k : Nat) : Calm (Pm.new (List.replicate k 0)) := ⟨⟨rfl, rfl⟩, fun _ => rfl, fun _ => rfl⟩

theorem new_zero (k i : Nat) : (Pm.new (List.replicate k 0)).now i = 0 := by
  show (List.replicate k (0 : Int)).getD i 0 = 0
  rw [List.getD_eq_getElem?_getD, List.getElem?_replicate]
  split <;> rfl

theorem calm_dirty {S : Pm} (h : Calm S) : S.dirty = 0 := by
  unfold Pm.dirty
  have : S.old = fun _ => none := funext h.2.1
  rw [this, cnt_none]

/-- Words behind pairs, as a list. -/
def afterL (xs : List Int) (l : List (Int × Int)) : List Int := l.foldl (fun g x => g.set x.1.toNat x.2) xs

theorem afterL_len (l : List (Int × Int)) : ∀ xs : List Int, (afterL xs l).length = xs.length := by
  induction l with
  | nil => intro xs; rfl
  | cons x l ih => intro xs; exact (ih _).trans (List.length_set ..)

theorem afterL_getD (l : List (Int × Int)) : ∀ (xs : List Int) (f : Nat → Int), (∀ k, k < xs.length → xs.getD k 0 = f k) → ∀ k, k < xs.length → (afterL xs l).getD k 0 = afterF f l k := by
  induction l with
  | nil => intro xs f h k hk; exact h k hk
  | cons x l ih =>
    intro xs f h k hk
    rw [afterF_cons]
    refine ih (xs.set x.1.toNat x.2) (upd f x.1.toNat x.2) ?_ k (by rw [List.length_set]; exact hk)
    intro j hj
    rw [List.length_set] at hj
    unfold upd
    rw [List.getD_eq_getElem?_getD, List.getElem?_set]
    by_cases e : j = x.1.toNat
    · subst e
      rw [if_pos rfl, if_pos rfl, if_pos hj]
      rfl
    · rw [if_neg (fun h => e h.symm), if_neg e, ← List.getD_eq_getElem?_getD]
      exact h j hj
end Go.Proofs.Ytfpnmphmngdkdaa
