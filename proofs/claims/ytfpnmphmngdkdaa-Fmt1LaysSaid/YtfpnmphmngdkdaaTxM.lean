/-
  A sheet as plain functions: words beneath, words now, and what each put was laid over. No program here.
-/
namespace Go.Proofs.Ytfpnmphmngdkdaa

structure Sh where
  beneath : Nat → Int
  now : Nat → Int
  was : List (Nat × Int)

def upd (f : Nat → Int) (i : Nat) (v : Int) : Nat → Int := fun k => if k = i then v else f k

def Sh.get (S : Sh) (i : Int) : Int := if 0 ≤ i ∧ i < 3128 then S.now i.toNat else 0
def Sh.put (S : Sh) (i : Int) (v : Int) : Sh := if 0 ≤ i ∧ i < 3128 then { S with now := upd S.now i.toNat v, was := S.was ++ [(i.toNat, S.now i.toNat)] } else S

/-- All words fit, all places are places. -/
structure Sh.Ok (S : Sh) : Prop where
  beneath : ∀ i, 0 ≤ S.beneath i ∧ S.beneath i < 18446744073709551616
  now : ∀ i, 0 ≤ S.now i ∧ S.now i < 18446744073709551616
  was : ∀ x ∈ S.was, x.1 < 3128 ∧ 0 ≤ x.2 ∧ x.2 < 18446744073709551616

theorem Sh.Ok.put {S : Sh} (h : S.Ok) (i v : Int) (h0 : 0 ≤ v) (h1 : v < 18446744073709551616) : (S.put i v).Ok := by
  unfold Sh.put
  split
  · refine ⟨h.beneath, fun k => ?_, fun x hx => ?_⟩
    · simp only [upd]
      split
      · exact ⟨h0, h1⟩
      · exact h.now k
    · rcases List.mem_append.1 hx with hx | hx
      · exact h.was x hx
      · simp at hx
        subst hx
        have := h.now i.toNat
        exact ⟨by omega, this.1, this.2⟩
  · exact h

theorem Sh.Ok.get {S : Sh} (h : S.Ok) (i : Int) : 0 ≤ S.get i ∧ S.get i < 18446744073709551616 := by
  unfold Sh.get
  split
  · exact h.now _
  · omega

theorem Sh.put_was_le (S : Sh) (i v : Int) : (S.put i v).was.length ≤ S.was.length + 1 := by
  unfold Sh.put
  split <;> simp

/-- A put undone. -/
def Sh.undo (S : Sh) : Sh := match S.was.getLast? with
  | none => S
  | some x => { S with now := upd S.now x.1 x.2, was := S.was.dropLast }

def Sh.undoN (S : Sh) : Nat → Sh
  | 0 => S
  | n + 1 => (S.undo).undoN n

/-- All puts behind a mark undone. -/
def Sh.back (S : Sh) (m : Int) : Sh := S.undoN (S.was.length - m.toNat)

theorem Sh.undo_was (S : Sh) : S.undo.was = S.was.dropLast := by
  unfold Sh.undo
  cases h : S.was.getLast? with
  | none => simp only; rw [List.getLast?_eq_none_iff.1 h]; rfl
  | some x => rfl

theorem Sh.Ok.undo {S : Sh} (h : S.Ok) : S.undo.Ok := by
  unfold Sh.undo
  cases hl : S.was.getLast? with
  | none => exact h
  | some x =>
    have hx := h.was x (List.mem_of_getLast? hl)
    refine ⟨h.beneath, fun k => ?_, fun y hy => h.was y (List.dropLast_subset _ hy)⟩
    simp only [upd]
    split
    · exact hx.2
    · exact h.now k

/-- A sheet over words. -/
def Sh.new (l : List Int) : Sh := ⟨fun i => if i < 3128 then l.getD i 0 else 0, fun i => if i < 3128 then l.getD i 0 else 0, []⟩

theorem Sh.Ok.new {l : List Int} (h : ∀ z ∈ l, 0 ≤ z ∧ z < 18446744073709551616) : (Sh.new l).Ok := by
  have : ∀ i : Nat, 0 ≤ (if i < 3128 then l.getD i 0 else 0) ∧ (if i < 3128 then l.getD i 0 else 0) < 18446744073709551616 := by
    intro i
    split
    · by_cases hi : i < l.length
      · rw [List.getD_eq_getElem?_getD, List.getElem?_eq_getElem hi]
        exact h _ (List.getElem_mem hi)
      · rw [List.getD_eq_getElem?_getD, List.getElem?_eq_none (by omega)]
        simp
    · omega
  exact ⟨this, this, by simp [Sh.new]⟩

end Go.Proofs.Ytfpnmphmngdkdaa
