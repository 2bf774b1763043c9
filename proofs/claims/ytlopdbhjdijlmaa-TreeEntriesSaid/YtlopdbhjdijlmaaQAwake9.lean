/-
  imagolaw09.awake: a contract. No condition.
-/
import Derived.Test.YtlopdbhjdijlmaaQTree9M

namespace Go.Proofs.Ytlopdbhjdijlmaa
open Go.ChangeShapes Go.WideShapes Go.ChangeAt Go.RowKit
set_option linter.unusedSimpArgs false
set_option linter.unusedVariables false

def n09 : Ino := ⟨0, 2, 0, 0, List.replicate 13 0, []⟩
def x09 : En := ⟨⟨#[97]⟩, 7⟩
theorem sortP_nil : SortP [] := List.Pairwise.nil
theorem with09 : withE n09.ents x09 = [x09] := by
  obtain ⟨A, D, C, h⟩ := parts [] sortP_nil x09.name
  have e := h.eq
  have hA : A = [] := by cases A with | nil => rfl | cons a r => cases e
  subst hA
  have hC : C = [] := by
    cases D with
    | nil => cases C with | nil => rfl | cons a r => cases e
    | cons a r => cases e
  subst hC
  exact h.put x09 rfl
theorem find09 : hasE [x09] x09.name = true ∧ findE [x09] x09.name = 7 := by
  have hs : SortP [x09] := by unfold SortP; simp
  obtain ⟨A, D, C, h⟩ := parts [x09] hs x09.name
  have hr : refL [x09] x09.name = 7 := by rw [refL_cons, eqN_self, if_pos rfl]; rfl
  rcases h.ref with ⟨h1, h2⟩ | ⟨h1, h2, -⟩
  · exact ⟨h1, by rw [← h2, hr]⟩
  · rw [hr] at h2; cases h2

set_option maxRecDepth 20000 in
set_option maxHeartbeats 2000000 in
theorem awake9 (w : World) : Calls Try.prog 9 #[] w fun e w' => e = .returned (.bool true) ∧ Below w.heap.size w w' := by
  have hw := with9 (w := w) (n := n09) (ev := .slice none 0 0) x09 (by rfl) (HoldsE.nil w) (Nat.zero_le _) (sortE_of sortP_nil)
  rw [with09] at hw
  obtain ⟨m, hm⟩ : ∃ m, m = entsI n09 [x09] := ⟨_, rfl⟩
  rw [← hm] at hw
  have hm13 : m.bl.length = 13 := by rw [hm]; rfl
  have hms : m.size = 1 := by rw [hm]; rfl
  have hme : m.ents = [x09] := by rw [hm]; rfl
  have HW : Hid (Calls Try.prog 14 #[.agg #[.int .i64 0, .int .i64 2, .int .i64 0, .int .i64 0, .int .i64 0, .int .i64 0, .int .i64 0, .int .i64 0, .int .i64 0, .int .i64 0, .int .i64 0, .int .i64 0, .int .i64 0, .int .i64 0, .int .i64 0, .int .i64 0, .int .i64 0, .slice none 0 0], .agg #[.string ⟨#[97]⟩, .int .i64 7]] w fun e w' => ∃ ao c, e = .returned (.agg (inoL m (.slice ao 1 c)).toArray) ∧ HoldsE w' (.slice ao 1 c) m.ents ∧ Below w.heap.size w w') := by
    have e : inoA n09 (.slice none 0 0) = #[.int .i64 0, .int .i64 2, .int .i64 0, .int .i64 0, .int .i64 0, .int .i64 0, .int .i64 0, .int .i64 0, .int .i64 0, .int .i64 0, .int .i64 0, .int .i64 0, .int .i64 0, .int .i64 0, .int .i64 0, .int .i64 0, .int .i64 0, .slice none 0 0] := inoA_lit0 0 2 0 0 _
    rw [e] at hw
    refine hw.mono ?_
    rintro e w' ⟨v', rfl, ho, hb⟩
    have hh := holdsE_of_own (l := [x09]) rfl ho
    rw [← hme] at hh
    have hh2 := hh
    obtain ⟨ao, c, rfl, -⟩ := hh2
    rw [hme] at hh ⊢
    exact ⟨ao, c, rfl, hh, hb⟩
  have HF : Hid (∀ wx ao c, HoldsE wx (.slice ao 1 c) m.ents → Calls Try.prog 13 #[.agg (inoL m (.slice ao 1 c)).toArray, .string ⟨#[97]⟩] wx fun e w' => e = .returned (.tuple #[.int .i64 7, .bool true]) ∧ Below wx.heap.size wx w') := fun wx ao c he => by
    have h := find9 (n := m) x09.name hm13 he (by rw [hme]; decide) (by rw [hme]; exact sortE_of (by unfold SortP; simp))
    rw [hme, find09.1, find09.2] at h
    exact h
  have HM13 := Lib.hid hm13
  have HMS := Lib.hid hms
  clear hw hm hm13 hms hme
  go_enter Try.func9, Try.ntmps9
  go_wp2_with fail
  refine HW.out.mono ?_
  rintro e w7 ⟨ao, c, rfl, hh, hb7⟩
  have HH := Lib.hid hh
  have HB7 := Lib.hid hb7
  clear hh hb7
  have hszA : (inoL m (.slice ao 1 c)).toArray.size = 18 := by rw [List.size_toArray]; exact inoL_len HM13.out _
  have HISZ : Hid ((Try.prog.info? 25).map (·.size) = some (inoL m (.slice ao 1 c)).toArray.size) := by unfold Hid; rw [hszA]; exact Try.info18
  have HISM : Hid ((Try.prog.info? 25).map (·.size) = some (inoL m (.slice ao 1 c)).length) := by unfold Hid; rw [inoL_len HM13.out]; exact Try.info18
  have HONE : Hid ((inoL m (.slice ao 1 c)).toArray.all (·.oneCell') = true) := all_oneCell_toArray (inoL_one rfl)
  have HTH : Hid ((w7.alloc (.cells z18 25)).there w7.heap.size 0 (inoL m (.slice ao 1 c)).toArray.size) := by unfold Hid; rw [hszA]; exact ino_there w7 _
  have HROW := Lib.hid (ino_row w7 25 (inoL m (.slice ao 1 c)) (inoL_len HM13.out _))
  clear hszA
  go_upto_region 2 with (with_reducible refine wpList_store_mid (op := ⟨none, _, _, _, _, _⟩) rfl 25 _ _ rfl w7.heap.size 0 (inoL m (.slice ao 1 c)).toArray rfl rfl HTH.out HISZ.out HONE.out ?_)
  try simp only [Act.put]
  have HIX : Hid (InoB ((w7.alloc (.cells z18 25)).setCells w7.heap.size 0 (inoL m (.slice ao 1 c))) w7.heap.size m (.slice ao 1 c)) := ⟨HROW.out.1, HM13.out⟩
  have HMX : Hid (Mod nob w7 ((w7.alloc (.cells z18 25)).setCells w7.heap.size 0 (inoL m (.slice ao 1 c)))) := mod_of_below HROW.out.2
  clear HROW HTH HISZ HONE
  generalize (w7.alloc (.cells z18 25)).setCells w7.heap.size 0 (inoL m (.slice ao 1 c)) = w8 at *
  obtain ⟨X, hX⟩ : ∃ X, X = w7.heap.size := ⟨_, rfl⟩
  rw [← hX] at HIX ⊢
  clear hX
  have HRX := Lib.hid (HIX.out.at.range HM13.out)
  have HFX := Lib.hid (HF.out w8 ao c (HH.out.mod HMX.out (fun _ _ _ h => h)))
  go_upto_region 3 with (first
    | (with_reducible refine wpList_load_mid (op := ⟨some 8, _, _, _, _, _⟩) rfl 25 _ rfl X 0 rfl (inoL m (.slice ao 1 c)) _ HRX.out Try.underlying25 rfl HISM.out ?_)
    | (go_at_call 13; (with_reducible refine HFX.out.mono ?_); (rintro e w9 ⟨rfl, hb9⟩)))
  have c3 := (HIX.out.mod (mod_of_below hb9) (fun h => h)).at.c3
  rw [HMS.out, Nat.zero_add] at c3
  have HB9 : Hid (Below w.heap.size w w9) := HB7.out.trans ((nob_mod_below (HMX.out.step (mod_of_below hb9) (fun _ h => h))).mono HB7.out.size)
  clear hb9 HIX HRX HFX HMX
  go_wp2_with fail
  go_ret
  exact ⟨rfl, HB9.out⟩
end Go.Proofs.Ytlopdbhjdijlmaa
