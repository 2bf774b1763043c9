/-
  
  Puts, and taking them back: plain lemmas. Nothing is assumed.
-/
import Derived.Test.YtlopdbhjdijlmaaQTxM
import Derived.RegionTactic
import Derived.BigRegion
import Derived.Test.YtlopdbhjdijlmaaQFree8

namespace Go.Proofs.Ytlopdbhjdijlmaa
open Go.ChangeShapes Go.WideShapes Go.ChangeAt Go.RowKit
set_option linter.unusedSimpArgs false
set_option linter.unusedVariables false

theorem pairCells_take (l : List (Nat × Int)) (x : Nat × Int) : (pairCells (l ++ [x])).take (l.length * 2) = pairCells l := by
  rw [pairCells_append, List.take_left']
  have : ∀ l : List (Nat × Int), (pairCells l).length = l.length * 2 := by
    intro l
    induction l with
    | nil => rfl
    | cons x l ih =>
      have : pairCells (x :: l) = [.int .i64 x.1, .int .u64 x.2] ++ pairCells l := rfl
      rw [this, List.length_append, ih]
      simp; omega
  exact this l

theorem pairCells_len (l : List (Nat × Int)) : (pairCells l).length = l.length * 2 := by
  induction l with
  | nil => rfl
  | cons x l ih =>
    have : pairCells (x :: l) = [.int .i64 x.1, .int .u64 x.2] ++ pairCells l := rfl
    rw [this, List.length_append, ih]
    simp; omega

/-- The last put taken off the list. -/
theorem SheetR.cut {w : World} {p : Nat} {D : Nat → Prop} {S : Sh} {pb nb cb cn g cap : Nat} {init : List (Nat × Int)} {x : Nat × Int} (hw : S.was = init ++ [x])
    (h : SheetR w p D S pb nb cb cn (.slice (some ⟨g, 0, none⟩) (init.length + 1) cap)) :
    SheetR (w.setCell ⟨p, 2, none⟩ (.slice (some ⟨g, 0, none⟩) init.length cap)) p D { S with was := init } pb nb cb cn (.slice (some ⟨g, 0, none⟩) init.length cap) := by
  have hm : Mod (fun b => b = p) w (w.setCell ⟨p, 2, none⟩ (.slice (some ⟨g, 0, none⟩) init.length cap)) := (Mod.refl (fun b => b = p) w).setCell (a := ⟨p, 2, none⟩) (.inl rfl) _
  have hg := h.wvp g rfl
  have hwas := h.was
  have hok := h.ok.was
  rw [hw] at hwas hok
  have hown : w.ownsRow 0 67 2 (.slice (some ⟨g, 0, none⟩) init.length cap) init.length (pairCells init) := by
    refine ⟨pairCells_len init, .inr ?_⟩
    rcases hwas.2 with ⟨hv, _⟩ | ⟨g', cap', cur, hv, h1, h2, h3, h4, h5, h6⟩
    · cases hv
    · simp only [Value.slice.injEq, Option.some.injEq, Addr.mk.injEq, and_true] at hv
      obtain ⟨rfl, -, rfl⟩ := hv
      refine ⟨g, cap, cur, rfl, Nat.zero_le _, h2, ?_, h4, h5, ?_⟩
      · simp at h3; omega
      · rw [← pairCells_take init x, ← h6, List.take_take]
        congr 1
        simp
  refine ⟨head_set h.head, h.beneath.mod hm h.pbp, h.now.mod hm h.nbp, hm.own hown (fun b hb e => by cases hb; exact hg.1 e), ⟨h.ok.beneath, h.ok.now, fun y hy => hok y (by simp [hy])⟩, h.pbp, h.nbp, h.npb, ?_, h.dp, h.dpb, h.dnb, ?_, fun b hb => by simpa [World.setCell] using h.lt b hb⟩
  · intro b hb; cases hb; exact hg
  · intro b hb; cases hb; exact h.dw g rfl

theorem SheetR.drew {w : World} {p : Nat} {D : Nat → Prop} {S : Sh} {pb nb cb cn : Nat} {wv : Value} (h : SheetR w p D S pb nb cb cn wv) : SheetR w.drew p D S pb nb cb cn wv :=
  ⟨h.head, h.beneath, h.now, h.was, h.ok, h.pbp, h.nbp, h.npb, h.wvp, h.dp, h.dpb, h.dnb, h.dw, h.lt⟩

theorem undo_snoc {S : Sh} {init : List (Nat × Int)} {x : Nat × Int} (hw : S.was = init ++ [x]) : S.undo = { S with now := upd S.now x.1 x.2, was := init } := by
  unfold Sh.undo
  rw [hw]
  simp

set_option maxRecDepth 20000 in
set_option maxHeartbeats 1000000 in
theorem sheet_back {w : World} {p : Nat} {D : Nat → Prop} {S : Sh} (h : SheetAt w p D S) (hlen : S.was.length < 1099511627776) (mark : Int) :
    Calls Try.prog 58 #[.pointer (some ⟨p, 0, none⟩), .int .i64 mark] w fun e w' => e = .returned (.tuple #[]) ∧ SheetAt w' p D (S.back mark) ∧ Mod D w w' := by
  obtain ⟨M, hM⟩ : ∃ M : Nat, M = mark.toNat := ⟨_, rfl⟩
  have hbk : S.back mark = S.undoN (S.was.length - M) := by rw [hM]; rfl
  have hc2 : ∃ ao cap, w.cell? ⟨p, 2, none⟩ = some (.slice ao S.was.length cap) := by
    obtain ⟨pb, nb, cb, cn, wv, h⟩ := h
    obtain ⟨ao, cap, hwv, _⟩ := own_shape h.was
    exact ⟨ao, cap, by rw [cell_of_row _ _ _ _ _ _ h.head, ← hwv]; rfl⟩
  obtain ⟨ao, cap, hc2⟩ := hc2
  have HS := Lib.hid h
  have HBK := Lib.hid hbk
  obtain ⟨m, hm⟩ : ∃ m, m = S.was.length := ⟨_, rfl⟩
  rw [← hm] at hc2 hlen
  have HM := Lib.hid hm
  clear h hbk hm
  go_enter Try.func58, Try.ntmps58
  go_wp2
  go_loopg [4] m (fun g i wr => ∃ (k : Nat) (T : Sh), k = g ∧ i = .int .i64 ((k : Int) - 1) ∧ k ≤ m ∧ Hid (k = T.was.length) ∧ Hid (SheetAt wr p D T) ∧ Hid (Mod D w wr) ∧ Hid (T.undoN (k - M) = S.undoN (m - M)))
  case atStart => exact ⟨m, S, by omega, rfl, by omega, HM.out, HS.out, Mod.refl _ _, rfl⟩
  case round =>
    obtain ⟨k, T, rfl, rfl, hkm, HK, HST, HMD, HU⟩ := hrel
    by_cases hlt : M < k
    · obtain ⟨init, x, hw⟩ : ∃ init x, T.was = init ++ [x] := by
        have hne : T.was ≠ [] := fun e => by have := HK.out; rw [e] at this; simp at this; omega
        exact ⟨_, _, (List.dropLast_concat_getLast hne).symm⟩
      have hlen1 : init.length + 1 = k := by have := HK.out; rw [hw] at this; simpa using this.symm
      obtain ⟨n, hn⟩ : ∃ n, n = init.length := ⟨_, rfl⟩
      rw [← hn] at hlen1
      obtain ⟨pb, nb, cb, cn, wv, hr⟩ := id HST.out
      have hx := hr.ok.was x (by rw [hw]; simp)
      obtain ⟨g, cap', rfl, -, -, hcap, -⟩ := own_some hr.was (by rw [hw]; simp)
      have hwl : T.was.length = n + 1 := by rw [hw, hn]; simp
      rw [hwl] at hr hcap
      have hd1 : wr.cell? ⟨p, 1, none⟩ = some (.slice (some ⟨nb, 0, none⟩) 3128 cn) := by rw [cell_of_row _ _ _ _ _ _ hr.head]; rfl
      have hd2 : wr.cell? ⟨p, 2, none⟩ = some (.slice (some ⟨g, 0, none⟩) (n + 1) cap') := by rw [cell_of_row _ _ _ _ _ _ hr.head]; rfl
      have hfz : wr.frozen? ⟨p, 2, none⟩ = false := frozen_of_row _ _ _ _ _ hr.head
      have hcs := hr.was
      rw [hwl, hw] at hcs
      have hx1 : wr.cell? ⟨g, n * 2, none⟩ = some (.int .i64 (x.1 : Nat)) := by
        have := hcs.cells rfl (n * 2) (.int .i64 (x.1 : Nat)) (by rw [pairCells_append, List.getElem?_append_right (by rw [pairCells_len, ← hn]; omega), pairCells_len, ← hn, Nat.sub_self]; rfl)
        rwa [Addr.add_lit, Nat.zero_add] at this
      have hx2 : wr.cell? ⟨g, n * 2 + 1, none⟩ = some (.int .u64 x.2) := by
        have := hcs.cells rfl (n * 2 + 1) (.int .u64 x.2) (by rw [pairCells_append, List.getElem?_append_right (by rw [pairCells_len, ← hn]; omega), pairCells_len, ← hn, Nat.add_sub_cancel_left]; rfl)
        rwa [Addr.add_lit, Nat.zero_add] at this
      have hd3 := hr.now.cell x.1 hx.1
      have hd4 := hr.now.frozen x.1
      have HR := Lib.hid hr
      have HW := Lib.hid hw
      have hx0 := hx.1
      obtain ⟨a, v⟩ := x
      simp only at hx0 hx1 hx2 hd3 hd4
      have HX := Lib.hid hx
      have HN := Lib.hid hn
      subst hlen1
      clear hcs hr hw hwl hx hn
      rcases (show (0 ≤ mark ∧ mark ≤ (n : Int)) ∨ (mark < 0 ∧ 0 ≤ (n : Int)) by omega) with ⟨hm0, hm1⟩ | ⟨hm0, hm1⟩
      all_goals
        go_wp2
        go_region
        have hr5 := (HR.out.store a v HX.out.2.1 HX.out.2.2).drew
        have hm5 : Mod D wr (wr.setCell ⟨nb, a, none⟩ (.int .u64 v)).drew := ((Mod.refl D wr).setCell (a := ⟨nb, a, none⟩) (.inl HR.out.dnb) _).drew
        generalize (wr.setCell ⟨nb, a, none⟩ (.int .u64 v)).drew = w5 at hr5 hm5 ⊢
        have hd6 : w5.cell? ⟨p, 2, none⟩ = some (.slice (some ⟨g, 0, none⟩) (n + 1) cap') := by rw [cell_of_row _ _ _ _ _ _ hr5.head]; rfl
        have hf6 : w5.frozen? ⟨p, 2, none⟩ = false := frozen_of_row _ _ _ _ _ hr5.head
        have HR5 := Lib.hid hr5
        have HM5 := Lib.hid hm5
        clear hr5 hm5 hd1 hd2 hfz hx1 hx2 hd3 hd4
        go_wp2
        go_roundg (n)
        case measure => omega
        case rel =>
          have e1 := HR5.out
          rw [HN.out] at e1 ⊢
          have e2 := SheetR.cut (S := { T with now := upd T.now a v }) (init := init) (x := (a, v)) HW.out e1
          have e3 := undo_snoc HW.out
          refine ⟨init.length, T.undo, rfl, (by simp), by have := HN.out; omega, (by rw [e3]; exact rfl), ?_, ?_, ?_⟩
          · rw [e3]; exact ⟨_, _, _, _, _, e2⟩
          · exact HMD.out.trans ((HM5.out.setCell (a := ⟨p, 2, none⟩) (.inl HR.out.dp) _).mono (fun b _ hb => .inl hb))
          · have hu := HU.out
            rw [show n + 1 - M = (n - M) + 1 by omega, HN.out] at hu
            exact hu
    · have hkM : k ≤ M := by omega
      rcases (show (0 ≤ mark ∧ (k : Int) ≤ mark) ∨ (mark < 0 ∧ k = 0) by omega) with ⟨hm0, hm1⟩ | ⟨hm0, rfl⟩
      all_goals
        go_wp2
        go_end0
        have hu := HU.out
        rw [show _ - M = 0 by omega] at hu
        have hb := HBK.out
        rw [← HM.out] at hb
        rw [hb, ← hu]
        exact ⟨rfl, HST.out, HMD.out⟩
end Go.Proofs.Ytlopdbhjdijlmaa

namespace Go.Proofs.Ytlopdbhjdijlmaa
set_option linter.unusedVariables false
set_option linter.unusedSimpArgs false

/-- Puts, one behind the other. -/
def Sh.puts (S : Sh) : List (Int × Int) → Sh
  | [] => S
  | x :: l => (S.put x.1 x.2).puts l

theorem Sh.puts_snoc (S : Sh) (l : List (Int × Int)) (x : Int × Int) : S.puts (l ++ [x]) = (S.puts l).put x.1 x.2 := by
  induction l generalizing S with
  | nil => rfl
  | cons y l ih => exact ih _

theorem undo_put (S : Sh) (i v : Int) (h : 0 ≤ i ∧ i < 3128) : (S.put i v).undo = S := by
  have e : S.put i v = { S with now := upd S.now i.toNat v, was := S.was ++ [(i.toNat, S.now i.toNat)] } := by
    unfold Sh.put
    rw [if_pos h]
  rw [e, undo_snoc (S := { S with now := upd S.now i.toNat v, was := S.was ++ [(i.toNat, S.now i.toNat)] }) rfl]
  have : upd (upd S.now i.toNat v) i.toNat (S.now i.toNat) = S.now := by
    funext k
    simp only [upd]
    split
    · rename_i h; rw [h]
    · rfl
  simp only [this]

/-- All puts in range. -/
def InR (l : List (Int × Int)) : Prop := ∀ x ∈ l, 0 ≤ x.1 ∧ x.1 < 3128

theorem puts_was (S : Sh) (l : List (Int × Int)) (h : InR l) : (S.puts l).was.length = S.was.length + l.length := by
  induction l generalizing S with
  | nil => rfl
  | cons x l ih =>
    have hx := h x (by simp)
    rw [Sh.puts, ih _ (fun y hy => h y (by simp [hy]))]
    unfold Sh.put
    rw [if_pos hx]
    simp
    omega

theorem undoN_puts (S : Sh) (n : Nat) : ∀ (l : List (Int × Int)), InR l → n ≤ l.length → (S.puts l).undoN n = S.puts (l.take (l.length - n)) := by
  induction n with
  | zero => intro l _ _; rw [Nat.sub_zero, List.take_length]; rfl
  | succ n ih =>
    intro l hl hn
    have hne : l ≠ [] := fun e => by rw [e] at hn; simp at hn
    obtain ⟨init, x, rfl⟩ : ∃ init x, l = init ++ [x] := ⟨_, _, (List.dropLast_concat_getLast hne).symm⟩
    rw [Sh.puts_snoc]
    show (((S.puts init).put x.1 x.2).undo).undoN n = _
    rw [undo_put _ _ _ (hl x (by simp)), ih init (fun y hy => hl y (by simp [hy])) (by simp at hn; omega)]
    congr 1
    rw [List.length_append, List.take_append_of_le_length (by simp only [List.length_singleton]; omega)]
    congr 1
    simp


theorem setB_puts (S : Sh) (b : Nat) (hb : b < 256) (u : Bool) : ∃ L, InR L ∧ setB S b u = S.puts L := by
  unfold setB
  split
  · exact ⟨[], fun x hx => (by cases hx), rfl⟩
  · refine ⟨[(((816 + b / 64 : Nat) : Int), (flipW S b : Nat))], fun x hx => ?_, by simp only [Sh.puts]⟩
    rw [List.mem_singleton] at hx
    rw [hx]
    dsimp only
    omega
theorem Sh.puts_append (S : Sh) (l m : List (Int × Int)) : S.puts (l ++ m) = (S.puts l).puts m := by
  induction l generalizing S with
  | nil => rfl
  | cons x l ih => exact ih _
theorem giveS_puts (l : List Nat) (hl : ∀ b ∈ l, b < 256) : ∀ S : Sh, ∃ L, InR L ∧ giveS S l = S.puts L := by
  induction l with
  | nil => intro S; exact ⟨[], fun x hx => (by cases hx), rfl⟩
  | cons b l ih =>
    intro S
    obtain ⟨L1, h1, e1⟩ := setB_puts S b (hl b (by simp)) false
    obtain ⟨L2, h2, e2⟩ := ih (fun c hc => hl c (by simp [hc])) (setB S b false)
    refine ⟨L1 ++ L2, fun x hx => (List.mem_append.1 hx).elim (h1 x) (h2 x), ?_⟩
    show giveS (setB S b false) l = _
    rw [e2, e1, Sh.puts_append]
theorem giveS_back (l : List Nat) (hl : ∀ b ∈ l, b < 256) (S : Sh) : (giveS S l).back (S.was.length : Nat) = S := by
  obtain ⟨L, hL, e⟩ := giveS_puts l hl S
  unfold Sh.back
  rw [e, puts_was S L hL, Int.toNat_natCast, show S.was.length + L.length - S.was.length = L.length by omega, undoN_puts S L.length L hL (Nat.le_refl _), Nat.sub_self, List.take_zero]
  rfl
end Go.Proofs.Ytlopdbhjdijlmaa
