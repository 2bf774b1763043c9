/-
  inode.Free, palloc.Give: contracts; what inode.Get tells, plainly. No condition but the sheet, and bounds.
-/
import Derived.Test.YtlopdbhjdijlmaaQRd2M
import Derived.Test.YtlopdbhjdijlmaaQRd1M

namespace Go.Proofs.Ytlopdbhjdijlmaa
open Go.ChangeShapes Go.WideShapes Go.ChangeAt Go.RowKit
set_option linter.unusedSimpArgs false
set_option linter.unusedVariables false

/-- Are an inode's words noughts? -/
def ZeroTo (S : Sh) (at_ : Int) (m : Nat) : Prop := ∀ j : Nat, j < m → S.get (at_ + (j : Int)) = 0
open Classical in
noncomputable def freeI (S : Sh) (i : Int) : Bool := decide ((0 ≤ i ∧ i < 32) ∧ ZeroTo S (824 + i * 8) 8)
open Classical in
theorem freeI_iff (S : Sh) (i : Int) : freeI S i = true ↔ (0 ≤ i ∧ i < 32) ∧ ZeroTo S (824 + i * 8) 8 := by unfold freeI; exact decide_eq_true_iff
open Classical in
theorem freeI_false {S : Sh} {i : Int} (h : ¬ ((0 ≤ i ∧ i < 32) ∧ ZeroTo S (824 + i * 8) 8)) : freeI S i = false := by unfold freeI; exact decide_eq_false h

noncomputable def rdI (S : Sh) (i : Int) : Option (Ino × List Nat) := if S.get (824 + i * 8) % 256 = 2 then rd2 S i else rd1 S i
noncomputable def getE (S : Sh) (i : Int) : Int := if i < 0 ∨ 32 ≤ i then 1 else if freeI S i = true then 2 else match rdI S i with | none => 10 | some _ => 0
noncomputable def getR (S : Sh) (i : Int) : Option (Ino × List Nat) := if i < 0 ∨ 32 ≤ i then none else if freeI S i = true then none else rdI S i

def GetPost (w : World) (r : Option (Ino × List Nat)) (e0 : Int) (e : Ending) (w' : World) : Prop :=
  Below w.heap.size w w' ∧ match r with
  | none => e = .returned (.tuple #[.agg (inoA ino0 (.slice none 0 0)), .slice none 0 0, .int .i64 e0])
  | some (n, all) => ∃ ev bv, e = .returned (.tuple #[.agg (inoA n ev), bv, .int .i64 e0]) ∧ HoldsE w' ev n.ents ∧ HoldsN w' bv all ∧ (∀ g, ev.ownBlock = some g → w.heap.size ≤ g) ∧ (∀ g, bv.ownBlock = some g → w.heap.size ≤ g)

set_option maxRecDepth 20000 in
set_option maxHeartbeats 2000000 in
theorem ino_free {w : World} {p : Nat} {D : Nat → Prop} {S : Sh} (h : SheetAt w p D S) (i : Int) :
    Calls Try.prog 27 #[.pointer (some ⟨p, 0, none⟩), .int .i64 i] w fun e w' => e = .returned (.bool (freeI S i)) ∧ w = w' := by
  have HIN := Lib.hid (inode_any i w)
  have HG : Hid (∀ i : Int, Calls Try.prog 37 #[.pointer (some ⟨p, 0, none⟩), .int .i64 i] w fun e w' => e = .returned (.int .u64 (S.get i)) ∧ w = w') := fun i => sheet_get h i
  have HOK := Lib.hid h.ok
  clear h
  by_cases hi : i < 0 ∨ 32 ≤ i
  · have hr : freeI S i = false := freeI_false (fun h => by omega)
    rw [hr]
    have HIN2 := HIN
    unfold Hid at HIN2
    rw [if_pos hi] at HIN2
    have HIN3 := Lib.hid HIN2
    clear HIN HIN2 hr hi
    go_enter Try.func27, Try.ntmps27
    go_wp2_with (go_at_call 53; refine HIN3.out.mono ?_; rintro e w' ⟨rfl, rfl⟩)
    go_ret
    exact ⟨rfl, rfl⟩
  · have hi2 : 0 ≤ i ∧ i < 32 := by omega
    obtain ⟨at_, hat⟩ : ∃ at_ : Nat, at_ = (824 + i * 8).toNat := ⟨_, rfl⟩
    have hati : 824 + i * 8 = (at_ : Int) := by omega
    have hr : ∀ b : Bool, (b = true ↔ ZeroTo S (at_ : Int) 8) → freeI S i = b := fun b hb => by
      cases b with
      | true => exact (freeI_iff S i).2 ⟨hi2, by rw [hati]; exact hb.1 rfl⟩
      | false => exact freeI_false (fun h => by have := hb.2 (by rw [← hati]; exact h.2); cases this)
    have HIN2 := HIN
    unfold Hid at HIN2
    rw [if_neg hi, hati] at HIN2
    have HIN3 := Lib.hid HIN2
    have HRR := Lib.hid hr
    have ha0 : (0 : Int) ≤ (at_ : Int) := Int.natCast_nonneg _
    have ha1 : (at_ : Int) ≤ 1072 := by omega
    clear HIN HIN2 hr hi hi2 hat hati
    go_enter Try.func27, Try.ntmps27
    go_wp2_with fail
    refine HIN3.out.mono ?_
    rintro e w' ⟨rfl, rfl⟩
    go_wp2_with fail
    go_loopg [11] 8 (fun gk iv wr => ∃ k : Nat, k + gk = 8 ∧ iv = .int .i64 k ∧ Hid (ZeroTo S (at_ : Int) k) ∧ w = wr)
    case atStart => exact ⟨0, by omega, rfl, fun j hj => by omega, rfl⟩
    case round =>
      obtain ⟨k, hk, rfl, HZ, rfl⟩ := hrel
      by_cases hlt : k < 8
      · have hki : (k : Int) < 8 := by omega
        have HGK := Lib.hid (HG.out ((at_ : Int) + (k : Int)))
        have hx := HOK.out.get ((at_ : Int) + (k : Int))
        obtain ⟨x, hxx⟩ : ∃ x, x = S.get ((at_ : Int) + (k : Int)) := ⟨_, rfl⟩
        rw [← hxx] at HGK hx
        have HXX := Lib.hid hxx
        obtain ⟨x0, x1⟩ := hx
        clear hxx
        by_cases hz : x = 0
        · subst hz
          go_wp2_with (go_at_call 37; refine HGK.out.mono ?_; rintro e w' ⟨rfl, rfl⟩)
          go_roundg (gk - 1)
          case measure => omega
          case rel =>
            refine ⟨k + 1, by omega, by go_num, fun j hj => ?_, rfl⟩
            by_cases e : j = k
            · subst e; exact HXX.out.symm
            · exact HZ.out j (by omega)
        · have hzb : (x != 0) = true := by simpa using hz
          have HRES : Hid (freeI S i = false) := HRR.out false ⟨fun h => (by cases h), fun h => absurd (HXX.out.trans (h k hlt)) hz⟩
          go_wp2_with (go_at_call 37; refine HGK.out.mono ?_; rintro e w' ⟨rfl, rfl⟩)
          go_ret
          rw [HRES.out]
          exact ⟨rfl, rfl⟩
      · have hge : ¬ (k : Int) < 8 := by omega
        obtain rfl : k = 8 := by omega
        have HRES : Hid (freeI S i = true) := HRR.out true ⟨fun _ => HZ.out, fun _ => rfl⟩
        go_wp2_with fail
        go_ret
        rw [HRES.out]
        exact ⟨rfl, rfl⟩

/-- Blocks given back. -/
def giveS (S : Sh) : List Nat → Sh
  | [] => S
  | b :: l => giveS (setB S b false) l
def giveTo (S : Sh) (l : List Nat) : Nat → Sh
  | 0 => S
  | k + 1 => setB (giveTo S l k) (l.getD k 0) false
theorem giveS_snoc (l : List Nat) (x : Nat) : ∀ S : Sh, giveS S (l ++ [x]) = setB (giveS S l) x false := by
  induction l with
  | nil => intro S; rfl
  | cons a l ih => intro S; exact ih _
theorem giveTo_eq (S : Sh) (l : List Nat) : ∀ k, k ≤ l.length → giveTo S l k = giveS S (l.take k) := by
  intro k
  induction k with
  | zero => intro _; rfl
  | succ k ih =>
    intro hk
    simp only [giveTo]
    rw [ih (by omega), List.take_succ_eq_append_getElem (by omega), giveS_snoc, List.getD_eq_getElem?_getD, List.getElem?_eq_getElem (by omega)]
    rfl
theorem giveTo_was (S : Sh) (l : List Nat) (k : Nat) : (giveTo S l k).was.length ≤ S.was.length + k := by
  induction k with
  | zero => exact Nat.le_refl _
  | succ k ih => have := setB_was (giveTo S l k) (l.getD k 0) false; simp only [giveTo]; omega
theorem giveS_was (l : List Nat) (S : Sh) : (giveS S l).was.length ≤ S.was.length + l.length := by
  have h1 := giveTo_was S l l.length
  rw [giveTo_eq S l l.length (Nat.le_refl _), List.take_length] at h1
  exact h1

set_option maxRecDepth 20000 in
set_option maxHeartbeats 2000000 in
theorem give_any {w : World} {p : Nat} {D : Nat → Prop} {S : Sh} (h : SheetAt w p D S) {bv : Value} {own : List Nat} (hlen : S.was.length + own.length < 1099511627776) (hv : HoldsN w bv own) (hbd : own ≠ [] → ∀ g, bv.ownBlock = some g → ¬ D g) (hob : ∀ b ∈ own, b < 256) :
    Calls Try.prog 55 #[.pointer (some ⟨p, 0, none⟩), bv] w fun e w' => e = .returned (.tuple #[]) ∧ ShStep w p D w' (giveS S own) := by
  have HSH := Lib.hid h
  have HV := Lib.hid hv
  have HBD := Lib.hid hbd
  have HOB := Lib.hid hob
  have HLN := Lib.hid hlen
  obtain ⟨ba, bc, rfl, b1, b2, -, -⟩ := hv
  obtain ⟨M, hM⟩ : ∃ M, M = own.length := ⟨_, rfl⟩
  rw [← hM] at b1 HV HBD HLN ⊢
  have HML := Lib.hid hM
  unfold maxLen at b2
  have HEND : Hid (giveTo S own M = giveS S own) := by unfold Hid; rw [hM, giveTo_eq S own _ (Nat.le_refl _), List.take_length]
  clear h hbd hob hlen hM
  go_enter Try.func55, Try.ntmps55
  go_wp2_with fail
  go_loopg [8] M (fun gk iv wr => ∃ k : Nat, k + gk = M ∧ iv = .int .i64 k ∧ Hid (ShStep w p D wr (giveTo S own k)))
  case atStart => exact ⟨0, by omega, rfl, ShStep.start HSH.out⟩
  case round =>
    obtain ⟨k, hk, rfl, HS⟩ := hrel
    by_cases hlt : k < M
    · have hki : (k : Int) < (M : Int) := by omega
      have hlen := HML.out
      obtain ⟨ao', c', e, -, -, -, hcx⟩ := HV.out.mod HS.out.2 HBD.out
      rw [← hlen] at e
      simp only [Value.slice.injEq] at e
      obtain ⟨rfl, -, rfl⟩ := e
      obtain ⟨g, o, rfl, d1⟩ := hcx k (by omega)
      have hx : own.getD k 0 < 256 := HOB.out _ (getD_in0 (by omega))
      have hws := giveTo_was S own k
      have hst : giveTo S own (k + 1) = setB (giveTo S own k) (own.getD k 0) false := rfl
      obtain ⟨x, hxx⟩ : ∃ x, x = own.getD k 0 := ⟨_, rfl⟩
      rw [← hxx] at d1 hx hst
      have HSET := Lib.hid (set_any HS.out.1 (by have := HLN.out; omega) x hx false)
      have HST := Lib.hid hst
      have hxi : (x : Int) < 256 := by omega
      clear hcx hlen hxx hst hws
      go_wp2_with fail
      refine HSET.out.mono ?_
      rintro e w2 ⟨rfl, h2⟩
      have HN2 : Hid (ShStep w p D w2 (giveTo S own (k + 1))) := by
        unfold Hid
        rw [HST.out]
        exact HS.out.step' h2
      clear h2
      go_wp2_with fail
      go_roundg (gk - 1)
      case measure => omega
      case rel => exact ⟨k + 1, by omega, by go_num, HN2⟩
    · have hge : ¬ (k : Int) < (M : Int) := by omega
      obtain rfl : k = M := by omega
      go_wp2_with fail
      go_end0
      refine ⟨rfl, ?_⟩
      rw [← HEND.out]
      exact HS.out
end Go.Proofs.Ytlopdbhjdijlmaa
