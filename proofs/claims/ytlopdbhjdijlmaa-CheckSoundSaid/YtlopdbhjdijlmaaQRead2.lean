/-
  What fmt1.apart and fmt1.names answer: contracts. No condition but the bounds that are typed.
  What fmt1.names answers: a contract. No condition but the bounds that are typed.
-/
import Derived.Test.YtlopdbhjdijlmaaQShStep
import Derived.Test.YtlopdbhjdijlmaaQRightM
import Derived.Test.YtlopdbhjdijlmaaQPackM
import Derived.Test.YtlopdbhjdijlmaaQLay1
import Derived.Maps.AppendAt

namespace Go.Proofs.Ytlopdbhjdijlmaa
open Go.ChangeShapes Go.WideShapes Go.ChangeAt Go.RowKit
set_option linter.unusedSimpArgs false
set_option linter.unusedVariables false

/-- None is there twice. -/
def ApartTo (l : List Nat) (m : Nat) : Prop := ∀ i j, i < j → j < m → l.getD i 0 ≠ l.getD j 0
open Classical in
noncomputable def apartB (l : List Nat) : Bool := decide (ApartTo l l.length)
open Classical in
theorem apartB_iff (l : List Nat) : apartB l = true ↔ ApartTo l l.length := by unfold apartB; exact decide_eq_true_iff
theorem apartB_false {l : List Nat} (h : ¬ ApartTo l l.length) : apartB l = false := by
  cases hb : apartB l with
  | false => rfl
  | true => exact absurd ((apartB_iff l).1 hb) h

/-- How often a number is there among the first. -/
def cntN (l : List Nat) (b : Nat) : Nat → Nat
  | 0 => 0
  | k + 1 => cntN l b k + if l.getD k 0 = b then 1 else 0
theorem cntN_le (l : List Nat) (b k : Nat) : cntN l b k ≤ k := by
  induction k with
  | zero => simp [cntN]
  | succ k ih => simp only [cntN]; split <;> omega
theorem cntN_pos (l : List Nat) (b k : Nat) : 0 < cntN l b k ↔ ∃ j, j < k ∧ l.getD j 0 = b := by
  induction k with
  | zero => simp [cntN]
  | succ k ih =>
    simp only [cntN]
    constructor
    · intro h
      by_cases e : l.getD k 0 = b
      · exact ⟨k, by omega, e⟩
      · rw [if_neg e] at h
        obtain ⟨j, h1, h2⟩ := ih.1 h
        exact ⟨j, by omega, h2⟩
    · rintro ⟨j, h1, h2⟩
      by_cases e : j = k
      · subst e
        rw [if_pos h2]
        omega
      · have := ih.2 ⟨j, by omega, h2⟩
        omega
theorem cntN_succ (l : List Nat) (k b : Nat) (hb : l.getD k 0 = b) : (fun i : Nat => if i = b then cntN l b k + 1 else cntN l i k) = fun i : Nat => cntN l i (k + 1) := by
  funext i
  simp only [cntN]
  by_cases e : i = b
  · subst e
    rw [if_pos rfl, if_pos hb]
  · rw [if_neg e, if_neg (fun h => e (by rw [hb] at h; exact h.symm))]
    rfl

set_option maxRecDepth 20000 in
set_option maxHeartbeats 1000000 in
theorem apart_any {w : World} {v : Value} {l : List Nat} (hv : HoldsN w v l) (hl : l.length ≤ 1000) (hb : ∀ b ∈ l, b < 256) :
    Calls Try.prog 97 #[v] w fun e w' => e = .returned (.bool (apartB l)) ∧ Below w.heap.size w w' := by
  have HV := Lib.hid hv
  have HC0 := Lib.hid (Counts.new w)
  obtain ⟨ao, c, rfl, h1, h2, -, -⟩ := hv
  obtain ⟨L, hL⟩ : ∃ L, L = l.length := ⟨_, rfl⟩
  rw [← hL] at h1 HV hl ⊢
  have HL := Lib.hid hL
  have hbk : ∀ k, k < L → l.getD k 0 < 256 := by
    intro k hk
    rw [List.getD_eq_getElem?_getD, List.getElem?_eq_getElem (by rw [← hL]; exact hk)]
    exact hb _ (List.getElem_mem _)
  have HB := Lib.hid hbk
  unfold maxLen at h2
  have HBEL : Hid (Below w.heap.size w (w.alloc (.cells Try.zeroCells140 140))) := (Below.refl _ _).alloc (Nat.le_refl _) _
  clear hb hL hbk
  go_enter Try.func97, Try.ntmps97
  go_wp2_with fail
  generalize w.alloc (.cells Try.zeroCells140 140) = w0 at *
  go_loopg [5, 8] L (fun gk _ iv wr => ∃ k : Nat, k + gk = L ∧ iv = .int .i64 k ∧ Hid (ApartTo l k) ∧ Hid (Counts wr w.heap.size (fun b => cntN l b k)) ∧ Hid (Mod (fun b => b = w.heap.size) w0 wr))
  case atStart => exact ⟨0, by omega, rfl, (fun i j h1 h2 => by omega), HC0.out, Mod.refl _ _⟩
  case round =>
    obtain ⟨k, hk, rfl, HAP, HCN, HMO⟩ := hrel
    have hbel := HBEL.out.trans (HMO.out.below HBEL.out.size (fun b hb => by omega))
    have HBE := Lib.hid hbel
    by_cases hlt : k < L
    · have hli : (k : Int) < (L : Int) := by omega
      have hk0 : (0 : Int) ≤ (k : Int) := Int.natCast_nonneg _
      obtain ⟨ao', c', e, -, -, -, hcell⟩ := HV.out.below hbel
      simp only [Value.slice.injEq] at e
      obtain ⟨rfl, -, rfl⟩ := e
      obtain ⟨g, o, rfl, d0⟩ := hcell k (by rw [← HL.out]; exact hlt)
      have hx := HB.out k hlt
      obtain ⟨x, hxx⟩ : ∃ x, x = l.getD k 0 := ⟨_, rfl⟩
      rw [← hxx] at d0 hx
      have HX := Lib.hid hxx
      obtain ⟨d1, f1⟩ := HCN.out.cell hx
      obtain ⟨ct, hct⟩ : ∃ ct, ct = cntN l x k := ⟨_, rfl⟩
      rw [← hct] at d1
      have hcl : ct ≤ 1000 := by rw [hct]; have := cntN_le l x k; omega
      have HCT := Lib.hid hct
      have HCN2 : Hid (Counts (wr.setCell ⟨w.heap.size, x, none⟩ (.int .i64 ((ct : Int) + 1))) w.heap.size (fun i => cntN l i (k + 1))) := by
        have h := HCN.out.set x (ct + 1)
        rw [hct, cntN_succ l k x hxx.symm] at h
        rw [hct]
        exact h
      have HMO2 : Hid (Mod (fun b => b = w.heap.size) w0 (wr.setCell ⟨w.heap.size, x, none⟩ (.int .i64 ((ct : Int) + 1)))) := HMO.out.setCell (a := ⟨w.heap.size, x, none⟩) (.inl rfl) _
      have HBE2 : Hid (Below w.heap.size w (wr.setCell ⟨w.heap.size, x, none⟩ (.int .i64 ((ct : Int) + 1)))) := HBEL.out.trans (HMO2.out.below HBEL.out.size (fun b hb => by omega))
      have hxi : (x : Int) < 256 := by omega
      have hx0 : (0 : Int) ≤ (x : Int) := Int.natCast_nonneg _
      clear hcell hxx hct hbel
      rcases Nat.eq_zero_or_pos ct with hc0 | hc0
      · subst hc0
        go_wp2_with fail
        go_roundg (gk - 1)
        case measure => omega
        case rel =>
          refine ⟨k + 1, by omega, by go_num, fun i j h1 h2 => ?_, HCN2.out, HMO2.out⟩
          by_cases e : j = k
          · subst e
            intro he
            have := (cntN_pos l x j).2 ⟨i, h1, by rw [he]; exact HX.out.symm⟩
            have := HCT.out
            omega
          · exact HAP.out i j h1 (by omega)
      · have hc1 : (1 : Int) < (ct : Int) + 1 := by omega
        have HC1 := Lib.hid hc0
        have HLT := Lib.hid hlt
        go_wp2_with fail
        go_ret
        refine ⟨ret_b (apartB_false (fun h => ?_)).symm, HBE2.out⟩
        have h0 := HC1.out
        rw [HCT.out] at h0
        obtain ⟨j, h1, h2⟩ := (cntN_pos l x k).1 h0
        rw [← HL.out] at h
        exact h j k h1 HLT.out (by rw [h2]; exact HX.out)
    · have hge : ¬ (k : Int) < (L : Int) := by omega
      obtain rfl : k = L := by omega
      go_wp2_with fail
      go_ret
      exact ⟨ret_b ((apartB_iff l).2 (by rw [← HL.out]; exact HAP.out)).symm, HBE.out⟩
end Go.Proofs.Ytlopdbhjdijlmaa

namespace Go.Proofs.Ytlopdbhjdijlmaa
open Go.ChangeShapes Go.WideShapes Go.ChangeAt Go.RowKit
set_option linter.unusedSimpArgs false
set_option linter.unusedVariables false

/-- One entry more. -/
def namesStep (S : Sh) (l : List Int) (k : Nat) (r : List En × List Nat) : Option (List En × List Nat) :=
  if l.getD (k / 4) 0 < 1 then none
  else if isName (S.get (1080 + l.getD (k / 4) 0 * 8 + 2 * ((k % 4 : Nat) : Int))).toNat = true ∧ S.get (1080 + l.getD (k / 4) 0 * 8 + 2 * ((k % 4 : Nat) : Int) + 1) < 32 then
    some (r.1 ++ [⟨wtext (S.get (1080 + l.getD (k / 4) 0 * 8 + 2 * ((k % 4 : Nat) : Int))).toNat, S.get (1080 + l.getD (k / 4) 0 * 8 + 2 * ((k % 4 : Nat) : Int) + 1)⟩], if k % 4 = 0 then r.2 ++ [(l.getD (k / 4) 0).toNat] else r.2)
  else none
def namesTo (S : Sh) (l : List Int) : Nat → Option (List En × List Nat)
  | 0 => some ([], [])
  | k + 1 => (namesTo S l k).bind (namesStep S l k)

theorem namesTo_none {S : Sh} {l : List Int} {k : Nat} (h : namesTo S l k = none) : ∀ m, k ≤ m → namesTo S l m = none := by
  intro m
  induction m with
  | zero => intro hk; have : k = 0 := by omega
            subst this; exact h
  | succ m ih =>
    intro hk
    by_cases e : k = m + 1
    · subst e; exact h
    · simp only [namesTo]
      rw [ih (by omega)]
      rfl

structure NamesR (w wr : World) (v9 v10 : Value) (out : List En) (own : List Nat) : Prop where
  o9 : wr.ownsRow w.heap.size 27 2 v9 out.length (enC out)
  o10 : wr.ownsRow w.heap.size 3 1 v10 own.length (nums own)
  ap : ∀ g, v9.ownBlock = some g → v10.ownBlock ≠ some g
  bel : Below w.heap.size w wr

theorem NamesR.start (w : World) : NamesR w w (.slice none 0 0) (.slice none 0 0) [] [] := ⟨World.ownsRow_nil _ _ _ _, World.ownsRow_nil _ _ _ _, (fun g h => by cases h), Below.refl _ _⟩

theorem NamesR.below {w wr w2 : World} {v9 v10 : Value} {out : List En} {own : List Nat} (h : NamesR w wr v9 v10 out own) (hb : Below wr.heap.size wr w2) : NamesR w w2 v9 v10 out own :=
  ⟨own_below h.o9 hb (Nat.le_refl _), own_below h.o10 hb (Nat.le_refl _), h.ap, h.bel.trans (hb.mono h.bel.size)⟩

theorem NamesR.pushN {w wr w3 : World} {v9 v10 v' : Value} {out : List En} {own : List Nat} (h : NamesR w wr v9 v10 out own) {o : Obj} {b : Nat} (hown : w3.ownsRow w.heap.size 3 1 v' (own.length + 1) (nums own ++ [.int .i64 (b : Int)])) (hgr : (wr.alloc o).grownBy w3 v10.ownBlock)
    (hat : v'.ownBlock = v10.ownBlock ∨ v'.ownBlock = some (wr.heap.size + 1)) : NamesR w w3 v9 v' out (own ++ [b]) := by
  have hm : Mod (fun k => v10.ownBlock = some k) wr w3 := ((Mod.refl _ wr).alloc o).trans ((mod_of_grown hgr).mono (fun k _ hk => .inl hk))
  refine ⟨hm.own h.o9 (fun g hg e => h.ap g hg e), ?_, ?_, ?_⟩
  · rw [List.length_append, nums_snoc]; exact hown
  · intro g hg e
    have := own_lt h.o9 hg
    rcases hat with h1 | h1
    · exact h.ap g hg (by rw [← h1]; exact e)
    · rw [h1] at e; cases e; omega
  · exact h.bel.trans (hm.below h.bel.size (fun b hb => own_ge h.o10 b hb))

theorem enC_snoc (l : List En) (x : En) : enC (l ++ [x]) = enC l ++ [.string x.name, .int .i64 x.ino] := by rw [enC_append]; rfl

theorem NamesR.pushE {w wr w3 : World} {v9 v10 v' : Value} {out : List En} {own : List Nat} (h : NamesR w wr v9 v10 out own) {o : Obj} {x : En} (hown : w3.ownsRow w.heap.size 27 2 v' (out.length + 1) (enC out ++ [.string x.name, .int .i64 x.ino])) (hgr : (wr.alloc o).grownBy w3 v9.ownBlock)
    (hat : v'.ownBlock = v9.ownBlock ∨ v'.ownBlock = some (wr.heap.size + 1)) : NamesR w w3 v' v10 (out ++ [x]) own := by
  have hm : Mod (fun k => v9.ownBlock = some k) wr w3 := ((Mod.refl _ wr).alloc o).trans ((mod_of_grown hgr).mono (fun k _ hk => .inl hk))
  refine ⟨?_, hm.own h.o10 (fun g hg e => h.ap g e hg), ?_, ?_⟩
  · rw [List.length_append, enC_snoc]; exact hown
  · intro g hg e
    have := own_lt h.o10 e
    rcases hat with h1 | h1
    · exact h.ap g (by rw [← h1]; exact hg) e
    · rw [h1] at hg; cases hg; omega
  · exact h.bel.trans (hm.below h.bel.size (fun b hb => own_ge h.o9 b hb))

/-- What names answers. -/
def NamesPost (w : World) (r : Option (List En × List Nat)) (e : Ending) (w' : World) : Prop :=
  Below w.heap.size w w' ∧ match r with
  | none => e = .returned (.tuple #[.slice none 0 0, .slice none 0 0, .bool false])
  | some (out, own) => ∃ ev bv, e = .returned (.tuple #[ev, bv, .bool true]) ∧ w'.ownsRow w.heap.size 27 2 ev out.length (enC out) ∧ w'.ownsRow w.heap.size 3 1 bv own.length (nums own)

theorem Try.infoEntry : (Try.prog.info? 27).map (fun i => (i.zero, i.size, i.bytes)) = some (some (.agg #[.string ⟨#[]⟩, .int .i64 0]), 2, 24) := by kernel_rfl

set_option maxRecDepth 20000 in
set_option maxHeartbeats 4000000 in
theorem names_any {w : World} {p : Nat} {D : Nat → Prop} {S : Sh} (h : SheetAt w p D S) (l : List Int) (hl : l.length = 13) (hb : ∀ k, k < 13 → -1 ≤ l.getD k 0 ∧ l.getD k 0 < 256) (size : Int) (hs : 0 ≤ size ∧ size ≤ 1048576) :
    Calls Try.prog 96 #[.pointer (some ⟨p, 0, none⟩), .agg (l.map (Value.int .i64)).toArray, .int .i64 size] w (NamesPost w (namesTo S l (min size.toNat 24))) := by
  obtain ⟨i0, hi0, hz0, hz1, hz2⟩ := info_parts infoInt
  obtain ⟨i1, hi1, hy0, hy1, hy2⟩ := info_parts Try.infoEntry
  have HC := Lib.hid (arrCell w l hl 22)
  have HBEL : Hid (Below w.heap.size w (w.alloc (.cells (l.map (Value.int .i64)).toArray 22))) := (Below.refl _ _).alloc (Nat.le_refl _) _
  have hll : (l.map (Value.int .i64)).toArray.size = 13 := by simp [hl]
  have HLL := Lib.hid hll
  have HB := Lib.hid hb
  have HG : Hid (∀ (wx : World), Mod nob w wx → ∀ i : Int, Calls Try.prog 37 #[.pointer (some ⟨p, 0, none⟩), .int .i64 i] wx fun e w' => e = .returned (.int .u64 (S.get i)) ∧ wx = w') := fun wx hm i => sheet_get (h.mod hm (fun _ _ h => h)) i
  have HOK := Lib.hid h.ok
  obtain ⟨N, hN⟩ : ∃ N, N = min size.toNat 24 := ⟨_, rfl⟩
  have hmi : (if 24 < size then 24 else size) = (N : Int) := by rw [hN]; split <;> omega
  have hN24 : N ≤ 24 := by omega
  rw [← hN]
  have hbs : w.heap.size < (w.alloc (.cells (l.map (Value.int .i64)).toArray 22)).heap.size := by simp
  clear hll hl hb h hN
  obtain ⟨s0, s1⟩ := hs
  go_enter Try.func96, Try.ntmps96
  go_wp2_with fail
  generalize w.alloc (.cells (l.map (Value.int .i64)).toArray 22) = w0 at *
  clear hmi
  go_loopg [6, 7, 8, 9, 10, 11, 12, 13, 14, 15, 18] N (fun gk _ _ _ v9 v10 _ _ _ _ _ iv wr => ∃ (k : Nat) (out : List En) (own : List Nat), k + gk = N ∧ iv = .int .i64 k ∧ Hid (namesTo S l k = some (out, own)) ∧ Hid (NamesR w0 wr v9 v10 out own) ∧ Hid (out.length ≤ k ∧ own.length ≤ k))
  case atStart => exact ⟨0, [], [], by omega, rfl, rfl, NamesR.start _, Nat.le_refl _, Nat.le_refl _⟩
  case round =>
    obtain ⟨k, out, own, hk, rfl, HNT, HNR, HLE⟩ := hrel
    obtain ⟨va, vc, rfl, v1, v2, -⟩ := own_shape HNR.out.o9
    obtain ⟨ua, uc, rfl, u1, u2, -⟩ := own_shape HNR.out.o10
    have hle := HLE.out
    obtain ⟨no, hno⟩ : ∃ no, no = out.length := ⟨_, rfl⟩
    obtain ⟨nw, hnw⟩ : ∃ nw, nw = own.length := ⟨_, rfl⟩
    rw [← hno] at hle v1 HNR
    rw [← hnw] at hle u1 HNR
    have HNO := Lib.hid hno
    have HNW := Lib.hid hnw
    rw [← hno, ← hnw]
    obtain ⟨l1, l2⟩ := hle
    have HMW : Hid (Mod nob w wr) := (mod_of_below HBEL.out).step (mod_of_below HNR.out.bel) (fun _ h => h)
    have hbel := HBEL.out.trans (HNR.out.bel.mono (Nat.le_of_lt hbs))
    have HBE := Lib.hid hbel
    have HO10 : Hid (wr.ownsRow w0.heap.size 3 1 (.slice ua nw uc) nw (nums own)) := by rw [hnw]; rw [hnw] at HNR; exact HNR.out.o10
    have HO9 : Hid (wr.ownsRow w0.heap.size 27 2 (.slice va no vc) no (enC out)) := by rw [hno]; rw [hno] at HNR; exact HNR.out.o9
    clear hbel hno hnw v1 v2 u1 u2
    by_cases hlt : k < N
    · have hki : (k : Int) < (N : Int) := by omega
      have hk0 : (0 : Int) ≤ (k : Int) := Int.natCast_nonneg _
      have hk24 : (k : Int) < 24 := by omega
      obtain ⟨q, hq⟩ : ∃ q, q = k / 4 := ⟨_, rfl⟩
      obtain ⟨r, hr⟩ : ∃ r, r = k % 4 := ⟨_, rfl⟩
      have hqi : (k : Int) / 4 = (q : Int) := by omega
      have hri : (k : Int) % 4 = (r : Int) := by omega
      have hq13 : q < 13 := by omega
      have hr4 : r < 4 := by omega
      have d0 : wr.cell? ⟨w.heap.size, q, none⟩ = some (.int .i64 (l.getD q 0)) := by
        rw [HNR.out.bel.cell (p := ⟨w.heap.size, q, none⟩) hbs]
        exact HC.out q hq13
      have hstep : namesTo S l (k + 1) = namesStep S l k (out, own) := by
        simp only [namesTo]
        rw [HNT.out]
        rfl
      have hnone : namesStep S l k (out, own) = none → namesTo S l N = none := fun h => namesTo_none (by rw [hstep]; exact h) N (by omega)
      have hns : namesStep S l k (out, own) = (if l.getD q 0 < 1 then none
        else if isName (S.get (1080 + l.getD q 0 * 8 + 2 * (r : Int))).toNat = true ∧ S.get (1080 + l.getD q 0 * 8 + 2 * (r : Int) + 1) < 32 then
          some (out ++ [⟨wtext (S.get (1080 + l.getD q 0 * 8 + 2 * (r : Int))).toNat, S.get (1080 + l.getD q 0 * 8 + 2 * (r : Int) + 1)⟩], if r = 0 then own ++ [(l.getD q 0).toNat] else own)
        else none) := by
        unfold namesStep
        rw [← hq, ← hr]
      have hbb := HB.out q hq13
      have HSTEP := Lib.hid hstep
      have HNONE := Lib.hid hnone
      have HNS := Lib.hid hns
      have hq0 : (0 : Int) ≤ (q : Int) := Int.natCast_nonneg _
      have hq1 : (q : Int) < 13 := by omega
      have hr0 : (0 : Int) ≤ (r : Int) := Int.natCast_nonneg _
      have hr1 : (r : Int) < 4 := by omega
      generalize l.getD q 0 = b at *
      clear hstep hnone hns hq hr
      by_cases hb1 : b < 1
      · have H1 := Lib.hid hb1
        go_wp2_with fail
        refine bodyPost_ret (v := .tuple #[.slice none 0 0, .slice none 0 0, .bool false]) (by simp [results, Try.results96, go_sem]) rfl ?_
        unfold NamesPost
        rw [HNONE.out (by rw [HNS.out, if_pos H1.out])]
        exact ⟨HBE.out, rfl⟩
      · obtain ⟨bn, rfl⟩ := Int.eq_ofNat_of_zero_le (show 0 ≤ b by omega)
        have hbn : bn < 256 := by omega
        have HB1 := Lib.hid hb1
        go_upto_if 29 with (fail)
        go_cut [10, 30, 31, 32, 33] (fun v10 _ _ _ _ wc => Hid (NamesR w0 wc (.slice va no vc) v10 out (if r = 0 then own ++ [bn] else own)))
        case first =>
          rcases Nat.eq_zero_or_pos r with hr00 | hr00
          · subst hr00
            go_wp2_with (at_builtin; refine wpList_append_own_at _ rfl (.tmp 30) (.tmp 32) 56 rfl w0.heap.size 3 i0 (.int .i64 0) 1 8 Try.underlying56 hi0 hz0 hz1 hz2 rfl (by decide) _ nw (nums own) rfl (HO10.out.alloc _) ⟨wr.heap.size, 0, none⟩ 1 1 [.int .i64 (bn : Int)] rfl rfl (cells_new _ _ _) (by simp [Value.oneCell']) (by unfold maxLen; omega) (by omega) (by have := HNR.out.bel.size; simp; omega) ?_)
            intro v' w3 hown hgr _ hat
            have HP3 : Hid (NamesR w0 w3 (.slice va no vc) v' out (own ++ [bn])) := by
              rw [HNW.out] at hown
              exact HNR.out.pushN hown hgr (by simpa using hat)
            clear hown hgr hat
            go_wp2_with fail
            go_meet
            case rel => exact HP3.out
          · have hrb : ((r : Int) == 0) = false := by simp; omega
            have HR0 := Lib.hid hr00
            go_wp2_with fail
            go_meet
            case rel =>
              rw [if_neg (by have := HR0.out; omega)]
              exact HNR.out
        case rest =>
          have HP := hcut
          obtain ⟨wq, rfl⟩ : ∃ wq : World, wq = wc := ⟨_, rfl⟩
          clear hcut HNR HO10 HO9 HMW HBE d0
          have HMQ : Hid (Mod nob w wq) := (mod_of_below HBEL.out).step (mod_of_below HP.out.bel) (fun _ h => h)
          have HBQ : Hid (Below w.heap.size w wq) := HBEL.out.trans (HP.out.bel.mono (Nat.le_of_lt hbs))
          have HBL : Hid (∀ wx, Calls Try.prog 105 #[.int .i64 (bn : Int)] wx fun e w' => e = .returned (.int .i64 (1080 + (bn : Int) * 8)) ∧ wx = w') := by
            intro wx
            have := block_any (bn : Int) wx
            rw [if_neg (by omega)] at this
            exact this
          have hx := HOK.out.get (1080 + (bn : Int) * 8 + 2 * (r : Int))
          have hy := HOK.out.get (1080 + (bn : Int) * 8 + 2 * (r : Int) + 1)
          obtain ⟨xn, hxn⟩ := Int.eq_ofNat_of_zero_le hx.1
          obtain ⟨y, hyy⟩ : ∃ y, y = S.get (1080 + (bn : Int) * 8 + 2 * (r : Int) + 1) := ⟨_, rfl⟩
          have hG1 := HG.out wq HMQ.out (1080 + (bn : Int) * 8 + 2 * (r : Int))
          rw [hxn] at hG1 hx
          have HG1 := Lib.hid hG1
          have HG2 : Hid (∀ wx, Mod nob w wx → Calls Try.prog 37 #[.pointer (some ⟨p, 0, none⟩), .int .i64 (1080 + (bn : Int) * 8 + 2 * (r : Int) + 1)] wx fun e w' => e = .returned (.int .u64 y) ∧ wx = w') := fun wx hm => by
            have := HG.out wx hm (1080 + (bn : Int) * 8 + 2 * (r : Int) + 1)
            rw [← hyy] at this
            exact this
          rw [← hyy] at hy
          have HNS2 : Hid (namesStep S l k (out, own) = if isName xn = true ∧ y < 32 then some (out ++ [⟨wtext xn, y⟩], if r = 0 then own ++ [bn] else own) else none) := by
            unfold Hid
            rw [HNS.out, if_neg (by have := HB1.out; omega), hxn, ← hyy]
            simp only [Int.toNat_natCast]
          obtain ⟨y0, y1⟩ := hy
          have hxn64 : xn < 18446744073709551616 := by omega
          have hol : (if r = 0 then own ++ [bn] else own).length ≤ k + 1 := by
            have := HNW.out
            split
            · rw [List.length_append]; simp; omega
            · omega
          have HOL := Lib.hid hol
          clear hol
          generalize (if r = 0 then own ++ [bn] else own) = own2 at *
          clear hxn hyy hG1 hx HNS HNW hbb
          go_wp2_with fail
          refine (HBL.out _).mono ?_
          rintro e w1 ⟨rfl, rfl⟩
          go_wp2_with fail
          refine HG1.out.mono ?_
          rintro e w1 ⟨rfl, rfl⟩
          have HNA := Lib.hid (name_any xn hxn64 wq)
          cases hin : isName xn with
          | false =>
            rw [nameRes_no hin] at HNA
            have HIN := Lib.hid hin
            clear hin
            go_wp2_with fail
            refine HNA.out.mono ?_
            rintro e w4 ⟨rfl, hb4⟩
            have HB4 := Lib.hid hb4
            clear hb4
            go_wp2_with fail
            refine bodyPost_ret (v := .tuple #[.slice none 0 0, .slice none 0 0, .bool false]) (by simp [results, Try.results96, go_sem]) rfl ?_
            unfold NamesPost
            rw [HNONE.out (by rw [HNS2.out, if_neg (fun h => by rw [HIN.out] at h; cases h.1)])]
            exact ⟨HBQ.out.trans (HB4.out.mono HBQ.out.size), rfl⟩
          | true =>
            rw [nameRes_yes hin] at HNA
            have HIN := Lib.hid hin
            clear hin
            go_wp2_with fail
            refine HNA.out.mono ?_
            rintro e w4 ⟨rfl, hb4⟩
            have HB4 := Lib.hid hb4
            have HM4 : Hid (Mod nob w w4) := HMQ.out.step (mod_of_below hb4) (fun _ h => h)
            have HP4 := Lib.hid (HP.out.below hb4)
            clear hb4
            go_wp2_with fail
            refine (HG2.out _ HM4.out).mono ?_
            rintro e w5 ⟨rfl, rfl⟩
            by_cases hy32 : 32 ≤ y
            · have HY := Lib.hid hy32
              go_wp2_with fail
              refine bodyPost_ret (v := .tuple #[.slice none 0 0, .slice none 0 0, .bool false]) (by simp [results, Try.results96, go_sem]) rfl ?_
              unfold NamesPost
              rw [HNONE.out (by rw [HNS2.out, if_neg (fun h => by have := h.2; have := HY.out; omega)])]
              exact ⟨HBQ.out.trans (HB4.out.mono HBQ.out.size), rfl⟩
            · have HY := Lib.hid hy32
              have hy32' : y < 32 := by omega
              have HO9 : Hid (w4.ownsRow w0.heap.size 27 2 (.slice va no vc) no (enC out)) := by
                have := HP4.out.o9
                rw [← HNO.out] at this
                exact this
              go_wp2_with fail
              refine (HG2.out _ HM4.out).mono ?_
              rintro e w5 ⟨rfl, rfl⟩
              go_wp2_with (at_builtin; refine wpList_append_own_at _ rfl (.tmp 56) (.tmp 64) 23 rfl w0.heap.size 27 i1 _ 2 24 Try.underlying23 hi1 hy0 hy1 hy2 rfl (by decide) _ no (enC out) rfl (HO9.out.alloc _) ⟨w4.heap.size, 0, none⟩ 1 1 [.string (wtext xn), .int .i64 y] rfl rfl (cells_new _ _ _) (by simp [Value.oneCell']) (by unfold maxLen; omega) (by omega) (by have := HP4.out.bel.size; simp; omega) ?_)
              intro v' w6 hown hgr _ hat
              rw [HNO.out] at hown
              have HP6 := Lib.hid (HP4.out.pushE (x := ⟨wtext xn, y⟩) hown hgr (by simpa using hat))
              clear hown hgr hat
              go_wp2_with fail
              go_roundg (gk - 1)
              case measure => omega
              case rel => exact ⟨k + 1, out ++ [(⟨wtext xn, y⟩ : En)], own2, by omega, by go_num, by unfold Hid; rw [HSTEP.out, HNS2.out, if_pos ⟨HIN.out, by have := HY.out; omega⟩], HP6.out, ⟨by rw [List.length_append, ← HNO.out]; simp; omega, HOL.out⟩⟩
    · have hge : ¬ (k : Int) < (N : Int) := by omega
      obtain rfl : k = N := by omega
      go_wp2_with fail
      refine bodyPost_ret (v := .tuple #[.slice va no vc, .slice ua nw uc, .bool true]) (by simp [results, Try.results96, go_sem]) rfl ?_
      unfold NamesPost
      rw [HNT.out]
      have h9 := own_base HNR.out.o9 (Nat.le_of_lt hbs)
      have h10 := own_base HNR.out.o10 (Nat.le_of_lt hbs)
      exact ⟨HBE.out, _, _, rfl, h9, h10⟩
end Go.Proofs.Ytlopdbhjdijlmaa
