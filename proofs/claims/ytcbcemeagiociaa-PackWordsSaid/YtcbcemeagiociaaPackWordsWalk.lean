/-
  The walk of the law PackWords: it answers true, whatever word comes in; nothing that was there is written.
-/
import Derived.Test.YtcbcemeagiociaaPackLaws2
namespace Go.Proofs.Ytcbcemeagiociaa
open Go.ChangeShapes Go.WideShapes Go.ChangeAt Go.RowKit
set_option linter.unusedSimpArgs false
set_option linter.unusedVariables false

def bvals (x : Nat) : Array Value := #[.int .u8 (PackM.byteAt x 0 : Nat), .int .u8 (PackM.byteAt x 1 : Nat), .int .u8 (PackM.byteAt x 2 : Nat), .int .u8 (PackM.byteAt x 3 : Nat), .int .u8 (PackM.byteAt x 4 : Nat), .int .u8 (PackM.byteAt x 5 : Nat), .int .u8 (PackM.byteAt x 6 : Nat), .int .u8 (PackM.byteAt x 7 : Nat)]
theorem bvals_get (x k : Nat) (h : k < 8) : (bvals x)[k]? = some (.int .u8 (PackM.byteAt x k : Nat)) := by
  match k, h with
  | 0, _ => rfl
  | 1, _ => rfl
  | 2, _ => rfl
  | 3, _ => rfl
  | 4, _ => rfl
  | 5, _ => rfl
  | 6, _ => rfl
  | 7, _ => rfl

/-- The text that Name answers. -/
def nres (x : Nat) : ByteArray := if isName x = true then wtext x else ⟨#[]⟩
theorem nameRes_eq (x : Nat) : nameRes x = .tuple #[.string (nres x), .bool (isName x)] := rfl

def Behind (x B : Nat) (W wc : World) : Prop := Below W.heap.size W wc ∧ W.heap.size ≤ B ∧ ∀ j, wc.cell? ⟨B, j, none⟩ = (bvals x)[j]?

theorem Behind.step {x B : Nat} {W wc wd : World} (h : Behind x B W wc) (hb : Below wc.heap.size wc wd) : Behind x B W wd := by
  obtain ⟨h1, h2, h3⟩ := h
  exact ⟨h1.trans (hb.mono h1.size), h2, boxed_below h3 hb (by show 0 < 8; omega)⟩

theorem Behind.drew {x B : Nat} {W wc : World} (h : Behind x B W wc) : Behind x B W wc.drew := ⟨h.1.drew, h.2.1, h.2.2⟩

theorem bstr_append (a b : List Nat) : bstr a ++ bstr b = bstr (a ++ b) := by
  have h : (bstr a ++ bstr b).data = (bstr (a ++ b)).data := by
    rw [ByteArray.data_append]
    simp [bstr]
  cases h1 : bstr a ++ bstr b
  cases h2 : bstr (a ++ b)
  rw [h1, h2] at h
  simp only at h
  rw [h]

theorem take_bytes (x k : Nat) (h : k < 8) : (PackM.bytes x).take k ++ [PackM.byteAt x k] = (PackM.bytes x).take (k + 1) := by
  have hl : k < (PackM.bytes x).length := h
  rw [List.take_succ_eq_append_getElem hl]
  congr 2
  have := PackM.bytes_getD x k h
  rw [List.getD_eq_getElem?_getD, List.getElem?_eq_getElem hl] at this
  exact this.symm

set_option maxRecDepth 20000 in
set_option maxHeartbeats 3200000 in
theorem law_words (x : Nat) (hx : x < 18446744073709551616) (at_ : Nat) (hat : at_ < 256) (w : World) :
    Calls Try.prog 6 #[.int .u64 x, .int .u8 at_] w fun e w' => e = .returned (.bool true) ∧ Below w.heap.size w w' := by
  have HX := Lib.hid hx
  clear hx
  have HN := Lib.hid (fun (w : World) => name_any x HX.out w)
  have HB := Lib.hid (fun (w : World) => bytes_any x HX.out w)
  have HJ := Lib.hid (fun (w : World) => join_any8 _ _ _ _ _ _ _ _ (PackM.byteAt_lt x 0) (PackM.byteAt_lt x 1) (PackM.byteAt_lt x 2) (PackM.byteAt_lt x 3) (PackM.byteAt_lt x 4) (PackM.byteAt_lt x 5) (PackM.byteAt_lt x 6) (PackM.byteAt_lt x 7) w)
  have HJV : Hid (PackM.join [PackM.byteAt x 0, PackM.byteAt x 1, PackM.byteAt x 2, PackM.byteAt x 3, PackM.byteAt x 4, PackM.byteAt x 5, PackM.byteAt x 6, PackM.byteAt x 7] = x) := PackM.join_bytes x HX.out
  have hk : at_ % 8 < 8 := Nat.mod_lt _ (by decide)
  have HBY : Hid (∀ w : World, Calls Try.prog 27 #[.int .u64 x, .int .i64 ((at_ : Int) % 8)] w fun e w' => e = .returned (.int .u8 (PackM.byteAt x (at_ % 8) : Nat)) ∧ w = w') := by
    intro w
    have e : ((at_ : Int) % 8) = ((at_ % 8 : Nat) : Int) := by omega
    rw [e]
    exact byte_any x HX.out (at_ % 8) hk w
  have hm0 : 0 ≤ (at_ : Int) % 8 := by omega
  have hm1 : (at_ : Int) % 8 < 8 := by omega
  have hbl : ∀ h : ((at_ : Int) % 8).toNat < ([Value.int .u8 (PackM.byteAt x 0 : Nat), Value.int .u8 (PackM.byteAt x 1 : Nat), Value.int .u8 (PackM.byteAt x 2 : Nat), Value.int .u8 (PackM.byteAt x 3 : Nat), Value.int .u8 (PackM.byteAt x 4 : Nat), Value.int .u8 (PackM.byteAt x 5 : Nat), Value.int .u8 (PackM.byteAt x 6 : Nat), Value.int .u8 (PackM.byteAt x 7 : Nat)]).length, ([Value.int .u8 (PackM.byteAt x 0 : Nat), Value.int .u8 (PackM.byteAt x 1 : Nat), Value.int .u8 (PackM.byteAt x 2 : Nat), Value.int .u8 (PackM.byteAt x 3 : Nat), Value.int .u8 (PackM.byteAt x 4 : Nat), Value.int .u8 (PackM.byteAt x 5 : Nat), Value.int .u8 (PackM.byteAt x 6 : Nat), Value.int .u8 (PackM.byteAt x 7 : Nat)])[((at_ : Int) % 8).toNat]'h = .int .u8 (PackM.byteAt x (at_ % 8) : Nat) := by
    intro h
    have h1 := bvals_get x (at_ % 8) hk
    have e : ((at_ : Int) % 8).toNat = at_ % 8 := by omega
    have h2 : ([Value.int .u8 (PackM.byteAt x 0 : Nat), Value.int .u8 (PackM.byteAt x 1 : Nat), Value.int .u8 (PackM.byteAt x 2 : Nat), Value.int .u8 (PackM.byteAt x 3 : Nat), Value.int .u8 (PackM.byteAt x 4 : Nat), Value.int .u8 (PackM.byteAt x 5 : Nat), Value.int .u8 (PackM.byteAt x 6 : Nat), Value.int .u8 (PackM.byteAt x 7 : Nat)])[at_ % 8]? = some (.int .u8 (PackM.byteAt x (at_ % 8) : Nat)) := by
      simpa [bvals] using h1
    have h3 : ([Value.int .u8 (PackM.byteAt x 0 : Nat), Value.int .u8 (PackM.byteAt x 1 : Nat), Value.int .u8 (PackM.byteAt x 2 : Nat), Value.int .u8 (PackM.byteAt x 3 : Nat), Value.int .u8 (PackM.byteAt x 4 : Nat), Value.int .u8 (PackM.byteAt x 5 : Nat), Value.int .u8 (PackM.byteAt x 6 : Nat), Value.int .u8 (PackM.byteAt x 7 : Nat)])[((at_ : Int) % 8).toNat]? = some (.int .u8 (PackM.byteAt x (at_ % 8) : Nat)) := by rw [e]; exact h2
    rw [List.getElem?_eq_getElem h] at h3
    exact Option.some.inj h3
  have hbb : ∀ y : Nat, ((y : Int) != (y : Int)) = false := by intro y; simp
  have hbx := hbb x
  have hbk := hbb (PackM.byteAt x (at_ % 8))
  clear hbb
  have HNR := Lib.hid (nameRes_eq x)
  obtain ⟨bn, hbn⟩ : ∃ bn, bn = isName x := ⟨_, rfl⟩
  rw [← hbn] at HNR
  have HBN := Lib.hid hbn
  clear hbn
  go_enter Try.func6, Try.ntmps6
  go_wp2_with fail
  refine (HN.out _).mono ?_
  rintro e w1 ⟨rfl, hb1⟩
  rw [HNR.out]
  have HB1 := Lib.hid hb1
  clear hb1
  go_wp2_with fail
  refine (HB.out _).mono ?_
  rintro e w2 ⟨rfl, hb2⟩
  have HB2 := Lib.hid (HB1.out.trans (hb2.mono HB1.out.size))
  clear hb2
  go_upto_region 4 with (fail)
  have hc2 := boxed_new w2 #[.int .u8 (PackM.byteAt x 0 : Nat), .int .u8 (PackM.byteAt x 1 : Nat), .int .u8 (PackM.byteAt x 2 : Nat), .int .u8 (PackM.byteAt x 3 : Nat), .int .u8 (PackM.byteAt x 4 : Nat), .int .u8 (PackM.byteAt x 5 : Nat), .int .u8 (PackM.byteAt x 6 : Nat), .int .u8 (PackM.byteAt x 7 : Nat)] 35 (0, 0)
  have HS2 : Hid (Behind x w2.heap.size w (w2.alloc (.cells #[.int .u8 (PackM.byteAt x 0 : Nat), .int .u8 (PackM.byteAt x 1 : Nat), .int .u8 (PackM.byteAt x 2 : Nat), .int .u8 (PackM.byteAt x 3 : Nat), .int .u8 (PackM.byteAt x 4 : Nat), .int .u8 (PackM.byteAt x 5 : Nat), .int .u8 (PackM.byteAt x 6 : Nat), .int .u8 (PackM.byteAt x 7 : Nat)] 35))) := ⟨HB2.out.alloc HB2.out.size _, HB2.out.size, hc2⟩
  obtain ⟨B, hB⟩ : ∃ B, B = w2.heap.size := ⟨_, rfl⟩
  go_cut [7, 38] (fun p t wc => p = .pointer (some ⟨B, 0, none⟩) ∧ t = .bool false ∧ Behind x B w wc)
  case first =>
    rw [← hB] at HS2
    go_region_with (first | (go_at_call 21; refine (awake2 _).mono ?_; rintro e w3 ⟨rfl, hb3⟩; have hc3 := boxed_below (by assumption) hb3 (by simp)) | (go_at_call 26; refine (HJ.out _).mono ?_; rintro e w4 ⟨rfl, hb4⟩; rw [HJV.out]; have hc4 := boxed_below (by assumption) hb4 (by simp)) | (go_at_call 27; refine (HBY.out _).mono ?_; rintro e w' ⟨rfl, rfl⟩))
    all_goals
      go_wp2_with fail
      go_meet
      case rel => exact ⟨by rw [hB], rfl, (HS2.out.drew.step hb3).step hb4⟩
  case rest =>
    obtain ⟨rfl, rfl, HR⟩ := hcut
    have HRH := Lib.hid HR
    clear HR hB hc2 HS2
    cases bn with
    | true =>
      have hin := HBN.out
      have hyes : goodB (nres x).data.toList = true ∧ nword (nres x) = x ∧ (nres x).size ≤ maxLen ∧ (nres x).size ≤ 7 := by
        have h := hin.symm
        unfold isName at h
        simp only [Bool.and_eq_true, decide_eq_true_eq] at h
        have e : nres x = wtext x := by unfold nres; rw [if_pos hin.symm]
        rw [e]
        have h7 := (good_size h.1.2).2
        exact ⟨h.1.2, h.2, by unfold maxLen; omega, h7⟩
      obtain ⟨hg, hw, hs, h7⟩ := hyes
      have HRG := Lib.hid (fun (w : World) => ref_good (nres x) hs w)
      have HRW := Lib.hid (fun (w : World) => ref_word (nres x) h7 w)
      rw [hg] at HRG
      rw [hw] at HRW
      have hxx : ((x : Int) == (x : Int)) = true := by simp
      clear hg hw hs h7 hin
      go_wp2_with (first | (go_at_call 28; refine (HRG.out _).mono ?_; rintro e w' ⟨rfl, rfl⟩) | (go_at_call 29; refine (HRW.out _).mono ?_; rintro e w' ⟨rfl, rfl⟩))
      go_ret
      exact ⟨rfl, HRH.out.1⟩
    | false =>
      have hn7 : (x : Int) / 72057594037927936 = (PackM.byteAt x 7 : Nat) := by
        have := HX.out
        rw [show PackM.byteAt x 7 = x / 72057594037927936 % 256 from rfl]
        omega
      have hn8 := PackM.byteAt_lt x 7
      have HNO := Lib.hid HBN.out
      have HIN : Hid (isName x = (decide (PackM.byteAt x 7 ≤ 7) && goodB (bstr ((PackM.bytes x).take (PackM.byteAt x 7))).data.toList && decide (nword (bstr ((PackM.bytes x).take (PackM.byteAt x 7))) = x))) := rfl
      generalize PackM.byteAt x 7 = n at hn7 hn8 HIN
      have HNE : Hid (nres x = ⟨#[]⟩) := by
        have := HBN.out
        show nres x = _
        unfold nres
        rw [← this]
        rfl
      rw [HNE.out]
      have HN7 := Lib.hid hn7
      clear hn7
      go_upto_region 8 with (fail)
      go_cut [9] (fun v wd => v = .int .i64 (n : Nat) ∧ wc = wd)
      case first =>
        have hn7 := HN7.out
        have hq0 : 0 ≤ (x : Int) / 72057594037927936 := by omega
        have hq1 : (x : Int) / 72057594037927936 < 256 := by omega
        clear hn7
        go_wp2
        go_meet
        case rel => exact ⟨by rw [← HN7.out], rfl⟩
      case rest =>
        obtain ⟨rfl, rfl⟩ := hcut
        go_wp2_with fail
        go_loopg [10, 11] 8 (fun g t i wr => ∃ k : Nat, k + g = 8 ∧ k ≤ 7 ∧ k ≤ n ∧ i = .int .i64 k ∧ t = .string (bstr ((PackM.bytes x).take k)) ∧ Behind x B w wr)
        case atStart => exact ⟨0, by omega, by omega, by omega, rfl, rfl, HRH.out⟩
        case round =>
          obtain ⟨k, hkg, hk7, hkn, rfl, rfl, hbe⟩ := hrel
          by_cases hgo : k < n ∧ k < 7
          · obtain ⟨g1, g2⟩ := hgo
            have hck : wr.cell? ⟨B, k, none⟩ = some (.int .u8 (PackM.byteAt x k : Nat)) := by rw [hbe.2.2 k]; exact bvals_get x k (by omega)
            have HBE := Lib.hid hbe
            clear hbe
            have hsz : (bstr ((PackM.bytes x).take k)).size + (bstr [PackM.byteAt x k]).size ≤ 9223372036854775807 := by
              rw [bstr_size, bstr_size]
              simp
              omega
            have HCC : Hid (∀ (j : Nat) (h : j < [PackM.byteAt x k].length), (wr.alloc (Obj.cells #[Value.int IntKind.u8 ↑(PackM.byteAt x k)] 5)).cell? ((⟨wr.heap.size, 0, none⟩ : Addr).add j) = some (Value.int IntKind.u8 ↑[PackM.byteAt x k][j])) := by
              intro j h
              exact cells_new wr [Value.int IntKind.u8 ↑(PackM.byteAt x k)] _ j _ (by simp at h; subst h; rfl)
            have HAPP := Lib.hid ((bstr_append ((PackM.bytes x).take k) [PackM.byteAt x k]).trans (congrArg bstr (take_bytes x k (by omega))))
            go_wp2_with (with_reducible refine wpList_bytes_text (o := ⟨some 65, _, _, _, _, _⟩) rfl _ 42 9 5 rfl Try.underlying42 Try.underlying5 Try.underlying9 ⟨wr.heap.size, 0, none⟩ 1 1 rfl [PackM.byteAt x k] rfl HCC.out ?_)
            go_roundg (gk - 1)
            case measure => omega
            case rel => exact ⟨k + 1, by omega, by omega, by omega, by go_num, by rw [HAPP.out], HBE.out.step ((Below.refl _ _).alloc (Nat.le_refl _) _)⟩
          · have HBE := Lib.hid hbe
            clear hbe
            have hts : (bstr ((PackM.bytes x).take k)).size = k := by rw [bstr_size, List.length_take, PackM.bytes_length]; omega
            have HTG := Lib.hid (fun (w : World) => ref_good (bstr ((PackM.bytes x).take k)) (by rw [hts]; unfold maxLen; omega) w)
            have HTW := Lib.hid (fun (w : World) => ref_word (bstr ((PackM.bytes x).take k)) (by rw [hts]; omega) w)
            clear hts
            rcases (show n = 0 ∨ 7 < n ∨ (1 ≤ n ∧ n ≤ 7 ∧ k = n) by omega) with h | h | ⟨h1, h2, rfl⟩
            · have h0 : (n : Int) < 1 := by omega
              have h7 : (n : Int) ≤ 7 := by omega
              clear h
              go_wp2
              go_ret
              exact ⟨rfl, HBE.out.1⟩
            · have h0 : (7 : Int) < n := by omega
              have h01 : (1 : Int) ≤ n := by omega
              go_wp2
              go_ret
              exact ⟨rfl, HBE.out.1⟩
            · have hno := HIN.out.symm.trans HNO.out.symm
              simp only [h2, decide_true, Bool.true_and] at hno
              generalize bstr ((PackM.bytes x).take k) = t at HTG HTW hno
              have hk1 : (1 : Int) ≤ k := by omega
              have hk7' : (k : Int) ≤ 7 := by omega
              cases hgt : goodB t.data.toList with
              | false =>
                rw [hgt] at HTG
                clear hno hgt
                go_wp2_with (go_at_call 28; refine (HTG.out _).mono ?_; rintro e w' ⟨rfl, rfl⟩)
                go_ret
                exact ⟨rfl, HBE.out.1⟩
              | true =>
                rw [hgt] at HTG hno
                simp only [Bool.true_and, decide_eq_false_iff_not] at hno
                generalize nword t = y at HTW hno
                have hne : ((y : Int) != (x : Int)) = true := by rw [bne_iff_ne]; omega
                clear hno hgt
                go_wp2_with (first | (go_at_call 28; refine (HTG.out _).mono ?_; rintro e w' ⟨rfl, rfl⟩) | (go_at_call 29; refine (HTW.out _).mono ?_; rintro e w' ⟨rfl, rfl⟩))
                go_ret
                exact ⟨rfl, HBE.out.1⟩
end Go.Proofs.Ytcbcemeagiociaa
