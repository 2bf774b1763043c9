/-
  The walk of the law PackNames: it answers true, whatever text comes in; nothing that was there is written.
-/
import Derived.Test.YtcbcemeagiociaaPackLaws
namespace Go.Proofs.Ytcbcemeagiociaa
open Go.ChangeShapes Go.WideShapes Go.ChangeAt Go.RowKit
set_option linter.unusedSimpArgs false
set_option linter.unusedVariables false

theorem bytes_join (l : List Nat) (hl : l.length = 8) (h : ∀ c ∈ l, c < 256) : PackM.bytes (PackM.join l) = l := by
  simp only [PackM.bytes, PackM.byteAt_join l _ h]
  match l, hl with
  | [a, b, c, d, e, f, g, k], _ => rfl

theorem bytes_nword {s : ByteArray} (h : s.size ≤ 7) : PackM.bytes (nword s) = nlist s := bytes_join _ rfl (nlist_lt h)

theorem byte7_nword {s : ByteArray} (h : s.size ≤ 7) : PackM.byteAt (nword s) 7 = s.size := by
  unfold nword
  rw [PackM.byteAt_join _ _ (nlist_lt h)]
  rfl

theorem ofNat_nbyte (s : ByteArray) (i : Nat) (h : i < s.data.toList.length) : UInt8.ofNat (nbyte s i) = s.data.toList[i] := by
  unfold nbyte
  rw [List.getD_eq_getElem?_getD, List.getElem?_eq_getElem h]
  simp

theorem wtext_nword {s : ByteArray} (h : s.size ≤ 7) : wtext (nword s) = s := by
  unfold wtext
  rw [bytes_nword h, byte7_nword h]
  have e : ((nlist s).take s.size).map UInt8.ofNat = s.data.toList := by
    apply List.ext_getElem
    · simp [nlist]; omega
    · intro i h1 h2
      have hi : i < s.size := by simpa using h2
      rw [← ofNat_nbyte s i h2, List.getElem_map, List.getElem_take]
      congr 1
      have hi7 : i < 7 := by omega
      match i, hi7 with
      | 0, _ => rfl
      | 1, _ => rfl
      | 2, _ => rfl
      | 3, _ => rfl
      | 4, _ => rfl
      | 5, _ => rfl
      | 6, _ => rfl
  unfold bstr
  rw [e]

theorem isName_nword {s : ByteArray} (hg : goodB s.data.toList = true) : isName (nword s) = true := by
  have h := (good_size hg).2
  unfold isName
  rw [wtext_nword h, hg, byte7_nword h]
  simp [h]

set_option maxRecDepth 20000 in
set_option maxHeartbeats 800000 in
theorem law_names (s : ByteArray) (hs : s.size ≤ maxLen) (w : World) :
    Calls Try.prog 8 #[.string s] w fun e w' => e = .returned (.bool true) ∧ Below w.heap.size w w' := by
  have HS := Lib.hid hs
  unfold maxLen at hs
  by_cases h100 : 100 < s.size
  · go_enter Try.func8, Try.ntmps8
    go_wp2_with fail
    refine (awake2 _).mono ?_
    rintro e w1 ⟨rfl, hb1⟩
    go_wp2_with fail
    refine (awake2 _).mono ?_
    rintro e w2 ⟨rfl, hb2⟩
    go_wp2
    go_ret
    exact ⟨rfl, hb1.trans (hb2.mono hb1.size)⟩
  · cases hg : goodB s.data.toList with
    | false =>
      have HG := Lib.hid hg
      clear hg
      go_enter Try.func8, Try.ntmps8
      go_wp2_with fail
      refine (awake2 _).mono ?_
      rintro e w1 ⟨rfl, hb1⟩
      have HB1 := Lib.hid hb1
      clear hb1
      go_wp2_with (first | (go_at_call 37; refine (word_no s HS.out HG.out _).mono ?_; rintro e w' ⟨rfl, rfl⟩) | (go_at_call 38; refine (good_any s HS.out _).mono ?_; rintro e w' ⟨rfl, rfl⟩; rw [HG.out]) | (go_at_call 28; refine (ref_good s HS.out _).mono ?_; rintro e w' ⟨rfl, rfl⟩; rw [HG.out]) | (go_at_call 39; refine (bucket_no s HS.out HG.out _).mono ?_; rintro e w' ⟨rfl, rfl⟩))
      go_ret
      exact ⟨rfl, HB1.out⟩
    | true =>
      have h7 := (good_size hg).2
      have HG := Lib.hid hg
      have HW := Lib.hid (fun (w : World) => word_yes s hg w)
      have HN := Lib.hid (fun (w : World) => name_any (nword s) (nword_lt h7) w)
      have HNR := Lib.hid ((nameRes_yes (isName_nword hg)).trans (by rw [wtext_nword h7]))
      have HRW := Lib.hid (fun (w : World) => ref_word s h7 w)
      have HBK := Lib.hid (fun (w : World) => bucket_yes s hg w)
      have HSUM : Hid (∀ w : World, Calls Try.prog 23 #[.slice (some ⟨w.heap.size, 0, none⟩) 1 1] (w.alloc (.cells #[.int .u64 (nword s : Nat)] 26)) fun e w' => e = .returned (.int .u32 (PackM.sum [nword s] : Nat)) ∧ (w.alloc (.cells #[.int .u64 (nword s : Nat)] 26)) = w') := by
        intro w
        exact ref_sum [nword s] (by simpa using nword_lt h7) (lit_one w (nword s))
      have hsl := PackM.sum_lt [nword s]
      have hbk : bucketOf s = PackM.sum [nword s] % 4 := rfl
      generalize PackM.sum [nword s] = S at HSUM hsl hbk
      generalize nword s = x at HW HN HNR HRW HSUM
      have hbk2 : ((bucketOf s : Nat) : Int) = (S : Int) % 4 := by rw [hbk]; omega
      generalize bucketOf s = B at HBK hbk2
      have HBB := Lib.hid hbk2
      have hxx : ((x : Int) == (x : Int)) = true := by simp
      clear hbk hbk2 hg
      go_enter Try.func8, Try.ntmps8
      go_wp2_with fail
      refine (awake2 _).mono ?_
      rintro e w1 ⟨rfl, hb1⟩
      have HB1 := Lib.hid hb1
      clear hb1
      go_wp2_with fail
      refine (HW.out _).mono ?_
      rintro e w2 ⟨rfl, hb2⟩
      have HB2 := Lib.hid (HB1.out.trans (hb2.mono HB1.out.size))
      clear hb2
      go_wp2_with (first | (go_at_call 38; refine (good_any s HS.out _).mono ?_; rintro e w' ⟨rfl, rfl⟩; rw [HG.out]) | (go_at_call 28; refine (ref_good s HS.out _).mono ?_; rintro e w' ⟨rfl, rfl⟩; rw [HG.out]))
      refine (HN.out _).mono ?_
      rintro e w3 ⟨rfl, hb3⟩
      rw [HNR.out]
      have HB3 := Lib.hid (HB2.out.trans (hb3.mono HB2.out.size))
      clear hb3
      go_wp2_with (first | (go_at_call 29; refine (HRW.out _).mono ?_; rintro e w' ⟨rfl, rfl⟩))
      refine (HBK.out _).mono ?_
      rintro e w4 ⟨rfl, hb4⟩
      rw [HBB.out]
      have HB4 := Lib.hid (HB3.out.trans (hb4.mono HB3.out.size))
      clear hb4
      go_wp2_with (first | (go_at_call 23; refine (HSUM.out _).mono ?_; rintro e w' ⟨rfl, rfl⟩; have hs2 : (S : Int) < 4294967296 := by omega))
      go_ret
      exact ⟨by simp, HB4.out.alloc HB4.out.size _⟩
end Go.Proofs.Ytcbcemeagiociaa
