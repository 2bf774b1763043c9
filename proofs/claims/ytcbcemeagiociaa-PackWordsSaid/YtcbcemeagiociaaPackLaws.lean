/-
  The walks of the laws of layer 2: PackSums, PackWords, PackNames answer true, whatever comes in; nothing that was there is written.
-/
import Derived.Test.YtcbcemeagiociaaPackSum
namespace Go.Proofs.Ytcbcemeagiociaa
open Go.ChangeShapes Go.WideShapes Go.ChangeAt Go.RowKit
set_option linter.unusedSimpArgs false
set_option linter.unusedVariables false

theorem good_a : goodB (⟨#[97]⟩ : ByteArray).data.toList = true := by decide
theorem nword_a : nword ⟨#[97]⟩ = 72057594037928033 := by decide

theorem getD_mem (l : List Nat) (k : Nat) (h : k < l.length) : l.getD k 0 ∈ l := by
  rw [List.getD_eq_getElem?_getD, List.getElem?_eq_getElem h]
  exact List.getElem_mem h

theorem xor_word (x b a : Nat) (hx : x < 18446744073709551616) (hb : b < 256) (ha : a < 8) :
    bits .xor .u64 (x : Int) (IntKind.u64.wrap ((b : Int) * 2 ^ (8 * a))) = ((x ^^^ (b * 256 ^ a) : Nat) : Int) := by
  have hp : b * 256 ^ a < 18446744073709551616 := by
    have : 256 ^ a ≤ 256 ^ 7 := Nat.pow_le_pow_right (by decide) (by omega)
    have e : 256 ^ 7 = 72057594037927936 := by decide
    have h2 : b * 256 ^ a ≤ 255 * 256 ^ 7 := Nat.mul_le_mul (by omega) this
    omega
  have e : (b : Int) * 2 ^ (8 * a) = ((b * 256 ^ a : Nat) : Int) := by
    rw [show (256 : Nat) = 2 ^ 8 from rfl, ← Nat.pow_mul]
    simp
  rw [e, IntKind.wrap_u64, Int.emod_eq_of_lt (by omega) (by omega), u64_xor_nat _ _ hx hp]

theorem xor_word_lt (x b a : Nat) (hx : x < 18446744073709551616) (hb : b < 256) (ha : a < 8) : x ^^^ (b * 256 ^ a) < 18446744073709551616 := by
  have hp : b * 256 ^ a < 18446744073709551616 := by
    have : 256 ^ a ≤ 256 ^ 7 := Nat.pow_le_pow_right (by decide) (by omega)
    have e : 256 ^ 7 = 72057594037927936 := by decide
    have h2 : b * 256 ^ a ≤ 255 * 256 ^ 7 := Nat.mul_le_mul (by omega) this
    omega
  exact Nat.xor_lt_two_pow (n := 64) hx hp

theorem awake2 (w : World) : Calls Try.prog 21 #[] w fun e w' => e = .returned (.bool true) ∧ Below w.heap.size w w' := by
  have HW := Lib.hid (fun (w : World) => word_yes ⟨#[97]⟩ good_a w)
  have HN := Lib.hid nword_a
  go_enter Try.func21, Try.ntmps21
  go_wp2_with (go_at_call 37; refine (HW.out _).mono ?_; rintro e w1 ⟨rfl, hb1⟩; rw [HN.out])
  go_ret
  exact ⟨rfl, hb1⟩

set_option maxRecDepth 20000 in
set_option maxHeartbeats 800000 in
theorem law_sums_n (n : Nat) (l : List Nat) (hln : l.length = n) (hl : ∀ x ∈ l, x < 18446744073709551616) (at_ by_ : Nat) (hat : at_ < 256) (hby : by_ < 256) {v : Value} {w : World} (hv : HoldsU w v (natInts l)) :
    Calls Try.prog 5 #[v, .int .u8 at_, .int .u8 by_] w fun e w' => e = .returned (.bool true) ∧ Below w.heap.size w w' := by
  obtain ⟨i0, hi0, hz0, hz1, hz2⟩ := info_parts Try.infoU64
  have HLT := Lib.hid hl
  have HV := Lib.hid hv
  have hlen := (natInts_length l).trans hln
  have HLN := Lib.hid hln
  clear hln
  obtain ⟨ao, c, rfl, hao, hlc, hcm, hcells⟩ := hv
  rw [hlen] at hlc
  have HLEN := Lib.hid hlen
  unfold maxLen at hcm
  clear hl hcells hlen
  by_cases h200 : 200 < n
  · rw [HLEN.out]
    go_enter Try.func5, Try.ntmps5
    go_wp2_with fail
    refine (awake2 _).mono ?_
    rintro e w1 ⟨rfl, hb1⟩
    go_wp2_with fail
    refine (awake2 _).mono ?_
    rintro e w2 ⟨rfl, hb2⟩
    go_wp2
    go_ret
    exact ⟨rfl, hb1.trans (hb2.mono hb1.size)⟩
  · have HS := Lib.hid (fun (v : Value) (w : World) (h : HoldsU w v (natInts l)) => sum_any l HLT.out h)
    have HR := Lib.hid (fun (v : Value) (w : World) (h : HoldsU w v (natInts l)) => ref_sum l HLT.out h)
    have hsl := PackM.sum_lt l
    generalize hS : PackM.sum l = S at HS HR hsl
    have HSEQ := Lib.hid hS
    clear hS
    have hne : ((S : Int) != (S : Int)) = false := by simp
    rw [HLEN.out]
    go_enter Try.func5, Try.ntmps5
    go_wp2_with fail
    refine (awake2 _).mono ?_
    rintro e w1 ⟨rfl, hb1⟩
    have HB1 := Lib.hid hb1
    have HV1 := Lib.hid (HV.out.below hb1)
    clear hb1
    go_wp2_with fail
    rw [HLEN.out] at HV1
    refine (HS.out _ _ HV1.out).mono ?_
    rintro e w2 ⟨rfl, hb2⟩
    have HB2 := Lib.hid (HB1.out.trans (hb2.mono HB1.out.size))
    have HV2 := Lib.hid (HV1.out.below hb2)
    clear hb2
    go_wp2_with fail
    refine (HR.out _ _ HV2.out).mono ?_
    rintro e w3 ⟨rfl, rfl⟩
    by_cases h0 : n = 0
    · have hb0 : ((n : Int) == 0) = true := by rw [h0]; rfl
      go_wp2
      go_ret
      exact ⟨rfl, HB2.out⟩
    · have hb0 : ((n : Int) == 0) = false := beq_eq_false_iff_ne.2 (by omega)
      by_cases hby0 : by_ = 0
      · have hb3 : ((by_ : Int) == 0) = true := by rw [hby0]; rfl
        go_wp2
        go_ret
        exact ⟨rfl, HB2.out⟩
      · have hb3 : ((by_ : Int) == 0) = false := beq_eq_false_iff_ne.2 (by omega)
        obtain ⟨b, o, c', e, hbb, -, -, hcc⟩ := HV2.out.open (by rw [HLEN.out]; omega)
        simp only [Value.slice.injEq] at e
        obtain ⟨rfl, -, rfl⟩ := e
        have hn : 0 < n := by omega
        have hn' : (0 : Int) < n := by omega
        have hn1 : (1 : Int) ≤ n := by omega
        have hcells : ∀ j u, (u64s (natInts l))[j]? = some u → (w2.alloc (.cells #[] 26)).cell? ((⟨b, o, none⟩ : Addr).add j) = some u := by
          intro j u hu
          have hj : j < (natInts l).length := by
            have := (List.getElem?_eq_some_iff.1 hu).1
            simpa [u64s] using this
          have h1 := hcc j hj
          rw [Addr.add_lit, World.cell?_alloc_some _ _ _ (by rw [h1]; rfl), h1]
          rw [← hu]
          simp [u64s, hj]
        have HC := Lib.hid hcells
        have hone : ∀ u ∈ u64s (natInts l), u.oneCell' = true := ints_oneCell _ _
        have HO := Lib.hid hone
        have hl1 : (u64s (natInts l)).length = n * 1 := by simp [u64s, HLEN.out]
        have HL1 := Lib.hid hl1
        clear hcc hcells hone hl1 hao
        go_wp2_with (at_builtin; refine wpList_append_own _ rfl (.tmp 30) (.tmp 31) 24 rfl w2.heap.size 26 i0 (.int .u64 0) 1 8 Try.underlying24 hi0 hz0 hz1 hz2 rfl (by decide) _ 0 [] rfl (World.ownsRow_lit w2 #[] 0 (Nat.le_refl _) (Nat.zero_le _) rfl) ⟨b, o, none⟩ n c (u64s (natInts l)) rfl HL1.out HC.out HO.out (by unfold maxLen; omega) (by omega) (by simp) ?_)
        intro v' w4 hown4 hgr4 _
        have hk : at_ % n < n := Nat.mod_lt _ hn
        obtain ⟨g, cap, rfl, hg0, hg1, _, _⟩ := own_some hown4 hn
        have hck : w4.cell? ⟨g, at_ % n, none⟩ = some (.int .u64 ((l.getD (at_ % n) 0 : Nat) : Int)) := by
          rw [hown4.cellAt _ (by omega)]
          have hk2 : at_ % n < l.length := by rw [HLN.out]; exact hk
          simp [u64s, natInts, hk2]
        have hfz := hown4.frozenAt (at_ % n)
        have HOWN := Lib.hid hown4
        have HGR := Lib.hid hgr4
        have hxl : l.getD (at_ % n) 0 < 18446744073709551616 := HLT.out _ (getD_mem l _ (by rw [HLN.out]; exact hk))
        have HXL' := hxl
        generalize hkk : at_ % n = k at hk hck hfz hxl HXL'
        generalize hxx : l.getD k 0 = x at hck hxl
        have HXL := Lib.hid HXL'
        clear HXL'
        have HK := Lib.hid hkk
        have HX := Lib.hid hxx
        have hk' : ((at_ : Int) % (n : Int)) = (k : Int) := by have := HK.out; omega
        clear hown4 hgr4 hkk hxx hxl
        go_wp2_with fail
        have hst := HOWN.out.stored k (.int .u64 (bits BinOp.xor IntKind.u64 (↑x) (IntKind.u64.wrap (↑by_ * 2 ^ (8 * (at_ % 8))))))
        have hxw := xor_word x by_ (at_ % 8) (by rw [← HX.out]; exact HXL.out) hby (Nat.mod_lt _ (by decide))
        rw [hxw] at hst ⊢
        have hlt2 : x ^^^ (by_ * 256 ^ (at_ % 8)) < 18446744073709551616 := xor_word_lt x by_ (at_ % 8) (by rw [← HX.out]; exact HXL.out) hby (Nat.mod_lt _ (by decide))
        have hso := PackM.sum_otherwise l k by_ (at_ % 8) (by rw [HLN.out]; exact hk) hby hby0 (Nat.mod_lt _ (by decide))
        rw [HX.out, HSEQ.out] at hso
        generalize x ^^^ (by_ * 256 ^ (at_ % 8)) = y at hst hlt2 hso
        have hown5 : (w4.setCell ⟨g, k, none⟩ (.int .u64 (y : Nat))).ownsRow w2.heap.size 26 1 (.slice (some ⟨g, 0, none⟩) n cap) (natInts (l.set k y)).length (u64s (natInts (l.set k y))) := by
          have e1 : (natInts (l.set k y)).length = n := by simp [natInts, HLN.out]
          have e2 : u64s (natInts (l.set k y)) = (u64s (natInts l)).set k (.int .u64 (y : Nat)) := by simp [u64s, natInts]
          rw [e1, e2]
          exact hst.1
        have hv5 := holdsU_of_own hown5
        have hsum := sum_any (l.set k y) (fun z hz => by
          rcases List.mem_or_eq_of_mem_set hz with hz | hz
          · exact HLT.out z hz
          · rw [hz]; exact hlt2) hv5
        generalize PackM.sum (l.set k y) = S2 at hsum hso
        have hne2 : ((S2 : Int) != (S : Int)) = true := by rw [bne_iff_ne]; omega
        have hm5 : Below w.heap.size w (w4.setCell ⟨g, k, none⟩ (.int .u64 (y : Nat))) := by
          have h2 := HB2.out
          have h3 : Below w.heap.size w w4 := (h2.alloc h2.size _).grown HGR.out (by have := h2.size; simp; omega) (by intro j hj; simp [Value.ownBlock] at hj; have := h2.size; omega)
          exact h3.setCell (by have := h2.size; show _ ≤ g; omega) _
        have HM5 := Lib.hid hm5
        clear hst hown5 hv5 hm5 hso
        refine hsum.mono ?_
        rintro e w6 ⟨rfl, hb6⟩
        go_wp2
        go_ret
        exact ⟨rfl, HM5.out.trans (hb6.mono HM5.out.size)⟩

theorem law_sums (l : List Nat) (hl : ∀ x ∈ l, x < 18446744073709551616) (at_ by_ : Nat) (hat : at_ < 256) (hby : by_ < 256) {v : Value} {w : World} (hv : HoldsU w v (natInts l)) :
    Calls Try.prog 5 #[v, .int .u8 at_, .int .u8 by_] w fun e w' => e = .returned (.bool true) ∧ Below w.heap.size w w' :=
  law_sums_n l.length l rfl hl at_ by_ hat hby hv
end Go.Proofs.Ytcbcemeagiociaa
