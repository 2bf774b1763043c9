/-
  Commit words, the commit word stored, pairs put in their places, a commit: contracts. No condition but the bounds that are typed.
-/
import Derived.Test.YtfpnmphmngdkdaaPlog3
namespace Go.Proofs.Ytfpnmphmngdkdaa
open Go.ChangeShapes Go.WideShapes Go.ChangeAt Go.RowKit Go.Maps
set_option linter.unusedSimpArgs false
set_option linter.unusedVariables false

noncomputable def sumI (xs : List Int) : Nat := PackM.sum (xs.map Int.toNat)
noncomputable def commitW (ps : List (Int × Int)) : Int := (ps.length : Int) * 4294967296 + (sumI (pairWords ps) : Int)

/-- Words are numbers from 0 on. -/
def Pos (ps : List (Int × Int)) : Prop := ∀ x ∈ ps, (0 ≤ x.1 ∧ x.1 ≤ 9223372036854775807) ∧ 0 ≤ x.2 ∧ x.2 < 18446744073709551616

theorem pairWords_mem {ps : List (Int × Int)} (h : Pos ps) : ∀ z ∈ pairWords ps, 0 ≤ z ∧ z < 18446744073709551616 := by
  intro z hz
  unfold pairWords at hz
  rw [List.mem_flatMap] at hz
  obtain ⟨x, hx, hz⟩ := hz
  have := h x hx
  simp at hz
  rcases hz with rfl | rfl <;> omega

theorem natInts_toNat (xs : List Int) (h : ∀ z ∈ xs, 0 ≤ z) : natInts (xs.map Int.toNat) = xs := by
  unfold natInts
  rw [List.map_map]
  conv => rhs; rw [← List.map_id xs]
  apply List.map_congr_left
  intro z hz
  have := h z hz
  simp
  omega

set_option maxRecDepth 20000 in
theorem plog_commitWord {w : World} {lv : Value} {ps : List (Int × Int)} (hl : HoldsL w lv ps) (hw : Pos ps) (hb : ps.length < 4294967296) :
    Calls Try.prog 73 #[lv] w fun e w' => e = .returned (.int .u64 (commitW ps)) ∧ Below w.heap.size w w' := by
  have HWD := Lib.hid (plog_words hl hw (by omega))
  have hsum : ∀ (v' : Value) (w1 : World), w1.ownsRow w.heap.size 41 1 v' (2 * ps.length) (u64s (pairWords ps)) → Calls Try.prog 121 #[v'] w1 fun e w' => e = .returned (.int .u32 (sumI (pairWords ps) : Nat)) ∧ Below w1.heap.size w1 w' := by
    intro v' w1 ho
    refine sum_any ((pairWords ps).map Int.toNat) ?_ ?_
    · intro x hx
      obtain ⟨z, hz, rfl⟩ := List.mem_map.1 hx
      have := pairWords_mem hw z hz
      omega
    · rw [natInts_toNat _ (fun z hz => (pairWords_mem hw z hz).1)]
      rw [← pairWords_len] at ho
      exact holdsU_of_own ho
  have HS := Lib.hid hsum
  have hfin : commitW ps = (ps.length : Int) * 4294967296 + (sumI (pairWords ps) : Int) := rfl
  have HF := Lib.hid hfin
  have hslt : sumI (pairWords ps) < 4294967296 := PackM.sum_lt _
  generalize sumI (pairWords ps) = s at HS HF hslt
  obtain ⟨ao, c, rfl, hlc, hcm, -⟩ := hl
  generalize ps.length = n at hb HF HWD HS
  clear hsum hfin
  unfold maxLen at hcm
  go_enter Try.func73, Try.ntmps73
  go_wp2_with fail
  refine HWD.out.mono ?_
  rintro e w1 ⟨v', rfl, ho1, hb1⟩
  have HB := Lib.hid hb1
  have HS1 := Lib.hid (HS.out v' w1 ho1)
  obtain ⟨ao', cap', rfl, -, -, -⟩ := own_shape ho1
  clear ho1 hb1
  go_wp2_with fail
  refine HS1.out.mono ?_
  rintro e w2 ⟨rfl, hb2⟩
  have HB2 : Hid (Below w.heap.size w w2) := HB.out.trans (hb2.mono HB.out.size)
  clear hb2
  have hor : bits .or .u64 ((n : Int) * 4294967296) (s : Int) = (n : Int) * 4294967296 + (s : Int) :=
    u64_join 32 _ _ (by omega) (by omega) (by rw [show ((n : Int) * 4294967296).toNat = n * 4294967296 by omega]; exact Nat.mul_mod_left _ _) (by omega) (by omega) (by omega)
  have hs0 : (0 : Int) ≤ (s : Int) := Int.natCast_nonneg _
  go_wp2
  go_ret
  rw [HF.out]
  exact ⟨rfl, HB2.out⟩

def Pm.mark (S : Pm) (x : Int) : Pm × Int := S.write [(8, x)]
def Pm.doneP (S : Pm) (l : List (Int × Int)) : Pm × Int := if (S.write l).2 = 0 then (S.write l).1.mark 0 else S.write l

set_option maxRecDepth 20000 in
theorem plog_mark {w : World} {p : Nat} {D : Nat → Prop} {S : Pm} (h : PmAt w p D S) (x : Int) (h0 : 0 ≤ x) (h1 : x < 18446744073709551616) (hb : S.deeds + 2 < 1099511627776) :
    Calls Try.prog 77 #[.pointer (some ⟨p, 0, none⟩), .int .u64 x] w fun e w' => e = .returned (.int .i64 (S.mark x).2) ∧ PmAt w' p D (S.mark x).1 ∧ Mod D w w' := by
  have hlt := h.lt
  have hw : ∀ o, o = Obj.cells #[.int .i64 8, .int .u64 x] 50 (0, 0) → Hid (Calls Try.prog 74 #[.pointer (some ⟨p, 0, none⟩), .slice (some ⟨w.heap.size, 0, none⟩) 1 1] (w.alloc o) fun e w' => e = .returned (.int .i64 (S.mark x).2) ∧ PmAt w' p D (S.mark x).1 ∧ Mod D (w.alloc o) w') := by
    rintro o rfl
    refine plog_write (h.mod (D0 := nob) ((Mod.refl nob w).alloc _) (fun _ _ h => h)) (ps := [(8, x)]) ⟨_, 1, rfl, Nat.le_refl _, by unfold maxLen; omega, fun j hj => ?_⟩ ?_ ?_ (by simp; omega)
    · have hj0 : j = 0 := by simpa using hj
      subst hj0
      exact ⟨w.heap.size, 0, rfl, boxed_new w _ _ _ 0, boxed_new w _ _ _ 1⟩
    · intro g hg hd
      cases hg
      exact absurd (hlt _ hd) (Nat.lt_irrefl _)
    · intro y hy
      simp at hy
      subst hy
      exact ⟨by simp, h0, h1⟩
  clear hlt
  go_enter Try.func77, Try.ntmps77
  go_wp2_with fail
  refine (hw _ rfl).out.mono ?_
  rintro e w1 ⟨rfl, h1, m1⟩
  have H1 := Lib.hid h1
  have M1 := Lib.hid m1
  clear h1 m1 hw
  go_wp2
  go_ret
  exact ⟨rfl, H1.out, ((Mod.refl D w).alloc _).step M1.out (fun _ h => h)⟩

set_option maxRecDepth 20000 in
theorem plog_done {w : World} {p : Nat} {D : Nat → Prop} {S : Pm} (h : PmAt w p D S) {lv : Value} {ps : List (Int × Int)} (hl : HoldsL w lv ps) (hd : ∀ g, lv.ownBlock = some g → ¬ D g) (hw : Word64 ps) (hb : S.deeds + 2 * ps.length + 3 < 1099511627776) :
    Calls Try.prog 78 #[.pointer (some ⟨p, 0, none⟩), lv] w fun e w' => e = .returned (.int .i64 (S.doneP ps).2) ∧ PmAt w' p D (S.doneP ps).1 ∧ Mod D w w' := by
  have HWR := Lib.hid (plog_write h hl hd hw (by omega))
  have hfin : S.doneP ps = if (S.write ps).2 = 0 then (S.write ps).1.mark 0 else S.write ps := rfl
  have hdd := Pm.write_deeds S ps
  generalize hT : (S.write ps) = T at HWR hfin hdd
  obtain ⟨T, e1⟩ := T
  simp only at HWR hfin hdd
  obtain ⟨ao, c, rfl, -, -, -⟩ := hl
  by_cases he : e1 = 0
  · subst he
    rw [if_pos rfl] at hfin
    have HF := Lib.hid hfin
    clear h hfin hT
    go_enter Try.func78, Try.ntmps78
    go_wp2_with fail
    refine HWR.out.mono ?_
    rintro e w1 ⟨rfl, h1, m1⟩
    have H1 := Lib.hid (plog_mark h1 0 (by omega) (by omega) (by omega))
    have M1 := Lib.hid m1
    clear h1 m1
    go_wp2_with fail
    refine H1.out.mono ?_
    rintro e w2 ⟨rfl, h2, m2⟩
    have H2 := Lib.hid h2
    have M2 := Lib.hid m2
    clear h2 m2
    go_wp2
    go_ret
    rw [HF.out]
    exact ⟨rfl, H2.out, M1.out.step M2.out (fun _ h => h)⟩
  · rw [if_neg he] at hfin
    have hne : (e1 != 0) = true := by simpa using he
    have HF := Lib.hid hfin
    clear h hfin hT he
    go_enter Try.func78, Try.ntmps78
    go_wp2_with fail
    refine HWR.out.mono ?_
    rintro e w1 ⟨rfl, h1, m1⟩
    have H1 := Lib.hid h1
    have M1 := Lib.hid m1
    clear h1 m1
    go_wp2
    go_ret
    rw [HF.out]
    exact ⟨rfl, H1.out, M1.out⟩
end Go.Proofs.Ytfpnmphmngdkdaa
