/-
  Pairs written: a contract of the journal's write. No condition but the bounds that are typed.
-/
import Derived.Test.YtfpnmphmngdkdaaPlogM
import Derived.Test.YtfpnmphmngdkdaaPm6
import Derived.Test.YtfpnmphmngdkdaaPairC
namespace Go.Proofs.Ytfpnmphmngdkdaa
open Go.ChangeShapes Go.WideShapes Go.ChangeAt Go.RowKit Go.Maps
set_option linter.unusedSimpArgs false
set_option linter.unusedVariables false

/-- What a slice value of pairs holds, wherever it lies. -/
def HoldsL (w : World) (v : Value) (ps : List (Int × Int)) : Prop :=
  ∃ ao c, v = .slice ao ps.length c ∧ ps.length ≤ c ∧ c ≤ maxLen ∧ ∀ j, j < ps.length → ∃ g o, ao = some ⟨g, o, none⟩ ∧ w.cell? ⟨g, o + j * 2, none⟩ = some (.int .i64 (ps.getD j (0, 0)).1) ∧ w.cell? ⟨g, o + j * 2 + 1, none⟩ = some (.int .u64 (ps.getD j (0, 0)).2)

theorem HoldsL.mod {w w' : World} {v : Value} {ps : List (Int × Int)} (h : HoldsL w v ps) {D : Nat → Prop} (hm : Mod D w w') (hd : ∀ g, v.ownBlock = some g → ¬ D g) : HoldsL w' v ps := by
  obtain ⟨ao, c, rfl, h1, h2, h3⟩ := h
  refine ⟨ao, c, rfl, h1, h2, fun j hj => ?_⟩
  obtain ⟨g, o, rfl, e1, e2⟩ := h3 j hj
  exact ⟨g, o, rfl, hm.cell e1 (hd g rfl), hm.cell e2 (hd g rfl)⟩

theorem HoldsL.below {w w' : World} {v : Value} {ps : List (Int × Int)} (h : HoldsL w v ps) (hb : Below w.heap.size w w') : HoldsL w' v ps :=
  h.mod (mod_of_below hb) (fun _ _ h => h)

theorem HoldsL.of_own {w : World} {base m : Nat} {v : Value} {ps : List (Int × Int)} (hm : m = ps.length) (h : w.ownsRow base 50 2 v m (cellsI ps)) : HoldsL w v ps := by
  obtain ⟨ao, cap, e, h1⟩ := holdsP_of_own hm h
  obtain ⟨ao', cap', e', h2, h3, -⟩ := own_shape h
  rw [e] at e'
  simp only [Value.slice.injEq] at e'
  obtain ⟨rfl, -, rfl⟩ := e'
  refine ⟨ao, cap, e, by omega, h3, fun j hj => ?_⟩
  obtain ⟨g, hg, e1, e2⟩ := h1 j hj
  exact ⟨g, 0, hg, by rw [Nat.zero_add]; exact e1, by rw [Nat.zero_add]; exact e2⟩

/-- A map that counts. -/
def MetR (w : World) (b n : Nat) (f : Int → Nat) : Prop :=
  ∃ D : DataW Unit, w.ownsMap Try.prog 3 (plainElem Try.prog 3) b n D ∧ (∀ z : Int, D.atKey (.int .i64 z) (.lit (.int .i64 0)) = .lit (.int .i64 (f z : Nat))) ∧ ∀ z, f z ≤ n

theorem MetR.made (w : World) : MetR (w.alloc (.map #[] 0)) w.heap.size 0 (fun _ => 0) :=
  ⟨.map [], World.ownsMap_made w _ _ _, fun _ => rfl, fun _ => Nat.le_refl _⟩

theorem MetR.mod {w w' : World} {b n : Nat} {f : Int → Nat} (h : MetR w b n f) {D0 : Nat → Prop} (hm : Mod D0 w w') (hn : ¬ D0 b) : MetR w' b n f := by
  obtain ⟨D, ho, r⟩ := h
  refine ⟨D, ?_, r⟩
  obtain ⟨es, clock, hb, F, hs, hD⟩ := ho
  exact ⟨es, clock, hm.heap hb hn, F, hs, hD⟩

theorem MetR.lt {w : World} {b n : Nat} {f : Int → Nat} (h : MetR w b n f) : b < w.heap.size := by
  obtain ⟨D, h, _⟩ := h
  exact h.lt

theorem Try.zeroI64 (w : World) : (zeroValue 3).run Try.prog w = .ok (.int .i64 0) w := by kernel_rfl

theorem wf_count {n : Nat} (h : n ≤ 1099511627776) : (Lit.int .i64 (n : Int)).wf = true := by
  simp [Lit.wf, IntKind.min, IntKind.max, IntKind.signed, IntKind.bits]
  omega

section
variable {ops : Array Oper} {rest : List Oper} {o : Oper} {a : Act} {Q : Exit → Act → World → Prop} {w : World}

theorem wp_lookM (hg : o.guard = none) (m x : Operand) (hop : o.op = Op.lookup 151 m x false) (b n : Nat) (f : Int → Nat) (hm : a.eval m = .map (some b)) (h : MetR w b n f)
    (z : Int) (hz : (Lit.int .i64 z).wf = true) (hx : a.eval x = .int .i64 z) (hK : wpList Try.prog ops Q rest (a.put o.dst (.int .i64 (f z : Nat))) w) :
    wpList Try.prog ops Q (o :: rest) a w := by
  obtain ⟨D, hown, hf, -⟩ := h
  refine wpList_lookup_own_int w hg m x 151 hop 3 3 .i64 Try.lawInt Try.underlying151 Try.underlying3 (Try.zeroI64 w) b n D hm hown _ _ hx (keyOf_int_mk Try.underlying3 hz) ?_
  intro c hc _
  rw [hf z] at hc
  cases hc
  exact hK

theorem wp_putM (hg : o.guard = none) (m x v : Operand) (hop : o.op = Op.mapUpdate 151 m x v) (b n : Nat) (f : Int → Nat) (hm : a.eval m = .map (some b)) (h : MetR w b n f) (hn : n < 1099511627776)
    (z : Int) (hz : (Lit.int .i64 z).wf = true) (hx : a.eval x = .int .i64 z) (hv : a.eval v = .int .i64 ((f z : Nat) + 1 : Int))
    (hK : ∀ w', MetR w' b (n + 1) (inc f z) → w.grownBy w' (some b) → wpList Try.prog ops Q rest (a.put o.dst undef) w') :
    wpList Try.prog ops Q (o :: rest) a w := by
  obtain ⟨D, hown, hf, hle⟩ := h
  have hfz := hle z
  have hT := hown.tidy Try.lawInt
  refine wpList_mapUpdate_own _ hg m x v 151 hop 3 3 Try.lawInt Try.underlying151 _ b n _ hm hown (by unfold maxLen; omega) _ _ _ hx hv (keyOf_int_mk Try.underlying3 hz) _ [] (plainElem_int Try.underlying3 (wf_count (n := f z + 1) (by omega))) ?_
  intro w1 hown1 hgr1
  refine hK w1 ⟨_, hown1, fun y => ?_, inc_le hle z⟩ hgr1
  by_cases e : y = z
  · subst e
    rw [Maps.atKey_put_same hT.isMap (show WideAt.IsKeyLit (.int .i64 y) from trivial)]
    simp [inc]
  · rw [Maps.atKey_put_other (key_ne e), hf y]
    simp [inc, e]
end

theorem drop_at {ps : List (Int × Int)} {k : Nat} (hk : k < ps.length) : ps.drop k = ps.getD k (0, 0) :: ps.drop (k + 1) := by
  rw [List.drop_eq_getElem_cons hk, List.getD_eq_getElem?_getD, List.getElem?_eq_getElem hk]
  rfl

theorem getD_mem {ps : List (Int × Int)} {k : Nat} (hk : k < ps.length) : ps.getD k (0, 0) ∈ ps := by
  rw [List.getD_eq_getElem?_getD, List.getElem?_eq_getElem hk]
  exact List.getElem_mem hk

def Word64 (ps : List (Int × Int)) : Prop := ∀ x ∈ ps, (-9223372036854775808 ≤ x.1 ∧ x.1 ≤ 9223372036854775807) ∧ 0 ≤ x.2 ∧ x.2 < 18446744073709551616

set_option maxRecDepth 20000 in
set_option maxHeartbeats 1000000 in
theorem plog_write {w : World} {p : Nat} {D : Nat → Prop} {S : Pm} (h : PmAt w p D S) {lv : Value} {ps : List (Int × Int)} (hl : HoldsL w lv ps) (hd : ∀ g, lv.ownBlock = some g → ¬ D g) (hw : Word64 ps) (hb : S.deeds + 2 * ps.length < 1099511627776) :
    Calls Try.prog 74 #[.pointer (some ⟨p, 0, none⟩), lv] w fun e w' => e = .returned (.int .i64 (S.write ps).2) ∧ PmAt w' p D (S.write ps).1 ∧ Mod D w w' := by
  have HS := Lib.hid h
  have HW := Lib.hid hw
  have HD := Lib.hid hd
  have HL := Lib.hid hl
  obtain ⟨ao, c, rfl, hlc, hcm, -⟩ := hl
  obtain ⟨n, hn⟩ : ∃ n, n = ps.length := ⟨_, rfl⟩
  rw [← hn] at HL HD hb hlc ⊢
  have HN := Lib.hid hn
  have hcell : Hid (∀ wr, Mod D w wr → ∀ j, j < n → ∃ g o, ao = some ⟨g, o, none⟩ ∧ wr.cell? ⟨g, o + j * 2, none⟩ = some (.int .i64 (ps.getD j (0, 0)).1) ∧ wr.cell? ⟨g, o + j * 2 + 1, none⟩ = some (.int .u64 (ps.getD j (0, 0)).2)) := by
    intro wr hm j hj
    obtain ⟨ao', c', e, -, -, h3⟩ := HL.out.mod hm HD.out
    rw [← hn] at e h3
    simp only [Value.slice.injEq] at e
    obtain ⟨rfl, -, rfl⟩ := e
    exact h3 j hj
  unfold maxLen at hcm
  have hmm := @run_makeMap Try.prog
  clear h hw hd hn
  go_enter Try.func74, Try.ntmps74
  go_wp2
  go_loopg [15] n (fun gk i wr => ∃ (k : Nat) (T : Pm), k + gk = n ∧ i = .int .i64 k ∧ T.deeds ≤ S.deeds + k ∧ Hid (S.storeAll ps = T.storeAll (ps.drop k)) ∧ Hid (PmAt wr p D T) ∧ Hid (Mod D w wr))
  case atStart => exact ⟨0, S, by omega, rfl, by omega, by rw [List.drop_zero]; rfl, HS.out, Mod.refl _ _⟩
  case round =>
    obtain ⟨k, T, hk, rfl, hdT, HE, HT, HM⟩ := hrel
    by_cases hlt : k < n
    · obtain ⟨g, o, rfl, e1, e2⟩ := hcell.out wr HM.out k hlt
      have hmem := HW.out _ (getD_mem (by rw [← HN.out]; exact hlt))
      have hE := HE.out
      rw [drop_at (by rw [← HN.out]; exact hlt)] at hE
      generalize ps.getD k (0, 0) = x at e1 e2 hmem hE
      obtain ⟨at_, wd⟩ := x
      simp only at e1 e2 hmem
      obtain ⟨-, hwd0, hwd1⟩ := hmem
      have HE2 := Lib.hid hE
      clear hE
      have HTA := fun o => Lib.hid (HT.out.mod (D0 := nob) ((Mod.refl nob wr).alloc o) (fun _ _ h => h))
      have HST := fun o => Lib.hid (pm_store (HTA o).out (by omega) at_ wd hwd0 hwd1)
      by_cases hmay : T.may at_ = 0
      · rw [hmay] at HST
        have HMAY := Lib.hid hmay
        have hds := T.store_deeds at_ wd
        clear hmay
        go_wp2_with fail
        refine (HST _).out.mono ?_
        rintro e w2 ⟨rfl, h2, m2⟩
        have HT2 := Lib.hid h2
        have HM2 : Hid (Mod D w w2) := (HM.out.alloc _).step m2 (fun _ h => h)
        clear h2 m2 HST HTA
        go_wp2
        go_roundg (gk - 1)
        case measure => omega
        case rel => exact ⟨k + 1, T.store at_ wd, by omega, by go_num, by omega, HE2.out.trans (if_pos HMAY.out), HT2.out, HM2.out⟩
      · have hne : (T.may at_ != 0) = true := by simpa using hmay
        have hfin : Hid (S.write ps = (T, T.may at_)) := by
          have h1 : S.storeAll ps = (T, T.may at_) := HE2.out.trans (if_neg hmay)
          unfold Hid Pm.write
          rw [h1, if_neg hmay]
        have hst : T.store at_ wd = T := if_neg hmay
        rw [hst] at HST
        generalize T.may at_ = y at HST hne hfin
        clear hmay hst
        go_wp2_with fail
        refine (HST _).out.mono ?_
        rintro e w2 ⟨rfl, h2, m2⟩
        have HT2 := Lib.hid h2
        have HM2 : Hid (Mod D w w2) := (HM.out.alloc _).step m2 (fun _ h => h)
        clear h2 m2 HST HTA
        go_wp2
        go_ret
        rw [hfin.out]
        exact ⟨rfl, HT2.out, HM2.out⟩
    · obtain rfl : k = n := by omega
      have hE : S.storeAll ps = (T, 0) := by
        have := HE.out
        rw [List.drop_of_length_le (by have := HN.out; omega)] at this
        exact this
      have HWR : Hid (S.write ps = T.flushes ps) := by
        unfold Hid Pm.write
        rw [hE, if_pos rfl]
      have HIN := Lib.hid (Pm.storeAll_in ps S (by rw [hE]))
      have hTn : T.n = S.n := by
        have := Pm.storeAll_n ps S
        rw [hE] at this
        exact this
      have HTN := Lib.hid hTn
      clear hE HE hTn
      have HSN := HS.out.ok.n
      go_wp2_with fail
      have HT0 : Hid (PmAt (wr.alloc (.map #[] 0)) p D T) := HT.out.mod (D0 := nob) ((Mod.refl nob wr).alloc _) (fun _ _ h => h)
      have HM0 : Hid (Mod D w (wr.alloc (.map #[] 0))) := HM.out.alloc _
      have HMET := Lib.hid (MetR.made wr)
      have hmb : w.heap.size ≤ wr.heap.size := HM.out.size
      generalize wr.heap.size = mb at HMET hmb ⊢
      generalize wr.alloc (.map #[] 0) = wm at HT0 HM0 HMET ⊢
      clear HT HM
      go_loopg [32] k (fun gk i wq => ∃ (j : Nat) (U : Pm) (f : Int → Nat), j + gk = k ∧ i = .int .i64 j ∧ U.deeds ≤ T.deeds + j ∧ (∀ z, f z ≤ j) ∧ Hid (T.flushAll (fun _ => 0) ps = U.flushAll f (ps.drop j)) ∧ Hid (MetR wq mb j f) ∧ Hid (PmAt wq p D U) ∧ Hid (Mod D w wq) ∧ Hid (U.n = S.n))
      case atStart => exact ⟨0, T, _, by omega, rfl, by omega, (fun _ => Nat.le_refl _), by rw [List.drop_zero]; rfl, HMET.out, HT0.out, HM0.out, HTN.out⟩
      case round =>
        obtain ⟨j, U, f, hj, rfl, hdU, hfj, HE, HMT, HU, HMU, HUN⟩ := hrel
        by_cases hlt : j < k
        · obtain ⟨g, o, rfl, e1, e2⟩ := hcell.out wr HMU.out j hlt
          have hin := HIN.out _ (getD_mem (by rw [← HN.out]; exact hlt))
          have hE := HE.out
          rw [drop_at (by rw [← HN.out]; exact hlt)] at hE
          generalize ps.getD j (0, 0) = x at e1 e2 hin hE
          obtain ⟨at_, wd⟩ := x
          simp only at e1 e2 hin
          obtain ⟨hat0, hat1⟩ := hin
          have HE2 := Lib.hid hE
          have hat2 : at_ < 10000 := by omega
          have hmay : U.may at_ = U.may at_ := rfl
          have hfz := hfj (at_ / 8)
          have hmbq := HMT.out.lt
          have HFJ := Lib.hid hfj
          have HDM : Hid (∀ b, D b → ¬ some mb = some b) := fun b hb e => by cases e; have := HS.out.lt _ hb; omega
          have HMA := fun o => Lib.hid (HMT.out.mod (D0 := nob) ((Mod.refl nob wr).alloc o) (fun h => h))
          have HUA := fun o => Lib.hid (HU.out.mod (D0 := nob) ((Mod.refl nob wr).alloc o) (fun _ _ h => h))
          have hwz : (Lit.int .i64 (at_ / 8)).wf = true := by
            obtain ⟨a, rfl⟩ := Int.eq_ofNat_of_zero_le hat0
            exact wf_count (n := a / 8) (by omega)
          have HWZ := Lib.hid hwz
          have hinc : inc f (at_ / 8) (at_ / 8) = f (at_ / 8) + 1 := if_pos rfl
          have HINC := Lib.hid hinc
          clear hE hfj hmay hwz hinc
          by_cases hmet : 0 < f (at_ / 8)
          · have HB : Hid (T.flushAll (fun _ => 0) ps = U.flushAll (inc f (at_ / 8)) (ps.drop (j + 1))) := HE2.out.trans (if_pos hmet)
            go_wp2_with (first
              | (at_lookup; refine wp_lookM rfl (.tmp 39) (.tmp 40) rfl mb j f rfl (HMA _).out _ HWZ.out rfl ?_)
              | (at_mapUpdate; refine wp_putM rfl _ _ _ rfl mb j f rfl (HMA _).out (by omega) _ HWZ.out rfl rfl ?_; intro w3 hm3 hg3; have HM3 := Lib.hid hm3; have HG3 := Lib.hid hg3; clear hm3 hg3)
              | (at_lookup; refine wp_lookM rfl (.tmp 43) (.tmp 44) rfl mb (j + 1) (inc f (at_ / 8)) rfl HM3.out _ HWZ.out rfl ?_; rw [HINC.out]))
            go_roundg (gk - 1)
            case measure => omega
            case rel =>
              exact ⟨j + 1, U, inc f (at_ / 8), by omega, by go_num, by omega, inc_le HFJ.out _, HB.out, HM3.out, (HUA _).out.mod (mod_of_grown HG3.out) HDM.out, (HMU.out.alloc _).trans ((mod_of_grown HG3.out).mono (fun b hb e => by cases e; exact .inr ⟨hmb, hb⟩)), HUN.out⟩
          · have hf0 : f (at_ / 8) = 0 := by omega
            rw [hf0] at HINC
            have HF0 := Lib.hid hf0
            have HBOX : Hid (¬ some mb = some wr.heap.size) := fun e => by cases e; omega
            have hds := U.flush_deeds at_
            by_cases hmay : U.may at_ = 0
            · have HB : Hid (T.flushAll (fun _ => 0) ps = (U.flush at_).flushAll (inc f (at_ / 8)) (ps.drop (j + 1))) := HE2.out.trans ((if_neg (by simp only; omega)).trans (if_pos hmay))
              have HMY := Lib.hid hmay
              clear hmet hmay hf0
              go_wp2_with (first
              | (at_lookup; refine wp_lookM rfl (.tmp 39) (.tmp 40) rfl mb j f rfl (HMA _).out _ HWZ.out rfl ?_; rw [HF0.out])
              | (at_mapUpdate; refine wp_putM rfl _ _ _ rfl mb j f rfl (HMA _).out (by omega) _ HWZ.out rfl (by rw [HF0.out]; rfl) ?_; intro w3 hm3 hg3; have HM3 := Lib.hid hm3; have HG3 := Lib.hid hg3; have b3 := (mod_of_grown hg3).cell (boxed_new wr #[Value.int .i64 at_, .int .u64 wd] 50 (0, 0) 0) HBOX.out; clear hm3 hg3)
              | (at_lookup; refine wp_lookM rfl (.tmp 43) (.tmp 44) rfl mb (j + 1) (inc f (at_ / 8)) rfl HM3.out _ HWZ.out rfl ?_; rw [HINC.out]))
              have HU3 := Lib.hid ((HUA _).out.mod (mod_of_grown HG3.out) HDM.out)
              have hfl := pm_flush HU3.out (by omega) at_
              rw [HMY.out] at hfl
              refine hfl.mono ?_
              rintro e w4 ⟨rfl, h4, m4⟩
              have HU4 := Lib.hid h4
              have HM4 := Lib.hid m4
              have HMT4 := Lib.hid (HM3.out.mod m4 (fun h => HDM.out _ h rfl))
              clear hfl h4 m4
              go_wp2
              go_roundg (gk - 1)
              case measure => omega
              case rel =>
                exact ⟨j + 1, U.flush at_, inc f (at_ / 8), by omega, by go_num, by omega, inc_le HFJ.out _, HB.out, HMT4.out, HU4.out, ((HMU.out.alloc _).trans ((mod_of_grown HG3.out).mono (fun b hb e => by cases e; exact .inr ⟨hmb, hb⟩))).step HM4.out (fun _ h => h), by rw [Pm.flush_n]; exact HUN.out⟩
            · have hne : (U.may at_ != 0) = true := by simpa using hmay
              have hfin : Hid (S.write ps = (U, U.may at_)) := by
                have h1 : T.flushAll (fun _ => 0) ps = (U, U.may at_) := HE2.out.trans ((if_neg (by simp only; omega)).trans (if_neg hmay))
                unfold Hid
                rw [HWR.out]
                unfold Pm.flushes
                rw [h1, if_neg hmay]
              have hst : U.flush at_ = U := if_neg hmay
              have HST := Lib.hid hst
              have HFL0 := fun (w3 : World) (h : PmAt w3 p D U) => Lib.hid (pm_flush h (by omega) at_)
              rw [hst] at HFL0
              generalize U.may at_ = y at hne hfin HFL0
              clear hmet hmay hf0 hst
              go_wp2_with (first
              | (at_lookup; refine wp_lookM rfl (.tmp 39) (.tmp 40) rfl mb j f rfl (HMA _).out _ HWZ.out rfl ?_; rw [HF0.out])
              | (at_mapUpdate; refine wp_putM rfl _ _ _ rfl mb j f rfl (HMA _).out (by omega) _ HWZ.out rfl (by rw [HF0.out]; rfl) ?_; intro w3 hm3 hg3; have HM3 := Lib.hid hm3; have HG3 := Lib.hid hg3; have b3 := (mod_of_grown hg3).cell (boxed_new wr #[Value.int .i64 at_, .int .u64 wd] 50 (0, 0) 0) HBOX.out; clear hm3 hg3)
              | (at_lookup; refine wp_lookM rfl (.tmp 43) (.tmp 44) rfl mb (j + 1) (inc f (at_ / 8)) rfl HM3.out _ HWZ.out rfl ?_; rw [HINC.out]))
              have HU3 := Lib.hid ((HUA _).out.mod (mod_of_grown HG3.out) HDM.out)
              refine (HFL0 _ HU3.out).out.mono ?_
              rintro e w4 ⟨rfl, h4, m4⟩
              have HU4 := Lib.hid h4
              have HM4 := Lib.hid m4
              clear HFL0 h4 m4
              go_wp2
              go_ret
              rw [hfin.out]
              exact ⟨rfl, HU4.out, ((HMU.out.alloc _).trans ((mod_of_grown HG3.out).mono (fun b hb e => by cases e; exact .inr ⟨hmb, hb⟩))).step HM4.out (fun _ h => h)⟩
        · obtain rfl : j = k := by omega
          have hE : T.flushAll (fun _ => 0) ps = (U, 0) := by
            have := HE.out
            rw [List.drop_of_length_le (by have := HN.out; omega)] at this
            exact this
          have hfin : Hid (S.write ps = (U.fence, U.fenceE)) := by
            unfold Hid
            rw [HWR.out]
            unfold Pm.flushes
            rw [hE, if_pos rfl]
            rfl
          have HFE := Lib.hid (pm_fence HU.out (by omega))
          clear hE HE
          go_wp2_with fail
          refine HFE.out.mono ?_
          rintro e w4 ⟨rfl, h4, m4⟩
          have HU4 := Lib.hid h4
          have HM4 := Lib.hid m4
          clear HFE h4 m4
          go_wp2
          go_ret
          rw [hfin.out]
          exact ⟨rfl, HU4.out, HMU.out.step HM4.out (fun _ h => h)⟩
end Go.Proofs.Ytfpnmphmngdkdaa
