import Derived.Test.YtcbcemeagiociaaPairs4
import Derived.Test.YtcbcemeagiociaaTxPutsM
import Derived.Test.YtcbcemeagiociaaTxPlacesWalk
import Derived.Test.YtcbcemeagiociaaPairRow
import Derived.Test.YtcbcemeagiociaaApp
import Derived.Maps.AppendAt
import Derived.Deep.DeepMust
namespace Go.Proofs.Ytcbcemeagiociaa
open Go.ChangeShapes Go.WideShapes Go.ChangeAt Go.RowKit
set_option linter.unusedSimpArgs false
set_option linter.unusedVariables false

/-- What a slice value of calls holds: kind, place, word. -/
def HoldsO (w : World) (v : Value) (l : List (Nat × Int × Nat)) : Prop :=
  ∃ ao c, v = .slice ao l.length c ∧ l.length ≤ c ∧ c ≤ maxLen ∧ ∀ j, j < l.length → ∃ g o, ao = some ⟨g, o, none⟩ ∧ w.cell? ⟨g, o + j * 3, none⟩ = some (.int .u8 ((l.getD j (0, 0, 0)).1 : Nat)) ∧
    w.cell? ⟨g, o + j * 3 + 1, none⟩ = some (.int .i64 (l.getD j (0, 0, 0)).2.1) ∧ w.cell? ⟨g, o + j * 3 + 2, none⟩ = some (.int .u64 ((l.getD j (0, 0, 0)).2.2 : Nat))

/-- Where the play stands: the sheet behind the puts, and the puts aside. -/
structure Play (w wr : World) (p : Nat) (D : Nat → Prop) (ws : List Int) (pv : Value) (ps : List (Int × Int)) (m : Nat) : Prop where
  sheet : SheetAt wr p D ((Sh.new ws).puts ps)
  own : wr.ownsRow w.heap.size 54 2 pv m (cellsI ps)
  len : m = ps.length
  aside : ∀ g, pv.ownBlock = some g → ¬ D g
  new : ∀ b, D b → w.heap.size ≤ b
  inr : InR ps
  word : ∀ x ∈ ps, 0 ≤ x.2 ∧ x.2 < 18446744073709551616
  below : Below w.heap.size w wr

theorem play_new {w wa w5 : World} {p : Nat} {D : Nat → Prop} {ws : List Int} {pv : Value} {ps : List (Int × Int)} {m : Nat} (h : Play w wa p D ws pv ps m) : ∀ b, grow D wa w5 b → w.heap.size ≤ b := by
  intro b hb
  rcases hb with hb | hb
  · exact h.new b hb
  · have := h.below.size; omega

theorem play_put {w wa w5 w2 : World} {p : Nat} {D : Nat → Prop} {ws : List Int} {pv v2 : Value} {ps : List (Int × Int)} {m : Nat} {i v : Int} (h : Play w wa p D ws pv ps m)
    (hs : SheetAt w5 p (grow D wa w5) (((Sh.new ws).puts ps).put i v)) (hm : Mod D wa w5) (hb : Mod nob w5 w2) (h0 : 0 ≤ i) (h1 : i < 3128) (h2 : 0 ≤ v) (h3 : v < 18446744073709551616)
    (ho : w2.ownsRow w5.heap.size 54 2 v2 (m + 1) (cellsI ps ++ [.int .i64 i, .int .u64 v])) : Play w w2 p (grow D wa w5) ws v2 (ps ++ [(i, v)]) (m + 1) := by
  have hw5 : Below w.heap.size w w5 := h.below.trans (hm.below h.below.size h.new)
  refine ⟨?_, ?_, by rw [List.length_append, ← h.len]; rfl, ?_, play_new h, ?_, ?_, hw5.trans (hb.below hw5.size (fun _ h => h.elim))⟩
  · rw [Sh.puts_snoc]
    exact hs.mod hb (fun _ _ h => h)
  · rw [cellsI_append]
    exact own_base ho hw5.size
  · intro g hg hd
    have a := own_ge ho g hg
    have b := hs.lt g hd
    omega
  · intro x hx
    rcases List.mem_append.1 hx with hx | hx
    · exact h.inr x hx
    · simp at hx; subst hx; exact ⟨h0, h1⟩
  · intro x hx
    rcases List.mem_append.1 hx with hx | hx
    · exact h.word x hx
    · simp at hx; subst hx; exact ⟨h2, h3⟩

theorem play_out {w wa w5 : World} {p : Nat} {D : Nat → Prop} {ws : List Int} {pv : Value} {ps : List (Int × Int)} {m : Nat} {i v : Int} (h : Play w wa p D ws pv ps m)
    (hs : SheetAt w5 p (grow D wa w5) (((Sh.new ws).puts ps).put i v)) (hm : Mod D wa w5) (ho : ¬ (0 ≤ i ∧ i < 3128)) : Play w w5 p (grow D wa w5) ws pv ps m := by
  have hw5 : Below w.heap.size w w5 := h.below.trans (hm.below h.below.size h.new)
  refine ⟨?_, hm.own h.own h.aside, h.len, ?_, play_new h, h.inr, h.word, hw5⟩
  · unfold Sh.put at hs
    rw [if_neg ho] at hs
    exact hs
  · intro g hg hd
    rcases hd with hd | hd
    · exact h.aside g hg hd
    · have : g < wa.heap.size := by
        have ho := h.own
        rcases ho.2 with ⟨rfl, _⟩ | ⟨g', cap, cur, rfl, hb, hgc, _⟩
        · cases hg
        · cases hg; exact lt_of_block hgc
      omega

set_option maxRecDepth 20000 in
set_option maxHeartbeats 2000000 in
theorem law_plays0 {w : World} {v ov : Value} {ws : List Int} {l : List (Nat × Int × Nat)} (nn mm : Nat) (hn : nn = ws.length) (hm : mm = l.length) (hv : HoldsU w v ws) (hwf : ∀ z ∈ ws, 0 ≤ z ∧ z < 18446744073709551616) (ho : HoldsO w ov l) (hlw : ∀ j, j < l.length → (l.getD j (0, 0, 0)).2.2 < 18446744073709551616) :
    Calls Try.prog 7 #[v, ov] w fun e w' => e = .returned (.bool true) ∧ Below w.heap.size w w' := by
  have HV := Lib.hid hv
  have HO := Lib.hid ho
  have HWF := Lib.hid hwf
  have HLW := Lib.hid hlw
  clear hlw
  obtain ⟨i0, hi0, hz0, hz1, hz2⟩ := info_parts Try.infoPair
  obtain ⟨ao, c, rfl, hao, hlc, hcm, hcells⟩ := hv
  obtain ⟨bo, d, rfl, hld, hdm, hcellso⟩ := ho
  rw [← hn] at HV hlc
  rw [← hm] at HO hld
  rw [← hn, ← hm]
  have HN := Lib.hid hn
  have HM := Lib.hid hm
  unfold maxLen at hcm hdm
  clear hcells hcellso hao hwf hn hm
  by_cases h1 : nn ≤ 100 ∧ mm ≤ 100
  · obtain ⟨h1, h2⟩ := h1
    go_enter Try.func7, Try.ntmps7
    go_wp2_with fail
    refine (awake4 _).mono ?_
    rintro e w1 ⟨rfl, hb1⟩
    have HB1 := Lib.hid hb1
    have HV1 := Lib.hid (HV.out.below hb1)
    clear hb1
    go_wp2_with fail
    refine (tx_new HV1.out HWF.out).mono ?_
    rintro e w2 ⟨p, rfl, hs2, hb2⟩
    have HS2 := Lib.hid hs2
    have HB2 := Lib.hid hb2
    clear hs2 hb2
    have HPL0 : Hid (Play w w2 p (grow nob w1 w2) ws (.slice none 0 0) [] 0) :=
      ⟨HS2.out, World.ownsRow_nil _ _ _ _, rfl, (by intro g hg; cases hg), (fun b hb => by rcases hb with hb | hb; exact hb.elim; have := HB1.out.size; omega), (by intro x hx; cases hx), (by intro x hx; cases hx), HB1.out.trans (HB2.out.mono HB1.out.size)⟩
    go_wp2_with fail
    go_loopg [6, 7] mm (fun g pv i wr => ∃ (k m : Nat) (ps : List (Int × Int)) (D : Nat → Prop), k + g = mm ∧ i = .int .i64 k ∧ m ≤ k ∧ Hid (Play w wr p D ws pv ps m))
    case atStart => exact ⟨0, 0, [], _, by omega, rfl, by omega, HPL0⟩
    case round =>
      obtain ⟨k, m, ps, D, hk, rfl, hmk, HPL⟩ := hrel
      by_cases hlt : k < mm
      · have hor := HO.out
        obtain ⟨bo', d', eo, -, -, hcell⟩ := hor
        rw [← HM.out] at eo hcell
        simp only [Value.slice.injEq] at eo
        obtain ⟨rfl, -, rfl⟩ := eo
        obtain ⟨og, oo, rfl, hk1, hk2, hk3⟩ := hcell k hlt
        have hbl := HPL.out.below
        have c1 := (hbl.cell (World.block_lt_of_cell? w _ hk1)).trans hk1
        have c2 := (hbl.cell (World.block_lt_of_cell? w _ hk2)).trans hk2
        have c3 := (hbl.cell (World.block_lt_of_cell? w _ hk3)).trans hk3
        have hw64 := HLW.out k (by rw [← HM.out]; exact hlt)
        generalize (l.getD k (0, 0, 0)).1 = kind at hk1 c1
        generalize (l.getD k (0, 0, 0)).2.1 = at_ at hk2 c2
        generalize (l.getD k (0, 0, 0)).2.2 = wd at hk3 c3 hw64
        have hsh := own_shape HPL.out.own
        obtain ⟨ao3, cap3, rfl, hcap3, -, -⟩ := hsh
        clear hcell hk1 hk2 hk3 hbl
        rcases (show kind % 3 = 0 ∨ kind % 3 = 1 ∨ kind % 3 = 2 by omega) with hkd | hkd | hkd
        · go_wp2_with fail
          have hbx := boxed_new wr #[Value.int .u8 (kind : Int), .int .i64 at_, .int .u64 (wd : Int)] 49 (0, 0)
          have HPA : Hid (Play w (wr.alloc (.cells #[Value.int .u8 (kind : Int), .int .i64 at_, .int .u64 (wd : Int)] 49)) p D ws (.slice ao3 m cap3) ps m) :=
            ⟨HPL.out.sheet.mod ((Mod.refl nob wr).alloc _) (fun _ _ h => h), HPL.out.own.alloc _, HPL.out.len, HPL.out.aside, HPL.out.new, HPL.out.inr, HPL.out.word, HPL.out.below.alloc HPL.out.below.size _⟩
          generalize wr.alloc (.cells #[Value.int .u8 (kind : Int), .int .i64 at_, .int .u64 (wd : Int)] 49) = wa at HPA hbx ⊢
          have b1 : wa.cell? ⟨wr.heap.size, 1, none⟩ = some (.int .i64 at_) := hbx 1
          have HG1 : Hid (∀ n, Calls Try.prog 31 #[.pointer (some ⟨p, 0, none⟩), .int .i64 at_] (wa.drewN n) fun e w' => e = .returned (.int .u64 (((Sh.new ws).puts ps).get at_)) ∧ w' = wa.drewN n) := fun n =>
            (sheet_get (HPA.out.sheet.mod ((Mod.refl nob wa).drewN n) (fun _ _ h => h)) at_).mono fun e w' ⟨h1, h2⟩ => ⟨h1, h2.symm⟩
          have HG2 : Hid (∀ n, Calls Try.prog 32 #[.slice ao nn c, .slice ao3 m cap3, .int .i64 at_] (wa.drewN n) fun e w' => e = .returned (.int .u64 (((Sh.new ws).puts ps).get at_)) ∧ w' = wa.drewN n) := fun n => by
            have hb := below_drewN HPA.out.below n
            have := ref4_get (HV.out.below hb) ((holdsP_of_own HPA.out.len HPA.out.own).below ((Below.refl _ _ : Below wa.heap.size wa wa) |> fun h => below_drewN h n)) (by have := HPA.out.len; omega) at_
            rw [← puts_get ws ps HPA.out.inr] at this
            exact this.mono fun e w' ⟨h1, h2⟩ => ⟨h1, h2.symm⟩
          generalize ((Sh.new ws).puts ps).get at_ = x at HG1 HG2
          have hxx : (x != x) = false := by simp
          clear hbx
          go_quiet ((first | (go_at_call 31; exact Calls.quiet_of_same (HG1.out _)) | (go_at_call 32; exact Calls.quiet_of_same (HG2.out _))))
          have HPQ : Hid (Play w (wa.drewN nq) p D ws (.slice ao3 m cap3) ps m) :=
            ⟨HPA.out.sheet.mod ((Mod.refl nob wa).drewN nq) (fun _ _ h => h), ((Mod.refl nob wa).drewN nq).own HPA.out.own (fun _ _ h => h), HPA.out.len, HPA.out.aside, HPA.out.new, HPA.out.inr, HPA.out.word, below_drewN HPA.out.below nq⟩
          have hmk' : ((Sh.new ws).puts ps).was.length = m := by rw [puts_was _ _ HPA.out.inr, HPA.out.len]; exact Nat.zero_add _
          have HMK := Lib.hid (sheet_mark HPQ.out.sheet)
          rw [hmk'] at HMK
          have hmm : ((m : Int) != (m : Int)) = false := by simp
          clear hmk'
          go_wp2_with fail
          refine HMK.out.mono ?_
          rintro e w' ⟨rfl, rfl⟩
          go_wp2
          go_roundg (mm - (k + 1))
          case measure => omega
          case rel => exact ⟨k + 1, m, ps, D, by omega, (by simp), by omega, HPQ⟩
        · go_upto_block 2 with (fail)
          have hbx := boxed_new wr #[Value.int .u8 (kind : Int), .int .i64 at_, .int .u64 (wd : Int)] 49 (0, 0)
          have HPA : Hid (Play w (wr.alloc (.cells #[Value.int .u8 (kind : Int), .int .i64 at_, .int .u64 (wd : Int)] 49)) p D ws (.slice ao3 m cap3) ps m) :=
            ⟨HPL.out.sheet.mod ((Mod.refl nob wr).alloc _) (fun _ _ h => h), HPL.out.own.alloc _, HPL.out.len, HPL.out.aside, HPL.out.new, HPL.out.inr, HPL.out.word, HPL.out.below.alloc HPL.out.below.size _⟩
          generalize wr.alloc (.cells #[Value.int .u8 (kind : Int), .int .i64 at_, .int .u64 (wd : Int)] 49) = wa at HPA hbx ⊢
          have b0 : wa.cell? ⟨wr.heap.size, 0, none⟩ = some (.int .u8 (kind : Int)) := hbx 0
          have b1 : wa.cell? ⟨wr.heap.size, 1, none⟩ = some (.int .i64 at_) := hbx 1
          have b2 : wa.cell? ⟨wr.heap.size, 2, none⟩ = some (.int .u64 wd) := hbx 2
          have hwl : ((Sh.new ws).puts ps).was.length = m := by rw [puts_was _ _ HPA.out.inr, HPA.out.len]; exact Nat.zero_add _
          clear hbx
          go_cut [6] (fun pv' wc => ∃ (m' : Nat) (ps' : List (Int × Int)) (D' : Nat → Prop), m' ≤ k + 1 ∧ Hid (Play w wc p D' ws pv' ps' m'))
          case first =>
            go_wp2_with fail
            refine (sheet_put HPA.out.sheet (by rw [hwl]; omega) at_ wd (by omega) (by omega)).mono ?_
            rintro e w5 ⟨rfl, hs5, hm5⟩
            have d1 : w5.cell? ⟨wr.heap.size, 1, none⟩ = some (.int .i64 at_) := hm5.cell b1 (fun hd => by have := HPL.out.sheet.lt _ hd; simp at this)
            have d2 : w5.cell? ⟨wr.heap.size, 2, none⟩ = some (.int .u64 wd) := hm5.cell b2 (fun hd => by have := HPL.out.sheet.lt _ hd; simp at this)
            have hlb : wr.heap.size < w5.heap.size := World.block_lt_of_cell? w5 _ d1
            have HS5 := Lib.hid hs5
            have HM5 := Lib.hid hm5
            have HO5 := Lib.hid (hm5.own HPA.out.own HPA.out.aside)
            clear b0 b1 b2 hs5 hm5 hwl
            by_cases hin : 0 ≤ at_ ∧ at_ < 3128
            · obtain ⟨hin1, hin2⟩ := hin
              go_wp2_with fail
              go_region_held3 (fun w' => w'.cell? ⟨wr.heap.size, 1, none⟩ = some (.int .i64 at_) ∧ w'.cell? ⟨wr.heap.size, 2, none⟩ = some (.int .u64 wd))
                (first
                  | go_keep
                  | exact ⟨hb2.cell d1 (fun h => h), hb2.cell d2 (fun h => h)⟩
                  | exact ⟨hb1.cell d1 (fun h => h), hb1.cell d2 (fun h => h)⟩
                  | exact ⟨(hb1.alloc _).cell d1 (fun h => h), (hb1.alloc _).cell d2 (fun h => h)⟩)
                (first
                  | (refine step_append_any (by rfl) (.tmp 77) (.tmp 78) _ (by rfl) w5.heap.size 54 i0 _ 2 16 Try.underlying47 hi0 hz0 hz1 hz2 rfl (by omega) (.slice (some ⟨w5.heap.size, 0, none⟩) 0 0) 0 [] (by rfl) (own_block (cs := #[]) (n := 0) ?_ (by omega) (Nat.zero_le _) rfl) _ m (cellsI ps) (by rfl) (HoldsC.mod (D := nob) (HoldsC.of_own HO5.out) ?_ (fun _ _ h => h)) (cellsI_len' _ _ HPA.out.len) (cellsI_one _) (by unfold maxLen; omega) (by omega) ?_ ?_
                     · first | exact heap_alloc_new _ _ | exact heap_new1 _ _ _ | exact heap_new0 _ _ _
                     · repeat (first | exact Mod.refl _ _ | refine Mod.drew ?_ | refine Mod.alloc ?_ _)
                     · first | (simp; done) | (simp; omega)
                     intro v' w1 hown1 hgrow hat
                     simp only [Nat.zero_add, List.nil_append] at hown1
                     have hb1 : Mod nob w5 w1 := mod_grown (by repeat (first | exact Mod.refl _ _ | refine Mod.drew ?_ | refine Mod.alloc ?_ _)) hgrow (by intro q hq; simp [Value.ownBlock] at hq; omega)
                     have hrow := own_ge hown1)
                  | (refine step_append_any (by rfl) (.tmp 77) (.tmp 78) _ (by rfl) w5.heap.size 54 i0 _ 2 16 Try.underlying47 hi0 hz0 hz1 hz2 rfl (by omega) (.slice (some ⟨(w5.heap.size + 1), 0, none⟩) 0 0) 0 [] (by rfl) (own_block (cs := #[]) (n := 0) ?_ (by omega) (Nat.zero_le _) rfl) _ m (cellsI ps) (by rfl) (HoldsC.mod (D := nob) (HoldsC.of_own HO5.out) ?_ (fun _ _ h => h)) (cellsI_len' _ _ HPA.out.len) (cellsI_one _) (by unfold maxLen; omega) (by omega) ?_ ?_
                     · first | exact heap_alloc_new _ _ | exact heap_new1 _ _ _ | exact heap_new0 _ _ _
                     · repeat (first | exact Mod.refl _ _ | refine Mod.drew ?_ | refine Mod.alloc ?_ _)
                     · first | (simp; done) | (simp; omega)
                     intro v' w1 hown1 hgrow hat
                     simp only [Nat.zero_add, List.nil_append] at hown1
                     have hb1 : Mod nob w5 w1 := mod_grown (by repeat (first | exact Mod.refl _ _ | refine Mod.drew ?_ | refine Mod.alloc ?_ _)) hgrow (by intro q hq; simp [Value.ownBlock] at hq; omega)
                     have hrow := own_ge hown1)
                  | (refine step_append_any (by rfl) (.tmp 79) (.tmp 85) _ (by rfl) w5.heap.size 54 i0 _ 2 16 Try.underlying47 hi0 hz0 hz1 hz2 rfl (by omega) v' m (cellsI ps) (by rfl) (Mod.own (D := nob) (w := w1) ?_ hown1 (fun _ _ h => h)) (.slice (some ⟨w5.heap.size, 0, none⟩) 1 1) 1 [.int .i64 at_, .int .u64 wd] (by rfl) (HoldsC.block (cs := #[.int .i64 at_, .int .u64 wd]) (t := 54) (fr := (0, 0)) ?_ (by unfold maxLen; omega)) (by rfl) (by simp [Value.oneCell']) (by unfold maxLen; omega) (by omega) ?_ ?_
                     · repeat (first | exact Mod.refl _ _ | refine Mod.drew ?_ | refine Mod.alloc ?_ _)
                     · first | exact heap_alloc_new _ _ | exact grown_heap hgrow (heap_new0 _ _ _) (by simp [Value.ownBlock]) | exact grown_heap hgrow (heap_new1 _ _ _) (by simp [Value.ownBlock])
                     · have := hb1.size; simp; omega
                     intro v2 w2 hown2 hgrow2 hat2
                     have hb2 : Mod nob w5 w2 := mod_grown (by repeat (first | exact hb1 | refine Mod.drew ?_ | refine Mod.alloc ?_ _)) hgrow2 hrow)
                  | (refine step_append_any (by rfl) (.tmp 79) (.tmp 85) _ (by rfl) w5.heap.size 54 i0 _ 2 16 Try.underlying47 hi0 hz0 hz1 hz2 rfl (by omega) v' m (cellsI ps) (by rfl) (Mod.own (D := nob) (w := w1) ?_ hown1 (fun _ _ h => h)) (.slice (some ⟨(w5.heap.size + 1), 0, none⟩) 1 1) 1 [.int .i64 at_, .int .u64 wd] (by rfl) (HoldsC.block (cs := #[.int .i64 at_, .int .u64 wd]) (t := 54) (fr := (0, 0)) ?_ (by unfold maxLen; omega)) (by rfl) (by simp [Value.oneCell']) (by unfold maxLen; omega) (by omega) ?_ ?_
                     · repeat (first | exact Mod.refl _ _ | refine Mod.drew ?_ | refine Mod.alloc ?_ _)
                     · first | exact heap_alloc_new _ _ | exact grown_heap hgrow (heap_new0 _ _ _) (by simp [Value.ownBlock]) | exact grown_heap hgrow (heap_new1 _ _ _) (by simp [Value.ownBlock])
                     · have := hb1.size; simp; omega
                     intro v2 w2 hown2 hgrow2 hat2
                     have hb2 : Mod nob w5 w2 := mod_grown (by repeat (first | exact hb1 | refine Mod.drew ?_ | refine Mod.alloc ?_ _)) hgrow2 hrow)
                  | ((refine step_append_any (by rfl) (.tmp 79) (.tmp 85) _ (by rfl) w5.heap.size 54 i0 _ 2 16 Try.underlying47 hi0 hz0 hz1 hz2 rfl (by omega) v' m (cellsI ps) (by rfl) (Mod.own (D := nob) (w := w1) ?_ hown1 (fun _ _ h => h)) (.slice (some ⟨w1.heap.size, 0, none⟩) 1 1) 1 [.int .i64 at_, .int .u64 wd] (by rfl) (HoldsC.block (cs := #[.int .i64 at_, .int .u64 wd]) (t := 54) (fr := (0, 0)) ?_ (by unfold maxLen; omega)) (by rfl) (by simp [Value.oneCell']) (by unfold maxLen; omega) (by omega) ?_ ?_)
                     · repeat (first | exact Mod.refl _ _ | refine Mod.drew ?_ | refine Mod.alloc ?_ _)
                     · first | exact heap_alloc_new _ _ | exact grown_heap hgrow (heap_new0 _ _ _) (by simp [Value.ownBlock]) | exact grown_heap hgrow (heap_new1 _ _ _) (by simp [Value.ownBlock])
                     · have := hb1.size; simp; omega
                     intro v2 w2 hown2 hgrow2 hat2
                     have hb2 : Mod nob w5 w2 := mod_grown (by repeat (first | exact hb1 | refine Mod.drew ?_ | refine Mod.alloc ?_ _)) hgrow2 hrow))
              all_goals
                clear hown1 hgrow hat hgrow2 hat2 hrow
                go_wp2_with fail
                go_meet
                case rel => exact ⟨m + 1, ps ++ [(at_, (wd : Int))], _, by omega, play_put HPA.out HS5.out HM5.out hb2 hin1 hin2 (by omega) (by omega) hown2⟩
            · have hq : Hid (¬ (0 ≤ at_ ∧ at_ < 3128)) := hin
              rcases (show at_ < 0 ∨ (0 ≤ at_ ∧ 3128 ≤ at_) by omega) with ha | ⟨ha, ha2⟩
              all_goals
                clear hin
                go_wp2_with fail
                go_meet
                case rel => exact ⟨m, ps, _, by omega, play_out HPA.out HS5.out HM5.out hq.out⟩
          case rest =>
            obtain ⟨m', ps', D', hm', HP⟩ := hcut
            have hsh' := own_shape HP.out.own
            obtain ⟨ao5, cap5, rfl, hcap5, -, -⟩ := hsh'
            have hmk' : ((Sh.new ws).puts ps').was.length = m' := by rw [puts_was _ _ HP.out.inr, HP.out.len]; exact Nat.zero_add _
            have HMK := Lib.hid (sheet_mark HP.out.sheet)
            rw [hmk'] at HMK
            have hmm : ((m' : Int) != (m' : Int)) = false := by simp
            clear hmk'
            go_wp2_with fail
            refine HMK.out.mono ?_
            rintro e w' ⟨rfl, rfl⟩
            go_wp2
            go_roundg (mm - (k + 1))
            case measure => omega
            case rel => exact ⟨k + 1, m', ps', D', by omega, (by simp), by omega, HP⟩
        · go_wp2_with fail
          have hbx := boxed_new wr #[Value.int .u8 (kind : Int), .int .i64 at_, .int .u64 (wd : Int)] 49 (0, 0)
          have HPA : Hid (Play w (wr.alloc (.cells #[Value.int .u8 (kind : Int), .int .i64 at_, .int .u64 (wd : Int)] 49)) p D ws (.slice ao3 m cap3) ps m) :=
            ⟨HPL.out.sheet.mod ((Mod.refl nob wr).alloc _) (fun _ _ h => h), HPL.out.own.alloc _, HPL.out.len, HPL.out.aside, HPL.out.new, HPL.out.inr, HPL.out.word, HPL.out.below.alloc HPL.out.below.size _⟩
          generalize wr.alloc (.cells #[Value.int .u8 (kind : Int), .int .i64 at_, .int .u64 (wd : Int)] 49) = wa at HPA hbx ⊢
          have b1 : wa.cell? ⟨wr.heap.size, 1, none⟩ = some (.int .i64 at_) := hbx 1
          have hwl : ((Sh.new ws).puts ps).was.length = m := by rw [puts_was _ _ HPA.out.inr, HPA.out.len]; exact Nat.zero_add _
          have HBA := Lib.hid (sheet_back HPA.out.sheet (by rw [hwl]; omega) at_)
          clear hbx hwl
          refine HBA.out.mono ?_
          rintro e w5 ⟨rfl, hs5, hm5⟩
          rw [back_puts ws ps HPA.out.inr] at hs5
          have key : ∀ m', m' ≤ m → m' = min at_.toNat m → Hid (Play w w5 p D ws (.slice ao3 m' cap3) (ps.take at_.toNat) m') := by
            intro m' h1 h2
            have h3 : ps.take at_.toNat = ps.take m' := by
              have hl := HPA.out.len
              by_cases h : at_.toNat ≤ m
              · rw [show m' = at_.toNat by omega]
              · rw [List.take_of_length_le (by omega), List.take_of_length_le (by omega)]
            rw [h3] at hs5 ⊢
            exact ⟨hs5, own_take HPA.out.len (hm5.own HPA.out.own HPA.out.aside) h1, by rw [List.length_take]; have := HPA.out.len; omega, (by intro g hg; refine HPA.out.aside g ?_; cases ao3 with | none => cases hg | some a => exact hg), HPA.out.new,
              (fun x hx => HPA.out.inr x (List.mem_of_mem_take hx)), (fun x hx => HPA.out.word x (List.mem_of_mem_take hx)), HPA.out.below.trans (hm5.below HPA.out.below.size HPA.out.new)⟩
          have HKEY := Lib.hid key
          have b5 : w5.cell? ⟨wr.heap.size, 1, none⟩ = some (.int .i64 at_) := hm5.cell b1 (fun hd => by have := HPL.out.sheet.lt _ hd; simp at this)
          clear key hs5 hm5
          have fin : ∀ m', m' ≤ m → m' = min at_.toNat m → Hid (Play w w5 p D ws (.slice ao3 m' cap3) (ps.take at_.toNat) m') ∧ Calls Try.prog 35 #[.pointer (some ⟨p, 0, none⟩)] w5 fun e w' => e = .returned (.int .i64 m') ∧ w5 = w' := by
            intro m' h1 h2
            have hp := HKEY.out m' h1 h2
            refine ⟨hp, ?_⟩
            have := sheet_mark hp.out.sheet
            rw [puts_was _ _ hp.out.inr, ← hp.out.len, show (Sh.new ws).was.length = 0 from rfl, Nat.zero_add] at this
            exact this
          rcases (show at_ < 0 ∨ (0 ≤ at_ ∧ at_ ≤ (m : Int)) ∨ (m : Int) < at_ by omega) with ha | ⟨ha, ha2⟩ | ha
          · obtain ⟨hp, hq⟩ := fin 0 (by omega) (by omega)
            have HQ := Lib.hid hq
            clear hq fin
            go_wp2_with (go_at_call 35; refine HQ.out.mono ?_; rintro e w' ⟨rfl, rfl⟩)
            go_roundg (mm - (k + 1))
            case measure => omega
            case rel => exact ⟨k + 1, 0, _, D, by omega, (by simp), by omega, hp⟩
          · obtain ⟨q, rfl⟩ := Int.eq_ofNat_of_zero_le ha
            obtain ⟨hp, hq⟩ := fin q (by omega) (by omega)
            have HQ := Lib.hid hq
            clear hq fin
            go_wp2_with (go_at_call 35; refine HQ.out.mono ?_; rintro e w' ⟨rfl, rfl⟩)
            go_roundg (mm - (k + 1))
            case measure => omega
            case rel => exact ⟨k + 1, q, _, D, by omega, (by simp), by omega, hp⟩
          · obtain ⟨hp, hq⟩ := fin m (by omega) (by omega)
            have HQ := Lib.hid hq
            clear hq fin
            go_wp2_with (go_at_call 35; refine HQ.out.mono ?_; rintro e w' ⟨rfl, rfl⟩)
            go_roundg (mm - (k + 1))
            case measure => omega
            case rel => exact ⟨k + 1, m, _, D, by omega, (by simp), by omega, hp⟩
      · have HV2 := Lib.hid (HV.out.below HPL.out.below)
        have HPP := Lib.hid (holdsP_of_own HPL.out.len HPL.out.own)
        have HPS := Lib.hid (pairs4 HPL.out.sheet HV2.out HPP.out (by have := HPL.out.len; omega) (fun i hi => puts_now ws ps HPL.out.inr i hi) (fun i hi => by rw [puts_beneath]; exact puts_now ws [] (by intro x hx; cases hx) i hi))
        go_wp2_with fail
        refine HPS.out.mono ?_
        rintro e w5 ⟨rfl, hb5⟩
        go_wp2
        go_ret
        exact ⟨rfl, HPL.out.below.trans (hb5.mono HPL.out.below.size)⟩
  · rcases (show 100 < nn ∨ (nn ≤ 100 ∧ 100 < mm) by omega) with h2 | ⟨h2, h3⟩
    all_goals
      clear h1
      go_enter Try.func7, Try.ntmps7
      go_wp2_with fail
      refine (awake4 _).mono ?_
      rintro e w1 ⟨rfl, hb1⟩
      go_wp2_with fail
      refine (awake4 _).mono ?_
      rintro e w2 ⟨rfl, hb2⟩
      go_wp2
      go_ret
      exact ⟨rfl, hb1.trans (hb2.mono hb1.size)⟩
end Go.Proofs.Ytcbcemeagiociaa
