/-
  The document's memory (imagoref01): a call: a contract. No condition but the bounds that are typed.
-/
import Derived.Test.YtfpnmphmngdkdaaRm2
import Derived.Test.YtfpnmphmngdkdaaPm3
namespace Go.Proofs.Ytfpnmphmngdkdaa
open Go.ChangeShapes Go.WideShapes Go.ChangeAt Go.RowKit
set_option linter.unusedSimpArgs false
set_option linter.unusedVariables false

/-- A call, by value. -/
def opVal (x : OpV) (kv : Value) : Value := .agg #[.int .u8 (x.kind : Nat), .int .i64 x.i, .int .i64 x.n, .int .u64 x.word, kv]
def opCells (x : OpV) (kv : Value) : Array Value := #[.int .u8 (x.kind : Nat), .int .i64 x.i, .int .i64 x.n, .int .u64 x.word, kv]

def DoPost (w : World) (q : Nat) (D : Nat → Prop) (R : Rm) (x : OpV) (e : Ending) (w' : World) : Prop :=
  e = .returned (.tuple #[.int .u64 (R.got x), .int .i64 (R.err x)]) ∧ RmAt w' q D (R.step x) ∧ Mod D w w'

/-- Behind the box. -/
theorem RmR.boxed {w : World} {q : Nat} {D : Nat → Prop} {R : Rm} {nv lv fv : Value} (h : RmR w q D R nv lv fv) (o : Obj) : RmR (w.alloc o) q D R nv lv fv := h.mod (D0 := nob) ((Mod.refl nob w).alloc _) (fun _ _ h => h)

theorem Rm.Ok.deed {R : Rm} (h : R.Ok) : -1 ≤ R.deed.fuse ∧ R.deed.fuse ≤ 9223372036854775807 := by
  have := h.fuse
  unfold Rm.deed
  simp only
  split <;> omega

/-- A deed counted. -/
theorem RmR.count {w : World} {q : Nat} {D : Nat → Prop} {R : Rm} {nv lv fv : Value} (h : RmR w q D R nv lv fv) {d f : Int} (hd : d = (R.deed.deeds : Int)) (hf : f = R.deed.fuse) :
    RmR ((w.setCell ⟨q, 3, none⟩ (.int .i64 d)).setCell ⟨q, 4, none⟩ (.int .i64 f)) q D R.deed nv lv fv := by
  subst hd hf
  have hm : Mod (fun b => b = q) w ((w.setCell ⟨q, 3, none⟩ (.int .i64 (R.deed.deeds : Int))).setCell ⟨q, 4, none⟩ (.int .i64 R.deed.fuse)) := ((Mod.refl (fun b => b = q) w).setCell (a := ⟨q, 3, none⟩) (.inl rfl) _).setCell (a := ⟨q, 4, none⟩) (.inl rfl) _
  refine h.setHead hm ?_ rfl rfl rfl rfl h.ok.deed
  rw [heap_setCell_same _ q 4 _ _ _ (heap_setCell_same w q 3 _ _ _ h.head)]
  rfl

theorem RmR.count0 {w : World} {q : Nat} {D : Nat → Prop} {R : Rm} {nv lv fv : Value} (h : RmR w q D R nv lv fv) {d : Int} (hd : d = (R.deed.deeds : Int)) (hf : R.fuse ≤ 0) :
    RmR (w.setCell ⟨q, 3, none⟩ (.int .i64 d)) q D R.deed nv lv fv := by
  subst hd
  have hm : Mod (fun b => b = q) w (w.setCell ⟨q, 3, none⟩ (.int .i64 (R.deed.deeds : Int))) := (Mod.refl (fun b => b = q) w).setCell (a := ⟨q, 3, none⟩) (.inl rfl) _
  refine h.setHead hm ?_ rfl rfl rfl rfl h.ok.deed
  rw [heap_setCell_same w q 3 _ _ _ h.head]
  have : R.deed.fuse = R.fuse := by unfold Rm.deed; simp only; rw [if_neg (by omega)]
  rw [this]
  rfl


theorem Rm.flushTo_zero (R : Rm) (a : Nat) : R.flushTo a 0 = R := by
  unfold Rm.flushTo
  simp

theorem Rm.flushTo_yes (R : Rm) {a i : Nat} (h : i / 8 = a) : R.flushTo a (i + 1) = { R.flushTo a i with fl := updB (R.flushTo a i).fl i true } := by
  unfold Rm.flushTo
  congr 1
  funext j
  simp only [updB]
  by_cases e : j = i
  · subst e
    rw [if_pos rfl, if_pos ⟨by omega, h⟩]
  · rw [if_neg e]
    by_cases h2 : j / 8 = a
    · by_cases h3 : j < i
      · rw [if_pos ⟨by omega, h2⟩, if_pos ⟨h3, h2⟩]
      · rw [if_neg (fun x => by omega), if_neg (fun x => h3 x.1)]
    · rw [if_neg (fun x => h2 x.2), if_neg (fun x => h2 x.2)]

theorem Rm.flushTo_no (R : Rm) {a i : Nat} (h : i / 8 ≠ a) : R.flushTo a (i + 1) = R.flushTo a i := by
  unfold Rm.flushTo
  congr 1
  funext j
  by_cases h2 : j / 8 = a
  · by_cases h3 : j < i
    · rw [if_pos ⟨by omega, h2⟩, if_pos ⟨h3, h2⟩]
    · rw [if_neg (fun x => by have := x.1; have : j ≠ i := fun e => h (e ▸ h2); omega), if_neg (fun x => h3 x.1)]
  · rw [if_neg (fun x => h2 x.2), if_neg (fun x => h2 x.2)]

theorem Rm.fenceTo_zero (R : Rm) : R.fenceTo 0 = R := by
  unfold Rm.fenceTo
  simp

theorem Rm.fenceTo_succ (R : Rm) (i : Nat) : R.fenceTo (i + 1) = { R.fenceTo i with last := upd (R.fenceTo i).last i (if R.fl i = true then R.now i else R.last i), fl := updB (R.fenceTo i).fl i false } := by
  unfold Rm.fenceTo
  simp only [Rm.mk.injEq, true_and, and_true]
  constructor
  · funext k
    simp only [upd]
    by_cases e : k = i
    · subst e
      simp
    · rw [if_neg e]
      by_cases h : k < i
      · simp [h, show k < i + 1 by omega]
      · simp [h, show ¬ k < i + 1 by omega]
  · exact upto_succ _ _ _

theorem Rm.fenceTo_at (R : Rm) (i : Nat) : (R.fenceTo i).last i = R.last i ∧ (R.fenceTo i).fl i = R.fl i := by
  unfold Rm.fenceTo
  simp

/-- The facts that each walk needs. -/
structure DoIn (w : World) (q : Nat) (x : OpV) (R : Rm) (kv nv lv fv : Value) (W : World) : Prop where
  b0 : W.cell? ⟨w.heap.size, 0, none⟩ = some (.int .u8 (x.kind : Nat))
  b1 : W.cell? ⟨w.heap.size, 1, none⟩ = some (.int .i64 x.i)
  b2 : W.cell? ⟨w.heap.size, 2, none⟩ = some (.int .i64 x.n)
  b3 : W.cell? ⟨w.heap.size, 3, none⟩ = some (.int .u64 x.word)
  b4 : W.cell? ⟨w.heap.size, 4, none⟩ = some kv
  c0 : W.cell? ⟨q, 0, none⟩ = some nv
  c1 : W.cell? ⟨q, 1, none⟩ = some lv
  c2 : W.cell? ⟨q, 2, none⟩ = some fv
  c3 : W.cell? ⟨q, 3, none⟩ = some (.int .i64 R.deeds)
  c4 : W.cell? ⟨q, 4, none⟩ = some (.int .i64 R.fuse)
  f3 : W.frozen? ⟨q, 3, none⟩ = false
  f4 : W.frozen? ⟨q, 4, none⟩ = false
  bq : ¬ w.heap.size = q
  qb : ¬ q = w.heap.size

theorem doIn {w : World} {q : Nat} {D : Nat → Prop} {R : Rm} {nv lv fv : Value} (h : RmR w q D R nv lv fv) (x : OpV) (kv : Value) :
    DoIn w q x R kv nv lv fv (w.alloc (.cells #[.int .u8 (x.kind : Nat), .int .i64 x.i, .int .i64 x.n, .int .u64 x.word, kv] 69)) := by
  have hbx := boxed_new w #[.int .u8 (x.kind : Nat), .int .i64 x.i, .int .i64 x.n, .int .u64 x.word, kv] 69 (0, 0)
  have h1 := h.boxed (.cells #[.int .u8 (x.kind : Nat), .int .i64 x.i, .int .i64 x.n, .int .u64 x.word, kv] 69 (0, 0))
  obtain ⟨c0, c1, c2, c3, c4⟩ := h1.cells
  have := h.lt q h.dq
  exact ⟨hbx 0, hbx 1, hbx 2, hbx 3, hbx 4, c0, c1, c2, c3, c4, h1.frozen 3, h1.frozen 4, by omega, by omega⟩

set_option maxRecDepth 20000 in
set_option maxHeartbeats 1000000 in
/-- The power is gone. -/
theorem rm_do_lost {w : World} {q : Nat} {D : Nat → Prop} {R : Rm} (h : RmAt w q D R) (x : OpV) (kv : Value) (hx : x.Ok) (hk : x.kind % 6 < 4) (hf : R.fuse = 0) :
    Calls Try.prog 54 #[.pointer (some ⟨q, 0, none⟩), opVal x kv] w (DoPost w q D R x) := by
  have HL := Lib.hid h
  obtain ⟨nv, lv, fv, h⟩ := h
  have H := Lib.hid h
  have HX := Lib.hid hx
  obtain ⟨b0, b1, b2, b3, b4, c0, c1, c2, c3, c4, f3, f4, bq, qb⟩ := doIn h x kv
  have H1 := Lib.hid (h.boxed (.cells #[.int .u8 (x.kind : Nat), .int .i64 x.i, .int .i64 x.n, .int .u64 x.word, kv] 69 (0, 0)))
  have HLT := Lib.hid h.lt
  unfold opVal
  have he : R.err x = 9 := by unfold Rm.err; rw [if_pos ⟨hk, hf⟩]
  have hg : R.got x = 0 := by unfold Rm.got; rw [if_neg (fun h => by rw [he] at h; cases h.1)]
  have hs : R.step x = R := by unfold Rm.step; rw [if_pos (by rw [he]; decide)]
  have HE : Hid (R.err x = 9 ∧ R.got x = 0 ∧ R.step x = R) := ⟨he, hg, hs⟩
  rw [hf] at c4
  have hki : ((x.kind : Nat) : Int) % 6 < 4 := by omega
  clear h hx he hg hs hf hk
  go_enter Try.func54, Try.ntmps54
  go_wp2_with fail
  refine bodyPost_ret (v := .tuple #[.int .u64 0, .int .i64 9]) (by simp [results, Try.results54, go_sem]) rfl ?_
  unfold DoPost
  rw [HE.out.1, HE.out.2.1, HE.out.2.2]
  exact ⟨rfl, ⟨nv, lv, fv, H1.out⟩, (Mod.refl D w).alloc _⟩
set_option maxRecDepth 20000 in
set_option maxHeartbeats 1000000 in
/-- There is no such word. -/
theorem rm_do_arg {w : World} {q : Nat} {D : Nat → Prop} {R : Rm} (h : RmAt w q D R) (x : OpV) (kv : Value) (hx : x.Ok) (hk : x.kind % 6 < 3) (hf : R.fuse ≠ 0) (hi : x.i < 0 ∨ (R.n : Int) ≤ x.i) :
    Calls Try.prog 54 #[.pointer (some ⟨q, 0, none⟩), opVal x kv] w (DoPost w q D R x) := by
  have HL := Lib.hid h
  obtain ⟨nv, lv, fv, h⟩ := h
  have H := Lib.hid h
  have HX := Lib.hid hx
  obtain ⟨b0, b1, b2, b3, b4, c0, c1, c2, c3, c4, f3, f4, bq, qb⟩ := doIn h x kv
  have H1 := Lib.hid (h.boxed (.cells #[.int .u8 (x.kind : Nat), .int .i64 x.i, .int .i64 x.n, .int .u64 x.word, kv] 69 (0, 0)))
  have HLT := Lib.hid h.lt
  unfold opVal
  have he : R.err x = 1 := by unfold Rm.err; rw [if_neg (fun h => hf h.2), if_pos ⟨hk, hi⟩]
  have hg : R.got x = 0 := by unfold Rm.got; rw [if_neg (fun h => by rw [he] at h; cases h.1)]
  have hs : R.step x = R := by unfold Rm.step; rw [if_pos (by rw [he]; decide)]
  have HE : Hid (R.err x = 1 ∧ R.got x = 0 ∧ R.step x = R) := ⟨he, hg, hs⟩
  obtain ⟨ao, cap, rfl, k1, k2⟩ := h.now.shape
  have hfb : (R.fuse == 0) = false := by simpa using hf
  have hki4 : ((x.kind : Nat) : Int) % 6 < 4 := by omega
  have hki : decide (((x.kind : Nat) : Int) % 6 < 3) = true := by simp; omega
  have hn := h.hn
  clear h hx he hg hs hf hk
  generalize x.i = xi at *
  by_cases hneg : xi < 0
  · have hd : decide (xi < 0) = true := by simpa using hneg
    go_enter Try.func54, Try.ntmps54
    go_wp2_with fail
    go_quiet (fail)
    go_wp2_with fail
    refine bodyPost_ret (v := .tuple #[.int .u64 0, .int .i64 1]) (by simp [results, Try.results54, go_sem]) rfl ?_
    unfold DoPost
    rw [HE.out.1, HE.out.2.1, HE.out.2.2]
    exact ⟨rfl, ⟨_, lv, fv, H1.out.mod (D0 := nob) ((Mod.refl nob _).drewN _) (fun _ _ h => h)⟩, ((Mod.refl D w).alloc _).drewN _⟩
  · have hd : decide (xi < 0) = false := by simpa using hneg
    have hge : (R.n : Int) ≤ xi := by omega
    have hd2 : decide ((R.n : Int) ≤ xi) = true := by simpa using hge
    go_enter Try.func54, Try.ntmps54
    go_wp2_with fail
    go_quiet (fail)
    go_wp2_with fail
    refine bodyPost_ret (v := .tuple #[.int .u64 0, .int .i64 1]) (by simp [results, Try.results54, go_sem]) rfl ?_
    unfold DoPost
    rw [HE.out.1, HE.out.2.1, HE.out.2.2]
    exact ⟨rfl, ⟨_, lv, fv, H1.out.mod (D0 := nob) ((Mod.refl nob _).drewN _) (fun _ _ h => h)⟩, ((Mod.refl D w).alloc _).drewN _⟩
set_option maxRecDepth 20000 in
set_option maxHeartbeats 1000000 in
/-- A word is read. -/
theorem rm_do_load {w : World} {q : Nat} {D : Nat → Prop} {R : Rm} (h : RmAt w q D R) (x : OpV) (kv : Value) (hx : x.Ok) (hk : x.kind % 6 = 1) (hf : R.fuse ≠ 0) (hi : 0 ≤ x.i ∧ x.i < (R.n : Int)) :
    Calls Try.prog 54 #[.pointer (some ⟨q, 0, none⟩), opVal x kv] w (DoPost w q D R x) := by
  have HL := Lib.hid h
  obtain ⟨nv, lv, fv, h⟩ := h
  have H := Lib.hid h
  have HX := Lib.hid hx
  obtain ⟨b0, b1, b2, b3, b4, c0, c1, c2, c3, c4, f3, f4, bq, qb⟩ := doIn h x kv
  have H1 := Lib.hid (h.boxed (.cells #[.int .u8 (x.kind : Nat), .int .i64 x.i, .int .i64 x.n, .int .u64 x.word, kv] 69 (0, 0)))
  have HLT := Lib.hid h.lt
  unfold opVal
  have he : R.err x = 0 := by unfold Rm.err; rw [if_neg (fun h => hf h.2), if_neg (fun h => by have := h.2; omega)]
  have hg : R.got x = R.now x.i.toNat := by unfold Rm.got; rw [if_pos ⟨he, hk⟩]
  have hs : R.step x = R := by unfold Rm.step; rw [if_neg (by rw [he]; decide), if_neg (by omega), if_pos hk]
  have hxi := Int.eq_ofNat_of_zero_le hi.1
  obtain ⟨m, hm⟩ := hxi
  have hmn : m < R.n := by omega
  obtain ⟨gn, cn, rfl, k1, k2, -, hcn⟩ := H1.out.now.pos (by omega)
  obtain ⟨a1, fa1⟩ := hcn m hmn
  have hd := decide_eq_false (p := x.i < 0) (by omega)
  have hd2 := decide_eq_false (p := (R.n : Int) ≤ x.i) (by omega)
  have hfb : (R.fuse == 0) = false := by simpa using hf
  have hmi : (m : Int) < (R.n : Int) := by omega
  have hm0 : (0 : Int) ≤ (m : Int) := by omega
  have hn := h.hn
  have hg2 : R.got x = R.now m := by rw [hg, hm]; rfl
  have HE : Hid (R.err x = 0 ∧ R.got x = R.now m ∧ R.step x = R) := ⟨he, hg2, hs⟩
  have hki : ((x.kind : Nat) : Int) % 6 = 1 := by omega
  generalize R.now m = y at *
  generalize x.i = xi at *
  subst hm
  clear h hx he hg hg2 hs hf hk hcn hi
  go_enter Try.func54, Try.ntmps54
  go_wp2_with fail
  go_quiet (fail)
  go_wp2_with fail
  go_region
  go_wp2_with fail
  refine bodyPost_ret (v := .tuple #[.int .u64 y, .int .i64 0]) (by simp [results, Try.results54, go_sem]) rfl ?_
  unfold DoPost
  rw [HE.out.1, HE.out.2.1, HE.out.2.2]
  exact ⟨rfl, ⟨_, lv, fv, H1.out.mod (D0 := nob) (((Mod.refl nob _).drewN _).drew) (fun _ _ h => h)⟩, (((Mod.refl D w).alloc _).drewN _).drew⟩
set_option maxRecDepth 20000 in
set_option maxHeartbeats 1000000 in
/-- A word is stored. -/
theorem rm_do_store {w : World} {q : Nat} {D : Nat → Prop} {R : Rm} (h : RmAt w q D R) (x : OpV) (kv : Value) (hx : x.Ok) (hd0 : R.deeds < 4611686018427387904) (hk : x.kind % 6 = 0) (hf : R.fuse ≠ 0) (hi : 0 ≤ x.i ∧ x.i < (R.n : Int)) :
    Calls Try.prog 54 #[.pointer (some ⟨q, 0, none⟩), opVal x kv] w (DoPost w q D R x) := by
  have HL := Lib.hid h
  obtain ⟨nv, lv, fv, h⟩ := h
  have H := Lib.hid h
  have HX := Lib.hid hx
  obtain ⟨b0, b1, b2, b3, b4, c0, c1, c2, c3, c4, f3, f4, bq, qb⟩ := doIn h x kv
  have H1 := Lib.hid (h.boxed (.cells #[.int .u8 (x.kind : Nat), .int .i64 x.i, .int .i64 x.n, .int .u64 x.word, kv] 69 (0, 0)))
  have HLT := Lib.hid h.lt
  unfold opVal
  have he : R.err x = 0 := by unfold Rm.err; rw [if_neg (fun h => hf h.2), if_neg (fun h => by have := h.2; omega)]
  have hg : R.got x = 0 := by unfold Rm.got; rw [if_neg (fun h => by omega)]
  have hs : R.step x = (R.store x.i.toNat x.word).deed := by unfold Rm.step; rw [if_neg (by rw [he]; decide), if_pos hk]
  have hxi := Int.eq_ofNat_of_zero_le hi.1
  obtain ⟨m, hm⟩ := hxi
  have hmn : m < R.n := by omega
  obtain ⟨gn, cn, rfl, k1, k2, -, hcn⟩ := H1.out.now.pos (by omega)
  obtain ⟨a1, fa1⟩ := hcn m hmn
  have hd := decide_eq_false (p := x.i < 0) (by omega)
  have hd2 := decide_eq_false (p := (R.n : Int) ≤ x.i) (by omega)
  have hfb : (R.fuse == 0) = false := by simpa using hf
  have hmi : (m : Int) < (R.n : Int) := by omega
  have hm0 : (0 : Int) ≤ (m : Int) := by omega
  have hn := h.hn
  obtain ⟨gf, cf, rfl, k5, k6, hgfl, hcf⟩ := H1.out.fl.shape
  obtain ⟨a3, fa3⟩ := hcf m hmn
  have hs2 : R.step x = (R.store m x.word).deed := by rw [hs, hm]; rfl
  have HE : Hid (R.err x = 0 ∧ R.got x = 0 ∧ R.step x = (R.store m x.word).deed) := ⟨he, hg, hs2⟩
  have hki : ((x.kind : Nat) : Int) % 6 = 0 := by omega
  have n1 : ¬ gn = q := H.out.nq gn rfl
  have n1' : ¬ q = gn := fun e => n1 e.symm
  have n3 : ¬ gf = q := H.out.fq gf rfl
  have n3' : ¬ q = gf := fun e => n3 e.symm
  have n5 : ¬ gf = gn := fun e => H.out.nf gn rfl (by rw [e]; rfl)
  have n5' : ¬ gn = gf := fun e => n5 e.symm
  have m1 : ¬ gn = w.heap.size := fun e => by have := H.out.lt gn (H.out.dn gn rfl); omega
  have m1' : ¬ w.heap.size = gn := fun e => m1 e.symm
  have m2 : ¬ gf = w.heap.size := fun e => by have := H.out.lt gf (H.out.df gf rfl); omega
  have m2' : ¬ w.heap.size = gf := fun e => m2 e.symm
  have HWD := Lib.hid hx.word
  have HFU := Lib.hid h.ok.fuse
  have hfu := h.ok.fuse
  generalize x.i = xi at *
  subst hm
  clear h hx he hg hs hs2 hf hk hcn hi hcf
  have HST : Hid (RmR ((((w.alloc (.cells #[.int .u8 (x.kind : Nat), .int .i64 (m : Int), .int .i64 x.n, .int .u64 x.word, kv] 69)).setCell ⟨gn, m, none⟩ (.int .u64 x.word)).setCell ⟨gf, m, none⟩ (.bool false))) q D (R.store m x.word) (.slice (some ⟨gn, 0, none⟩) R.n cn) lv (.slice (some ⟨gf, 0, none⟩) R.n cf)) :=
    (H1.out.setNow m x.word HWD.out.1 HWD.out.2).setFl m false
  have HMD : Hid (Mod D w ((((w.alloc (.cells #[.int .u8 (x.kind : Nat), .int .i64 (m : Int), .int .i64 x.n, .int .u64 x.word, kv] 69)).setCell ⟨gn, m, none⟩ (.int .u64 x.word)).setCell ⟨gf, m, none⟩ (.bool false)))) :=
    (((Mod.refl D w).alloc _).setCell (a := ⟨gn, m, none⟩) (.inl (H.out.dn gn rfl)) _).setCell (a := ⟨gf, m, none⟩) (.inl (H.out.df gf rfl)) _
  rcases (show 0 < R.fuse ∨ R.fuse ≤ 0 by omega) with hfp | hfp
  · have HFP := Lib.hid hfp
    go_enter Try.func54, Try.ntmps54
    go_wp2_with fail
    go_quiet (fail)
    go_wp2_with fail
    go_region
    go_wp2_with fail
    go_region
    go_wp2_with fail
    refine bodyPost_ret (v := .tuple #[.int .u64 0, .int .i64 0]) (by simp [results, Try.results54, go_sem]) rfl ?_
    unfold DoPost
    rw [HE.out.1, HE.out.2.1, HE.out.2.2]
    refine ⟨rfl, ⟨_, _, _, (HST.out.count rfl ?_).mod (D0 := nob) ((((Mod.refl nob _).drewN _).drew).drew) (fun _ _ h => h)⟩, ((((HMD.out.setCell (a := ⟨q, 3, none⟩) (.inl H.out.dq) _).setCell (a := ⟨q, 4, none⟩) (.inl H.out.dq) _).drewN _).drew).drew⟩
    show _ = (if 0 < R.fuse then R.fuse - 1 else R.fuse)
    rw [if_pos HFP.out]
  · have hfp' : ¬ 0 < R.fuse := by omega
    have HFP := Lib.hid hfp
    go_enter Try.func54, Try.ntmps54
    go_wp2_with fail
    go_quiet (fail)
    go_wp2_with fail
    go_region
    go_wp2_with fail
    go_region
    go_wp2_with fail
    refine bodyPost_ret (v := .tuple #[.int .u64 0, .int .i64 0]) (by simp [results, Try.results54, go_sem]) rfl ?_
    unfold DoPost
    rw [HE.out.1, HE.out.2.1, HE.out.2.2]
    exact ⟨rfl, ⟨_, _, _, (HST.out.count0 rfl HFP.out).mod (D0 := nob) ((((Mod.refl nob _).drewN _).drew).drew) (fun _ _ h => h)⟩, (((HMD.out.setCell (a := ⟨q, 3, none⟩) (.inl H.out.dq) _).drewN _).drew).drew⟩
set_option maxRecDepth 20000 in
set_option maxHeartbeats 1000000 in
/-- A line is flushed. -/
theorem rm_do_flush {w : World} {q : Nat} {D : Nat → Prop} {R : Rm} (h : RmAt w q D R) (x : OpV) (kv : Value) (hx : x.Ok) (hd0 : R.deeds < 4611686018427387904) (hk : x.kind % 6 = 2) (hf : R.fuse ≠ 0) (hi : 0 ≤ x.i ∧ x.i < (R.n : Int)) :
    Calls Try.prog 54 #[.pointer (some ⟨q, 0, none⟩), opVal x kv] w (DoPost w q D R x) := by
  have HL := Lib.hid h
  obtain ⟨nv, lv, fv, h⟩ := h
  have H := Lib.hid h
  have HX := Lib.hid hx
  obtain ⟨b0, b1, b2, b3, b4, c0, c1, c2, c3, c4, f3, f4, bq, qb⟩ := doIn h x kv
  have H1 := Lib.hid (h.boxed (.cells #[.int .u8 (x.kind : Nat), .int .i64 x.i, .int .i64 x.n, .int .u64 x.word, kv] 69 (0, 0)))
  have HLT := Lib.hid h.lt
  unfold opVal
  have he : R.err x = 0 := by unfold Rm.err; rw [if_neg (fun h => hf h.2), if_neg (fun h => by have := h.2; omega)]
  have hg : R.got x = 0 := by unfold Rm.got; rw [if_neg (fun h => by omega)]
  have hs : R.step x = (R.flushTo (x.i.toNat / 8) R.n).deed := by unfold Rm.step; rw [if_neg (by rw [he]; decide), if_neg (by omega), if_neg (by omega), if_pos hk]
  have hxi := Int.eq_ofNat_of_zero_le hi.1
  obtain ⟨m, hm⟩ := hxi
  have hmn : m < R.n := by omega
  obtain ⟨gn, cn, rfl, k1, k2, -, hcn⟩ := H1.out.now.pos (by omega)
  obtain ⟨a1, fa1⟩ := hcn m hmn
  have hd := decide_eq_false (p := x.i < 0) (by omega)
  have hd2 := decide_eq_false (p := (R.n : Int) ≤ x.i) (by omega)
  have hfb : (R.fuse == 0) = false := by simpa using hf
  have hmi : (m : Int) < (R.n : Int) := by omega
  have hm0 : (0 : Int) ≤ (m : Int) := by omega
  have hn := h.hn
  obtain ⟨N, hN⟩ : ∃ N, N = R.n := ⟨_, rfl⟩
  have hs2 : R.step x = (R.flushTo (m / 8) N).deed := by rw [hs, hm, hN]; rfl
  have HE : Hid (R.err x = 0 ∧ R.got x = 0 ∧ R.step x = (R.flushTo (m / 8) N).deed) := ⟨he, hg, hs2⟩
  have hki : ((x.kind : Nat) : Int) % 6 = 2 := by omega
  have hnd : ¬ D w.heap.size := fun e => by have := H.out.lt _ e; omega
  have HFU := Lib.hid h.ok.fuse
  generalize x.i = xi at *
  subst hm
  have B1 := Lib.hid b1
  have HN := Lib.hid hN
  rw [← hN] at c0 hd2 hmi hn
  clear h hx he hg hs hs2 hf hk hcn hi a1 fa1 hN k1 k2
  go_enter Try.func54, Try.ntmps54
  go_wp2_with fail
  go_quiet (fail)
  go_wp2_with fail
  have HM0 : Hid (Mod D (w.alloc (.cells #[.int .u8 (x.kind : Nat), .int .i64 (m : Int), .int .i64 x.n, .int .u64 x.word, kv] 69)) ((w.alloc (.cells #[.int .u8 (x.kind : Nat), .int .i64 (m : Int), .int .i64 x.n, .int .u64 x.word, kv] 69)).drewN nq)) := (Mod.refl D _).drewN nq
  go_loopg [7] N (fun gk iv wr => ∃ i : Nat, i + gk = N ∧ iv = .int .i64 i ∧ Hid (RmR wr q D (R.flushTo (m / 8) i) (.slice (some ⟨gn, 0, none⟩) R.n cn) lv fv) ∧ Hid (Mod D (w.alloc (.cells #[.int .u8 (x.kind : Nat), .int .i64 (m : Int), .int .i64 x.n, .int .u64 x.word, kv] 69)) wr))
  case atStart => exact ⟨0, by omega, rfl, by rw [Rm.flushTo_zero]; exact H1.out.mod (D0 := nob) ((Mod.refl nob _).drewN _) (fun _ _ h => h), HM0.out⟩
  case round =>
    obtain ⟨i, hi, rfl, HR, HMR⟩ := hrel
    clear b0 b1 b2 b3 b4 c0 c1 c2 c3 c4 f3 f4
    obtain ⟨c0, -, c2, c3, c4⟩ := HR.out.cells
    rw [← HN.out] at c0
    have b1 := HMR.out.cell B1.out hnd
    by_cases hlt : i < N
    · have hli : (i : Int) < (N : Int) := by omega
      have hi0 : (0 : Int) ≤ (i : Int) := Int.natCast_nonneg _
      obtain ⟨gf, cf, rfl, k5, k6, hgfl, hcf⟩ := HR.out.fl.shape
      obtain ⟨a3, fa3⟩ := hcf i (by rw [show (R.flushTo (m / 8) i).n = N from HN.out.symm]; exact hlt)
      rw [show (R.flushTo (m / 8) i).n = N from HN.out.symm] at c2
      have hfd := HR.out.df gf rfl
      clear hcf k5 k6 hgfl c3 c4
      by_cases hq : i / 8 = m / 8
      · have HQ := Lib.hid hq
        have hqi : (i : Int) / 8 = (m : Int) / 8 := by omega
        have hqb : ((i : Int) / 8 == (m : Int) / 8) = true := by simpa using hqi
        clear hq hqi
        go_wp2_with fail
        go_roundg (gk - 1)
        case measure => omega
        case rel => exact ⟨i + 1, by omega, by go_num, by rw [Rm.flushTo_yes R HQ.out]; exact HR.out.setFl i true, HMR.out.setCell (a := ⟨gf, i, none⟩) (.inl hfd) _⟩
      · have HQ := Lib.hid hq
        have hqi : ¬ (i : Int) / 8 = (m : Int) / 8 := by omega
        have hqb : ((i : Int) / 8 == (m : Int) / 8) = false := by simpa using hqi
        clear hq hqi
        go_wp2_with fail
        go_roundg (gk - 1)
        case measure => omega
        case rel => exact ⟨i + 1, by omega, by go_num, by rw [Rm.flushTo_no R HQ.out]; exact HR.out, HMR.out⟩
    · have hge : ¬ (i : Int) < (N : Int) := by omega
      obtain rfl : i = N := by omega
      have f3 := HR.out.frozen 3
      have f4 := HR.out.frozen 4
      have hfe : (R.flushTo (m / 8) i).fuse = R.fuse := rfl
      have hde : (R.flushTo (m / 8) i).deeds = R.deeds := rfl
      rw [hfe] at c4
      rw [hde] at c3
      have HMW : Hid (Mod D w wr) := (((Mod.refl D w).alloc _).step HMR.out (fun _ h => h))
      clear hfe hde
      have hfu := HFU.out
      rcases (show 0 < R.fuse ∨ R.fuse ≤ 0 by omega) with hfp | hfp
      · have HFP := Lib.hid hfp
        go_wp2_with fail
        refine bodyPost_ret (v := .tuple #[.int .u64 0, .int .i64 0]) (by simp [results, Try.results54, go_sem]) rfl ?_
        unfold DoPost
        rw [HE.out.1, HE.out.2.1, HE.out.2.2]
        refine ⟨rfl, ⟨_, _, _, HR.out.count rfl ?_⟩, (HMW.out.setCell (a := ⟨q, 3, none⟩) (.inl H.out.dq) _).setCell (a := ⟨q, 4, none⟩) (.inl H.out.dq) _⟩
        show _ = (if 0 < R.fuse then R.fuse - 1 else R.fuse)
        rw [if_pos HFP.out]
      · have hfp' : ¬ 0 < R.fuse := by omega
        have HFP := Lib.hid hfp
        go_wp2_with fail
        refine bodyPost_ret (v := .tuple #[.int .u64 0, .int .i64 0]) (by simp [results, Try.results54, go_sem]) rfl ?_
        unfold DoPost
        rw [HE.out.1, HE.out.2.1, HE.out.2.2]
        exact ⟨rfl, ⟨_, _, _, HR.out.count0 rfl HFP.out⟩, HMW.out.setCell (a := ⟨q, 3, none⟩) (.inl H.out.dq) _⟩
set_option maxRecDepth 20000 in
set_option maxHeartbeats 1000000 in
/-- What was flushed lasts. -/
theorem rm_do_fence {w : World} {q : Nat} {D : Nat → Prop} {R : Rm} (h : RmAt w q D R) (x : OpV) (kv : Value) (hx : x.Ok) (hd0 : R.deeds < 4611686018427387904) (hk : x.kind % 6 = 3) (hf : R.fuse ≠ 0) :
    Calls Try.prog 54 #[.pointer (some ⟨q, 0, none⟩), opVal x kv] w (DoPost w q D R x) := by
  have HL := Lib.hid h
  obtain ⟨nv, lv, fv, h⟩ := h
  have H := Lib.hid h
  have HX := Lib.hid hx
  obtain ⟨b0, b1, b2, b3, b4, c0, c1, c2, c3, c4, f3, f4, bq, qb⟩ := doIn h x kv
  have H1 := Lib.hid (h.boxed (.cells #[.int .u8 (x.kind : Nat), .int .i64 x.i, .int .i64 x.n, .int .u64 x.word, kv] 69 (0, 0)))
  have HLT := Lib.hid h.lt
  unfold opVal
  have he : R.err x = 0 := by unfold Rm.err; rw [if_neg (fun h => hf h.2), if_neg (fun h => by have := h.2; omega)]
  have hg : R.got x = 0 := by unfold Rm.got; rw [if_neg (fun h => by omega)]
  have hs : R.step x = (R.fenceTo R.n).deed := by unfold Rm.step; rw [if_neg (by rw [he]; decide), if_neg (by omega), if_neg (by omega), if_neg (by omega), if_pos hk]
  have hfb : (R.fuse == 0) = false := by simpa using hf
  have hn := h.hn
  obtain ⟨ao, cap, rfl, k1, k2⟩ := h.now.shape
  obtain ⟨N, hN⟩ : ∃ N, N = R.n := ⟨_, rfl⟩
  rw [← hN] at hs
  have HE : Hid (R.err x = 0 ∧ R.got x = 0 ∧ R.step x = (R.fenceTo N).deed) := ⟨he, hg, hs⟩
  have hki : ((x.kind : Nat) : Int) % 6 = 3 := by omega
  have hd3 : decide (((x.kind : Nat) : Int) % 6 < 3) = false := by rw [hki]; rfl
  have HFU := Lib.hid h.ok.fuse
  have HN := Lib.hid hN
  have hNI : ((N : Nat) : Int) ≤ 10000 := by omega
  rw [← hN] at c0 hn
  clear h hx he hg hs hf hk hN k1 k2
  go_enter Try.func54, Try.ntmps54
  go_wp2_with fail
  go_quiet (fail)
  go_wp2_with fail
  have HM0 : Hid (Mod D (w.alloc (.cells #[.int .u8 (x.kind : Nat), .int .i64 x.i, .int .i64 x.n, .int .u64 x.word, kv] 69)) ((w.alloc (.cells #[.int .u8 (x.kind : Nat), .int .i64 x.i, .int .i64 x.n, .int .u64 x.word, kv] 69)).drewN nq)) := (Mod.refl D _).drewN nq
  clear hki hd3
  go_loopg [8] N (fun gk iv wr => ∃ i : Nat, i + gk = N ∧ iv = .int .i64 i ∧ Hid (RmR wr q D (R.fenceTo i) (.slice ao R.n cap) lv fv) ∧ Hid (Mod D (w.alloc (.cells #[.int .u8 (x.kind : Nat), .int .i64 x.i, .int .i64 x.n, .int .u64 x.word, kv] 69)) wr))
  case atStart => exact ⟨0, by omega, rfl, by rw [Rm.fenceTo_zero]; exact H1.out.mod (D0 := nob) ((Mod.refl nob _).drewN _) (fun _ _ h => h), HM0.out⟩
  case round =>
    obtain ⟨i, hi, rfl, HR, HMR⟩ := hrel
    clear b0 b1 b2 b3 b4 c0 c1 c2 c3 c4 f3 f4
    obtain ⟨c0, c1, c2, c3, c4⟩ := HR.out.cells
    rw [← HN.out] at c0
    have hCn : (R.fenceTo i).n = N := HN.out.symm
    by_cases hlt : i < N
    · have hli : (i : Int) < (N : Int) := by omega
      have hi0 : (0 : Int) ≤ (i : Int) := Int.natCast_nonneg _
      obtain ⟨g, cap', e1, -, -, -, hc⟩ := HR.out.now.pos (by rw [hCn]; omega)
      simp only [Value.slice.injEq] at e1
      obtain ⟨rfl, -, rfl⟩ := e1
      obtain ⟨gl, capl, rfl, -, -, -, hc2⟩ := HR.out.last.pos (by rw [hCn]; omega)
      obtain ⟨gf, cf, rfl, -, -, -, hcf⟩ := HR.out.fl.shape
      rw [hCn] at c1 c2 hc hc2 hcf
      obtain ⟨a1, f1⟩ := hc i hlt
      obtain ⟨a2, f2⟩ := hc2 i hlt
      obtain ⟨a3, f3⟩ := hcf i hlt
      rw [(R.fenceTo_at i).1] at a2
      rw [(R.fenceTo_at i).2] at a3
      have a1' : wr.cell? ⟨g, i, none⟩ = some (.int .u64 (R.now i)) := a1
      have n2 : ¬ gl = q := HR.out.lq gl rfl
      have n2' : ¬ q = gl := fun e => n2 e.symm
      have n6 : ¬ gf = gl := fun e => HR.out.lf gl rfl (by rw [e]; rfl)
      have n6' : ¬ gl = gf := fun e => n6 e.symm
      have hld := HR.out.dl gl rfl
      have hfd := HR.out.df gf rfl
      have HSU := Lib.hid (R.fenceTo_succ i)
      have HLW := Lib.hid (R.fenceTo_at i)
      have HXW := Lib.hid (HR.out.ok.now i)
      have hxw : Hid (0 ≤ R.now i ∧ R.now i < 18446744073709551616) := HXW.out
      clear hc hc2 hcf hCn c3 c4 a1 HXW
      cases hfl : R.fl i with
      | true =>
        rw [hfl] at a3 HSU
        clear hfl
        generalize R.now i = y at *
        go_wp2_with fail
        go_region
        go_wp2_with fail
        go_roundg (gk - 1)
        case measure => omega
        case rel =>
          refine ⟨i + 1, by omega, by go_num, ?_, (HMR.out.drew.setCell (a := ⟨gl, i, none⟩) (.inl hld) _).setCell (a := ⟨gf, i, none⟩) (.inl hfd) _⟩
          rw [HSU.out]
          exact ((HR.out.mod (D0 := nob) ((Mod.refl nob wr).drew) (fun _ _ h => h)).setLast i y hxw.out.1 hxw.out.2).setFl i false
      | false =>
        have hul : upd (R.fenceTo i).last i (R.last i) = (R.fenceTo i).last := upd_eq HLW.out.1
        have HUL := Lib.hid hul
        rw [hfl] at a3 HSU
        clear hfl hul
        go_wp2_with fail
        go_roundg (gk - 1)
        case measure => omega
        case rel =>
          refine ⟨i + 1, by omega, by go_num, ?_, HMR.out.setCell (a := ⟨gf, i, none⟩) (.inl hfd) _⟩
          rw [HSU.out]
          simp only [Bool.false_eq_true, if_false]
          rw [HUL.out]
          exact HR.out.setFl i false
    · have hge : ¬ (i : Int) < (N : Int) := by omega
      obtain rfl : i = N := by omega
      have f3 := HR.out.frozen 3
      have f4 := HR.out.frozen 4
      have hfe : (R.fenceTo i).fuse = R.fuse := rfl
      have hde : (R.fenceTo i).deeds = R.deeds := rfl
      rw [hfe] at c4
      rw [hde] at c3
      have HMW : Hid (Mod D w wr) := (((Mod.refl D w).alloc _).step HMR.out (fun _ h => h))
      clear hfe hde hCn
      have hfu := HFU.out
      rcases (show 0 < R.fuse ∨ R.fuse ≤ 0 by omega) with hfp | hfp
      · have HFP := Lib.hid hfp
        go_wp2_with fail
        refine bodyPost_ret (v := .tuple #[.int .u64 0, .int .i64 0]) (by simp [results, Try.results54, go_sem]) rfl ?_
        unfold DoPost
        rw [HE.out.1, HE.out.2.1, HE.out.2.2]
        refine ⟨rfl, ⟨_, _, _, HR.out.count rfl ?_⟩, (HMW.out.setCell (a := ⟨q, 3, none⟩) (.inl H.out.dq) _).setCell (a := ⟨q, 4, none⟩) (.inl H.out.dq) _⟩
        show _ = (if 0 < R.fuse then R.fuse - 1 else R.fuse)
        rw [if_pos HFP.out]
      · have hfp' : ¬ 0 < R.fuse := by omega
        have HFP := Lib.hid hfp
        go_wp2_with fail
        refine bodyPost_ret (v := .tuple #[.int .u64 0, .int .i64 0]) (by simp [results, Try.results54, go_sem]) rfl ?_
        unfold DoPost
        rw [HE.out.1, HE.out.2.1, HE.out.2.2]
        exact ⟨rfl, ⟨_, _, _, HR.out.count0 rfl HFP.out⟩, HMW.out.setCell (a := ⟨q, 3, none⟩) (.inl H.out.dq) _⟩
set_option maxRecDepth 20000 in
set_option maxHeartbeats 1000000 in
/-- The fuse is set. -/
theorem rm_do_blow {w : World} {q : Nat} {D : Nat → Prop} {R : Rm} (h : RmAt w q D R) (x : OpV) (kv : Value) (hx : x.Ok) (hk : x.kind % 6 = 4) :
    Calls Try.prog 54 #[.pointer (some ⟨q, 0, none⟩), opVal x kv] w (DoPost w q D R x) := by
  have HL := Lib.hid h
  obtain ⟨nv, lv, fv, h⟩ := h
  have H := Lib.hid h
  have HX := Lib.hid hx
  obtain ⟨b0, b1, b2, b3, b4, c0, c1, c2, c3, c4, f3, f4, bq, qb⟩ := doIn h x kv
  have H1 := Lib.hid (h.boxed (.cells #[.int .u8 (x.kind : Nat), .int .i64 x.i, .int .i64 x.n, .int .u64 x.word, kv] 69 (0, 0)))
  have HLT := Lib.hid h.lt
  unfold opVal
  have he : R.err x = 0 := by unfold Rm.err; rw [if_neg (fun h => by have := h.1; omega), if_neg (fun h => by have := h.1; omega)]
  have hg : R.got x = 0 := by unfold Rm.got; rw [if_neg (fun h => by omega)]
  have hs : R.step x = R.blow x.n := by unfold Rm.step; rw [if_neg (by rw [he]; decide), if_neg (by omega), if_neg (by omega), if_neg (by omega), if_neg (by omega), if_pos hk]
  have HE : Hid (R.err x = 0 ∧ R.got x = 0 ∧ R.step x = R.blow x.n) := ⟨he, hg, hs⟩
  have hki : ((x.kind : Nat) : Int) % 6 = 4 := by omega
  have hd4 : decide (((x.kind : Nat) : Int) % 6 < 4) = false := by rw [hki]; rfl
  have hd3 : decide (((x.kind : Nat) : Int) % 6 < 3) = false := by rw [hki]; rfl
  have HFU := Lib.hid h.ok.fuse
  clear h hx he hg hs hk
  by_cases hf : R.fuse = 0
  · have hb : R.blow x.n = R := by
      unfold Rm.blow
      rw [if_pos hf, ← hf]
    have HB := Lib.hid hb
    have hfb : (R.fuse != 0) = false := by simpa using hf
    have hfb2 : (R.fuse == 0) = true := by simpa using hf
    clear hb hf
    go_enter Try.func54, Try.ntmps54
    go_wp2_with fail
    go_quiet (fail)
    go_wp2_with fail
    refine bodyPost_ret (v := .tuple #[.int .u64 0, .int .i64 0]) (by simp [results, Try.results54, go_sem]) rfl ?_
    unfold DoPost
    rw [HE.out.1, HE.out.2.1, HE.out.2.2, HB.out]
    exact ⟨rfl, ⟨_, _, _, H1.out.mod (D0 := nob) ((Mod.refl nob _).drewN _) (fun _ _ h => h)⟩, ((Mod.refl D w).alloc _).drewN _⟩
  · have hb : R.blow x.n = { R with fuse := max x.n (-1) } := by
      unfold Rm.blow
      rw [if_neg hf]
    have HB := Lib.hid hb
    have hfb : (R.fuse != 0) = true := by simpa using hf
    have hfb2 : (R.fuse == 0) = false := by simpa using hf
    have HNN := Lib.hid HX.out.n
    have hm : ∀ W v, Mod (fun b => b = q) W (W.setCell ⟨q, 4, none⟩ v) := fun W v => (Mod.refl (fun b => b = q) W).setCell (a := ⟨q, 4, none⟩) (.inl rfl) _
    have HMM := Lib.hid hm
    clear hb hf hm
    rcases (show x.n < -1 ∨ -1 ≤ x.n by omega) with hc | hc
    all_goals
      have HC := Lib.hid hc
      go_enter Try.func54, Try.ntmps54
      go_wp2_with fail
      go_quiet (fail)
      go_wp2_with fail
      refine bodyPost_ret (v := .tuple #[.int .u64 0, .int .i64 0]) (by simp [results, Try.results54, go_sem]) rfl ?_
      unfold DoPost
      rw [HE.out.1, HE.out.2.1, HE.out.2.2, HB.out]
      have h2 := HMM.out ((w.alloc (.cells #[.int .u8 (x.kind : Nat), .int .i64 x.i, .int .i64 x.n, .int .u64 x.word, kv] 69))) (.int .i64 (max x.n (-1)))
      have hnn := HNN.out
      have hcc := HC.out
      have hR := (H1.out.setHead (R' := { R with fuse := max x.n (-1) }) h2 (by rw [heap_setCell_same _ q 4 _ _ _ H1.out.head]; rfl) rfl rfl rfl rfl (by simp only; omega)).mod (D0 := nob) ((Mod.refl nob _).drewN nq) (fun _ _ h => h)
      have hM := ((((Mod.refl D w).alloc (.cells #[.int .u8 (x.kind : Nat), .int .i64 x.i, .int .i64 x.n, .int .u64 x.word, kv] 69)).setCell (a := ⟨q, 4, none⟩) (.inl H.out.dq) (.int .i64 (max x.n (-1)))).drewN nq)
      first
        | (have e : max x.n (-1) = -1 := by omega
           rw [e] at hR hM ⊢
           exact ⟨rfl, ⟨_, _, _, hR⟩, hM⟩)
        | (have e : max x.n (-1) = x.n := by omega
           rw [e] at hR hM ⊢
           exact ⟨rfl, ⟨_, _, _, hR⟩, hM⟩)
        | exact ⟨rfl, ⟨_, _, _, hR⟩, hM⟩
set_option maxRecDepth 20000 in
set_option maxHeartbeats 1000000 in
/-- The power goes. -/
theorem rm_do_crash {w : World} {q : Nat} {D : Nat → Prop} {R : Rm} (h : RmAt w q D R) (x : OpV) (kv : Value) (hx : x.Ok) (hk : x.kind % 6 = 5) (hkv : HoldsB w kv x.keep) (hkd : x.keep ≠ [] → ∀ g, kv.ownBlock = some g → ¬ D g) :
    Calls Try.prog 54 #[.pointer (some ⟨q, 0, none⟩), opVal x kv] w (DoPost w q D R x) := by
  have HL := Lib.hid h
  obtain ⟨nv, lv, fv, h⟩ := h
  have H := Lib.hid h
  have HX := Lib.hid hx
  obtain ⟨b0, b1, b2, b3, b4, c0, c1, c2, c3, c4, f3, f4, bq, qb⟩ := doIn h x kv
  have H1 := Lib.hid (h.boxed (.cells #[.int .u8 (x.kind : Nat), .int .i64 x.i, .int .i64 x.n, .int .u64 x.word, kv] 69 (0, 0)))
  have HLT := Lib.hid h.lt
  unfold opVal
  have he : R.err x = 0 := by unfold Rm.err; rw [if_neg (fun h => by have := h.1; omega), if_neg (fun h => by have := h.1; omega)]
  have hg : R.got x = 0 := by unfold Rm.got; rw [if_neg (fun h => by omega)]
  have hs : R.step x = R.crash x.keep := by unfold Rm.step; rw [if_neg (by rw [he]; decide), if_neg (by omega), if_neg (by omega), if_neg (by omega), if_neg (by omega), if_neg (by omega)]
  have HE : Hid (R.err x = 0 ∧ R.got x = 0 ∧ R.step x = R.crash x.keep) := ⟨he, hg, hs⟩
  have hki : ((x.kind : Nat) : Int) % 6 = 5 := by omega
  have hd4 : decide (((x.kind : Nat) : Int) % 6 < 4) = false := by rw [hki]; rfl
  have hd3 : decide (((x.kind : Nat) : Int) % 6 < 3) = false := by rw [hki]; rfl
  have HKV := Lib.hid hkv
  have HKD := Lib.hid hkd
  clear h hx he hg hs hk hkv hkd
  go_enter Try.func54, Try.ntmps54
  go_wp2_with fail
  go_quiet (fail)
  go_wp2_with fail
  have HW : Hid (Mod nob w ((w.alloc (.cells #[.int .u8 (x.kind : Nat), .int .i64 x.i, .int .i64 x.n, .int .u64 x.word, kv] 69)).drewN nq)) := ((Mod.refl nob w).alloc _).drewN nq
  refine (rm_crash ⟨_, _, _, H1.out.mod (D0 := nob) ((Mod.refl nob _).drewN nq) (fun _ _ h => h)⟩ (HKV.out.mod HW.out (fun _ _ _ h => h)) HKD.out).mono ?_
  rintro e w5 ⟨rfl, h5, m5⟩
  go_wp2_with fail
  refine bodyPost_ret (v := .tuple #[.int .u64 0, .int .i64 0]) (by simp [results, Try.results54, go_sem]) rfl ?_
  unfold DoPost
  rw [HE.out.1, HE.out.2.1, HE.out.2.2]
  exact ⟨rfl, h5, (((Mod.refl D w).alloc _).drewN nq).step m5 (fun _ h => h)⟩
theorem rm_do {w : World} {q : Nat} {D : Nat → Prop} {R : Rm} (h : RmAt w q D R) (x : OpV) (kv : Value) (hx : x.Ok) (hd0 : R.deeds < 4611686018427387904) (hkv : HoldsB w kv x.keep) (hkd : x.keep ≠ [] → ∀ g, kv.ownBlock = some g → ¬ D g) :
    Calls Try.prog 54 #[.pointer (some ⟨q, 0, none⟩), opVal x kv] w (DoPost w q D R x) := by
  have h6 := Nat.mod_lt x.kind (show 0 < 6 by omega)
  by_cases k4 : x.kind % 6 < 4
  · by_cases hf : R.fuse = 0
    · exact rm_do_lost h x kv hx k4 hf
    · by_cases k3 : x.kind % 6 < 3
      · by_cases hi : x.i < 0 ∨ (R.n : Int) ≤ x.i
        · exact rm_do_arg h x kv hx k3 hf hi
        · rcases (show x.kind % 6 = 0 ∨ x.kind % 6 = 1 ∨ x.kind % 6 = 2 by omega) with k | k | k
          · exact rm_do_store h x kv hx hd0 k hf (by omega)
          · exact rm_do_load h x kv hx k hf (by omega)
          · exact rm_do_flush h x kv hx hd0 k hf (by omega)
      · exact rm_do_fence h x kv hx hd0 (by omega) hf
  · rcases (show x.kind % 6 = 4 ∨ x.kind % 6 = 5 by omega) with k | k
    · exact rm_do_blow h x kv hx k
    · exact rm_do_crash h x kv hx k hkv hkd
end Go.Proofs.Ytfpnmphmngdkdaa
