/-
  The runs of a file's blocks, as plain lists: what the program's loop gathers is what the reference's two loops gather. No condition.
  What the program's Runs and the reference's Runs answer: contracts of both. No condition but the thirteen numbers' count.
-/
import Derived.Lib.Hide
import Derived.Test.YtlopdbhjdijlmaaQLib

namespace Go.Proofs.Ytlopdbhjdijlmaa.RunsM

def enc (k : Nat) (b : Int) : Int := k * 4294967296 + b * 256 + 1

/-- One more block in the run that was laid last. -/
def bump : List Int → List Int
  | [] => []
  | [x] => [x + 1]
  | x :: y :: l => x :: bump (y :: l)

theorem bump_snoc (l : List Int) (x : Int) : bump (l ++ [x]) = l ++ [x + 1] := by
  induction l with
  | nil => rfl
  | cons a l ih => cases l with
    | nil => rfl
    | cons b l => show a :: bump (b :: l ++ [x]) = _; rw [ih]; rfl

theorem length_bump : ∀ l : List Int, (bump l).length = l.length
  | [] => rfl
  | [_] => rfl
  | _ :: y :: l => by simp only [bump, List.length_cons, length_bump (y :: l)]

def step (s : List Int × Int) (k : Nat) (b : Int) : List Int × Int :=
  if b < 1 ∨ 256 ≤ b then (s.1, 0) else if 0 < s.2 ∧ b = s.2 + 1 then (bump s.1, b) else (s.1 ++ [enc k b], b)

def upto (l : List Int) : Nat → List Int × Int
  | 0 => ([], 0)
  | k + 1 => step (upto l k) k (l.getD k 0)

def runs (l : List Int) : List Int := (upto l 13).1

/-- What holds of the loop's state. -/
structure Fit (k : Nat) (s : List Int × Int) : Prop where
  len : s.1.length ≤ k
  lo : 0 ≤ s.2
  hi : s.2 ≤ 255
  some : 0 < s.2 → ∃ xs x, s.1 = xs ++ [x]
  each : ∀ x ∈ s.1, 0 ≤ x ∧ x ≤ k * 4294967296 + 65536 + k

theorem fit_upto (l : List Int) (k : Nat) : Fit k (upto l k) := by
  induction k with
  | zero => exact ⟨by simp [upto], by simp [upto], by simp [upto], by simp [upto], by simp [upto]⟩
  | succ k ih =>
    obtain ⟨h1, h2, h3, h4, h5⟩ := ih
    simp only [upto]
    generalize upto l k = s at *
    generalize l.getD k 0 = b at *
    unfold step
    split
    · exact ⟨by simp only; omega, by simp, by simp, by simp, fun x hx => by have := h5 x hx; omega⟩
    · split
      · rename_i hb hc
        obtain ⟨xs, x, hx⟩ := h4 hc.1
        rw [hx] at h1 h5 ⊢
        refine ⟨by simp only [bump_snoc]; simp at h1 ⊢; omega, by simp only; omega, by simp only; omega, fun _ => ⟨xs, x + 1, by simp only [bump_snoc]⟩, ?_⟩
        simp only [bump_snoc]
        intro y hy
        rcases List.mem_append.1 hy with hy | hy
        · have := h5 y (by simp [hy]); omega
        · simp at hy; subst hy; have := h5 x (by simp); omega
      · refine ⟨by simp; omega, by simp only; omega, by simp only; omega, fun _ => ⟨_, _, rfl⟩, ?_⟩
        intro y hy
        rcases List.mem_append.1 hy with hy | hy
        · have := h5 y hy; omega
        · simp at hy; subst hy; unfold enc; omega

/-- How many blocks go on behind one another. -/
def cont : Int → List Int → Nat
  | _, [] => 0
  | b, x :: l => if x = b + 1 ∧ x < 256 then cont x l + 1 else 0

/-- The reference, block by block; 'p': the block ahead. -/
def ref : Nat → Int → List Int → List Int
  | _, _, [] => []
  | k, p, x :: l => (if x < 1 ∨ 255 < x ∨ (0 < p ∧ p = x - 1) then [] else [(k : Int) * 4294967296 + x * 256 + (1 + cont x l)]) ++ ref (k + 1) x l

def go : Nat → List Int × Int → List Int → List Int × Int
  | _, s, [] => s
  | k, s, x :: l => go (k + 1) (step s k x) l

theorem go_ref (l : List Int) : ∀ (k : Nat) (out : List Int) (p q : Int),
    ((q = 0 ∧ (p ≤ 0 ∨ 255 < p)) → (go k (out, q) l).1 = out ++ ref k p l) ∧
    (∀ x : Int, 1 ≤ p → p ≤ 255 → (go k (out ++ [x], p) l).1 = out ++ [x + cont p l] ++ ref k p l) := by
  induction l with
  | nil => intro k out p q; exact ⟨fun _ => by simp [go, ref], fun x _ _ => by simp [go, ref, cont]⟩
  | cons b l ih =>
    intro k out p q
    refine ⟨fun ⟨hq, hp⟩ => ?_, fun x h1 h2 => ?_⟩
    · subst hq
      simp only [go, ref, step]
      by_cases hb : b < 1 ∨ 256 ≤ b
      · rw [if_pos hb, if_pos (by omega), (ih (k + 1) out b 0).1 ⟨rfl, by omega⟩]
        rfl
      · rw [if_neg hb, if_neg (by omega), if_neg (by omega), (ih (k + 1) out b 0).2 _ (by omega) (by omega), List.append_assoc]
        congr 3
        unfold enc; omega
    · simp only [go, ref, step, cont]
      by_cases hb : b < 1 ∨ 256 ≤ b
      · have e2 : ¬ (b = p + 1 ∧ b < 256 ∧ 0 < b) := by omega
        by_cases e : b = p + 1 ∧ b < 256
        · omega
        · have e3 : b < 1 ∨ 255 < b ∨ (0 < p ∧ p = b - 1) := by omega
          rw [if_pos hb, if_neg e, if_pos e3, (ih (k + 1) (out ++ [x]) b 0).1 ⟨rfl, by omega⟩]
          simp
      · rw [if_neg hb]
        by_cases hc : b = p + 1
        · have e1 : 0 < p ∧ b = p + 1 := ⟨by omega, hc⟩
          have e2 : b = p + 1 ∧ b < 256 := ⟨hc, by omega⟩
          have e3 : b < 1 ∨ 255 < b ∨ (0 < p ∧ p = b - 1) := by omega
          rw [if_pos e1, if_pos e2, if_pos e3, bump_snoc, (ih (k + 1) out b 0).2 _ (by omega) (by omega)]
          simp only [List.nil_append]
          congr 3
          omega
        · have e1 : ¬ (0 < p ∧ b = p + 1) := by omega
          have e2 : ¬ (b = p + 1 ∧ b < 256) := by omega
          have e3 : ¬ (b < 1 ∨ 255 < b ∨ (0 < p ∧ p = b - 1)) := by omega
          rw [if_neg e1, if_neg e2, if_neg e3, (ih (k + 1) (out ++ [x]) b 0).2 _ (by omega) (by omega)]
          have e4 : enc k b + (cont b l : Int) = (k : Int) * 4294967296 + b * 256 + (1 + cont b l) := by unfold enc; omega
          rw [e4]
          simp

theorem go_upto (l : List Int) : ∀ (k : Nat), k ≤ l.length → go k (upto l k) (l.drop k) = upto l l.length := by
  intro k hk
  obtain ⟨d, hd⟩ : ∃ d, d = l.length - k := ⟨_, rfl⟩
  induction d generalizing k with
  | zero =>
    obtain rfl : k = l.length := by omega
    simp [go]
  | succ d ih =>
    have hlt : k < l.length := by omega
    rw [List.drop_eq_getElem_cons hlt]
    have h := ih (k + 1) (by omega) (by omega)
    have e : l[k] = l.getD k 0 := by simp [hlt]
    simp only [go, e]
    exact h

/-- What the program's loop gathers is the reference's. -/
theorem runs_eq (l : List Int) (hl : l.length = 13) : runs l = ref 0 0 l := by
  have h := go_upto l 0 (by omega)
  have h2 := (go_ref l 0 [] 0 0).1 ⟨rfl, by omega⟩
  simp only [upto, List.drop_zero] at h
  rw [h, hl] at h2
  simpa [runs] using h2

end Go.Proofs.Ytlopdbhjdijlmaa.RunsM

namespace Go.Proofs.Ytlopdbhjdijlmaa
open Go.ChangeShapes Go.WideShapes Go.ChangeAt Go.RowKit

theorem Try.info64 : (Try.prog.info? 37).map (fun i => (i.zero, i.size, i.bytes)) = some (some (.int .u64 0), 1, 8) := by kernel_rfl

theorem idx13 (l : List Int) (hl : l.length = 13) (k : Nat) (hk : k < 13) (w : World) :
    (Instr.index 22 (.agg (l.map (Value.int .i64)).toArray) (.int .i64 k)).run Try.prog w = .ok (.int .i64 (l.getD k 0)) w :=
  run_index_arr Try.underlying22 Try.underlying3 rfl (by kernel_rfl) _ _ k _ hk (by simp [hl, hk]) w

set_option maxRecDepth 20000 in
set_option maxHeartbeats 400000 in
theorem fmt2_runs (l : List Int) (hl : l.length = 13) (w : World) :
    Calls Try.prog 113 #[.agg (l.map (Value.int .i64)).toArray] w fun e w' => ∃ v, e = .returned v ∧
      w'.ownsRow w.heap.size 37 1 v (RunsM.runs l).length ((RunsM.runs l).map (Value.int .u64)) ∧ Below w.heap.size w w' := by
  obtain ⟨i0, hi, hz0, hz1, hz2⟩ := info_parts Try.info64
  have H13 := Lib.hid (idx13 l hl)
  have HL := Lib.hid hl
  clear hl
  go_enter Try.func113, Try.ntmps113
  go_wp2_with (with_reducible refine wpList_load_row (o := ⟨some 7, _, _, _, _, _⟩) rfl 22 _ rfl w.heap.size rfl 22 (l.map (Value.int .i64)).toArray (0, 0) _ ?_ Try.underlying22 rfl ?_ ?_)
  · exact heap_alloc_new w _
  · simp only [List.size_toArray, List.length_map, HL.out]; kernel_rfl
  go_loopw [3, 4, 8] (fun o la i wr => ∃ k : Nat, k ≤ 13 ∧ i = .int .i64 k ∧ la = .int .i64 (RunsM.upto l k).2 ∧ wr.ownsRow w.heap.size 37 1 o (RunsM.upto l k).1.length ((RunsM.upto l k).1.map (Value.int .u64)) ∧ Below w.heap.size w wr) (fun _ _ i _ => 13 - (intOf i).toNat)
  case atStart => exact ⟨0, by omega, rfl, rfl, World.ownsRow_nil _ _ _ _, (Below.refl _ _).alloc (Nat.le_refl _) _⟩
  case round =>
    obtain ⟨k, hk, rfl, rfl, hown, hbel⟩ := hrel
    have hfit := RunsM.fit_upto l k
    by_cases hlt : k < 13
    · have hix := fun wx => H13.out k hlt wx
      have hst : RunsM.upto l (k + 1) = RunsM.step (RunsM.upto l k) k (l.getD k 0) := rfl
      generalize l.getD k 0 = b at hix hst
      generalize RunsM.upto l k = s at *
      have Hst := Lib.hid hst
      clear hst
      obtain ⟨s1, s2⟩ := s
      obtain ⟨h1, h2, h3, h4, h5⟩ := hfit
      simp only at h1 h2 h3 h4 h5 hown
      have H4 := Lib.hid h4
      have H5 := Lib.hid h5
      clear h4 h5
      by_cases hb : b < 1 ∨ 256 ≤ b
      · rcases hb with hb | hb
        all_goals
          go_wp2
          go_roundw
          case rel => exact ⟨k + 1, by omega, by go_num, by rw [Hst.out]; simp [RunsM.step, hb], by rw [Hst.out]; simpa [RunsM.step, hb] using hown, hbel⟩
          case measure => simp [intOf]; omega
      · have hb1 : 1 ≤ b := by omega
        have hb2 : b < 256 := by omega
        by_cases hc : 0 < s2 ∧ b = s2 + 1
        · obtain ⟨hc1, rfl⟩ := hc
          obtain ⟨xs, x, rfl⟩ := H4.out hc1
          obtain ⟨g, cap, rfl, hg0, hg1, hg2, hg3⟩ := own_some hown (by simp)
          have hx := H5.out x (by simp)
          have hcell : wr.cell? ⟨g, xs.length, none⟩ = some (.int .u64 x) := by
            rw [hown.cellAt _ (by simp)]
            simp
          have hfz := hown.frozenAt xs.length
          have hst := hown.stored xs.length (.int .u64 (x + 1))
          have Hown := Lib.hid hst.1
          have Hgr := Lib.hid hst.2
          clear hown hst hg3
          have hbq : (s2 + 1 == s2 + 1) = true := by simp
          simp only [List.length_append, List.length_singleton] at h1
          go_wp2
          go_roundw
          case rel => exact ⟨k + 1, by omega, by go_num, by rw [Hst.out]; simp [RunsM.step, hb, hc1], by rw [Hst.out]; simpa [RunsM.step, hb, hc1, RunsM.bump_snoc] using Hown.out, hbel.grown Hgr.out (by have := hbel.size; omega) (by intro k hk; simp at hk; omega)⟩
          case measure => simp [intOf]; omega
        · obtain ⟨ao, cap, rfl, hn, hm, hao⟩ := own_shape hown
          have HAO := Lib.hid hao
          clear hao
          unfold maxLen at hm
          have hs := hbel.size
          have key : RunsM.upto l (k + 1) = (s1 ++ [RunsM.enc k b], b) := by rw [Hst.out]; simp [RunsM.step, hb, hc]
          have Key := Lib.hid key
          clear key
          have hbits : bits BinOp.or IntKind.u64 (bits BinOp.or IntKind.u64 (↑k * 4294967296) (b * 256)) 1 = RunsM.enc k b := by
            rw [u64_join 32 (↑k * 4294967296) (b * 256) (by omega) (by omega) (by omega) (by omega) (by omega) (by omega), u64_join 8 _ 1 (by omega) (by omega) (by omega) (by omega) (by omega) (by omega)]
            rfl
          have hbq : 0 < s2 → (b == s2 + 1) = false := by intro h; simp; omega
          by_cases hs2 : 0 < s2
          all_goals
            try (have hbq' := hbq hs2)
            clear hbq
            go_wp2_with (at_builtin; refine wpList_append_own _ rfl (.tmp 34) (.tmp 43) 75 rfl w.heap.size 37 i0 (.int .u64 0) 1 8 Try.underlying75 hi hz0 hz1 hz2 rfl (by decide) _ _ _ rfl (hown.alloc _) ⟨wr.heap.size, 0, none⟩ 1 1 [.int .u64 (RunsM.enc k b)] rfl rfl (cells_new _ _ _) (by simp [Value.oneCell']) (by unfold maxLen; omega) (by omega) (by simp; omega) ?_)
            intro v' w1 hown1 hgr1 _
            have Hown := Lib.hid hown1
            have Hgr := Lib.hid hgr1
            clear hown1 hgr1 hown hbits
            go_wp2
            go_roundw
            case rel => exact ⟨k + 1, by omega, by go_num, by rw [Key.out], by rw [Key.out]; simpa using Hown.out, (hbel.alloc (by omega) _).grown Hgr.out (by simp; omega) (by intro j hj; cases ao with
              | none => simp [Value.ownBlock] at hj
              | some a => simp [Value.ownBlock] at hj; subst hj; exact (HAO.out a rfl).1)⟩
            case measure => simp [intOf]; omega
    · obtain rfl : k = 13 := by omega
      have Hown := Lib.hid hown
      clear hown
      go_wp2
      go_ret
      exact ⟨u3, rfl, Hown.out, hbel⟩

def prev (l : List Int) (k : Nat) : Int := if k = 0 then 0 else l.getD (k - 1) 0

theorem prev_succ (l : List Int) (k : Nat) : prev l (k + 1) = l.getD k 0 := by simp [prev]

theorem runs_step (l : List Int) (k : Nat) (h : k < l.length) (p : Int) : RunsM.ref k p (l.drop k) =
    (if l.getD k 0 < 1 ∨ 255 < l.getD k 0 ∨ (0 < p ∧ p = l.getD k 0 - 1) then [] else [(k : Int) * 4294967296 + l.getD k 0 * 256 + (1 + RunsM.cont (l.getD k 0) (l.drop (k + 1)))]) ++
      RunsM.ref (k + 1) (l.getD k 0) (l.drop (k + 1)) := by
  rw [List.drop_eq_getElem_cons h]
  have e : l[k] = l.getD k 0 := by simp [h]
  rw [e]
  rfl

theorem cont_yes (l : List Int) (j : Nat) (h : j < l.length) (b : Int) (h1 : l.getD j 0 = b + 1) (h2 : b + 1 < 256) : RunsM.cont b (l.drop j) = RunsM.cont (b + 1) (l.drop (j + 1)) + 1 := by
  rw [List.drop_eq_getElem_cons h]
  have e : l[j] = l.getD j 0 := by simp [h]
  rw [e, RunsM.cont, if_pos ⟨h1, by omega⟩, h1]

theorem cont_no (l : List Int) (j : Nat) (b : Int) (h : l.length ≤ j ∨ l.getD j 0 ≠ b + 1 ∨ 256 ≤ b + 1) : RunsM.cont b (l.drop j) = 0 := by
  by_cases hj : j < l.length
  · rw [List.drop_eq_getElem_cons hj]
    have e : l[j] = l.getD j 0 := by simp [hj]
    rw [e, RunsM.cont, if_neg (by omega)]
  · rw [List.drop_eq_nil_of_le (by omega)]
    rfl

set_option maxRecDepth 20000 in
set_option maxHeartbeats 800000 in
theorem ref_runs (l : List Int) (hl : l.length = 13) (w : World) :
    Calls Try.prog 102 #[.agg (l.map (Value.int .i64)).toArray] w fun e w' => ∃ v, e = .returned v ∧
      w'.ownsRow w.heap.size 37 1 v (RunsM.ref 0 0 l).length ((RunsM.ref 0 0 l).map (Value.int .u64)) ∧ Below w.heap.size w w' := by
  obtain ⟨i0, hi, hz0, hz1, hz2⟩ := info_parts Try.info64
  have HL := Lib.hid hl
  clear hl
  have CELL : Hid (∀ (wr : World), Below (w.heap.size + 1) (w.alloc (.cells (l.map (Value.int .i64)).toArray 22)) wr → ∀ k, k < 13 → wr.cell? ⟨w.heap.size, k, none⟩ = some (.int .i64 (l.getD k 0))) := by
    intro wr hb k hk
    have hl := HL.out
    rw [hb.cell (by simp), cell_of_row _ _ k _ _ _ (heap_alloc_new w _)]
    simp [hl, hk]
  have L12 : Hid (l.length = 13) := HL
  go_enter Try.func102, Try.ntmps102
  go_wp2
  go_loopg [3, 4] 13 (fun g o i wr => ∃ (k : Nat) (xs : List Int), k + g = 13 ∧ xs.length ≤ k ∧ i = .int .i64 k ∧ wr.ownsRow (w.heap.size + 1) 37 1 o xs.length (xs.map (Value.int .u64)) ∧ Below (w.heap.size + 1) (w.alloc (.cells (l.map (Value.int .i64)).toArray 22)) wr ∧ Hid (RunsM.ref 0 0 l = xs ++ RunsM.ref k (prev l k) (l.drop k)))
  case atStart => exact ⟨0, [], by omega, by simp, rfl, World.ownsRow_nil _ _ _ _, Below.refl _ _, rfl⟩
  case round =>
    obtain ⟨k, xs, hk, hxs, rfl, hown, hbel, HR⟩ := hrel
    obtain ⟨ao, cap, rfl, hn, hm, hao⟩ := own_shape hown
    have HAO := Lib.hid hao
    clear hao
    unfold maxLen at hm
    have hsz := hbel.size
    simp only [World.size_alloc] at hsz
    by_cases hlt : k < 13
    · have hck := CELL.out wr hbel k hlt
      have hck1 : 0 < k → wr.cell? ⟨w.heap.size, k - 1, none⟩ = some (.int .i64 (prev l k)) := by
        intro h0
        rw [CELL.out wr hbel (k - 1) (by omega)]
        simp [prev, Nat.ne_of_gt h0]
      have hst := runs_step l k (by rw [HL.out]; omega) (prev l k)
      have hcont := fun (n : Nat) (hn : k + n < 13) => CELL.out wr hbel (k + n) hn
      have hps := prev_succ l k
      have hp0 : k = 0 → prev l k = 0 := by intro h; simp [prev, h]
      generalize hb : l.getD k 0 = b at hck hst hps
      generalize prev l k = p at hck1 hst HR hp0
      have Hst := Lib.hid hst
      have Hps := Lib.hid hps
      have HC := Lib.hid hcont
      have HB := Lib.hid hb
      have HP0 := Lib.hid hp0
      clear hst hps hcont hb hp0
      obtain ⟨sk, hsk⟩ : ∃ sk : Bool, sk = decide (b < 1 ∨ 255 < b ∨ (0 < k ∧ 0 < p ∧ p = b - 1)) := ⟨_, rfl⟩
      have HSK := Lib.hid hsk
      clear hsk
      go_upto_region 6 with (fail)
      go_cut [39] (fun t wc => t = .bool sk ∧ wr = wc)
      case first =>
        by_cases h1 : b < 1
        · go_wp2
          go_meet
          case rel => exact ⟨by rw [HSK.out]; simp [h1], rfl⟩
        by_cases h2 : 255 < b
        · go_wp2
          go_meet
          case rel => exact ⟨by rw [HSK.out]; simp [h2], rfl⟩
        by_cases h3 : 0 < k
        · have hck2 := hck1 h3
          clear hck1
          by_cases h4 : 0 < p
          · go_wp2
            go_meet
            case rel => exact ⟨by rw [HSK.out]; congr 1; rw [Bool.eq_iff_iff]; simp; omega, rfl⟩
          · go_wp2
            go_meet
            case rel => exact ⟨by rw [HSK.out]; congr 1; rw [Bool.eq_iff_iff]; simp; omega, rfl⟩
        · clear hck1
          go_wp2
          go_meet
          case rel => exact ⟨by rw [HSK.out]; congr 1; rw [Bool.eq_iff_iff]; simp; omega, rfl⟩
      case rest =>
        obtain ⟨rfl, rfl⟩ := hcut
        cases sk with
        | true =>
          have hskip := of_decide_eq_true HSK.out.symm
          have fin : Hid (RunsM.ref 0 0 l = xs ++ RunsM.ref (k + 1) (prev l (k + 1)) (l.drop (k + 1))) := by
            unfold Hid
            rw [HR.out, Hst.out, if_pos (by omega), Hps.out]
            simp
          clear hskip hck1
          go_wp2
          go_roundg (gk - 1)
          case measure => omega
          case rel => exact ⟨k + 1, xs, by omega, by omega, by go_num, hown, hbel, fin⟩
        | false =>
          have hskip := of_decide_eq_false HSK.out.symm
          have hb1 : 1 ≤ b := by omega
          have hb2 : b ≤ 255 := by omega
          have Fin : Hid (RunsM.ref 0 0 l = (xs ++ [(k : Int) * 4294967296 + b * 256 + (1 + RunsM.cont b (l.drop (k + 1)))]) ++ RunsM.ref (k + 1) (prev l (k + 1)) (l.drop (k + 1))) := by
            have := HP0.out
            unfold Hid
            rw [HR.out, Hst.out, if_neg (by omega), Hps.out]
            simp
          clear hskip hck1
          obtain ⟨c, hc⟩ : ∃ c, c = RunsM.cont b (l.drop (k + 1)) := ⟨_, rfl⟩
          rw [← hc] at Fin
          have HCC := Lib.hid hc
          clear hc
          go_upto_block 2 with (fail)
          go_cut [6] (fun n wc => n = .int .i64 (1 + c : Nat) ∧ k + (1 + c) ≤ 13 ∧ wr = wc)
          case first =>
            go_wp2
            go_loopg [6] 12 (fun g n wi => ∃ m : Nat, 1 ≤ m ∧ m + g = 13 ∧ k + m ≤ 13 ∧ n = .int .i64 m ∧ b + m - 1 ≤ 255 ∧ wr = wi ∧ Hid (1 + c = m + RunsM.cont (b + m - 1) (l.drop (k + m)))) 
            case atStart => exact ⟨1, by omega, by omega, by omega, rfl, by omega, rfl, by have := HCC.out; simp only [Hid, this]; simp⟩
            case round =>
              obtain ⟨m, hm1, hmg, hm2, rfl, hm3, rfl, HM⟩ := hrel
              obtain ⟨x, hx⟩ : ∃ x, x = l.getD (k + m) 0 := ⟨_, rfl⟩
              have hcc := HC.out m
              rw [← hx] at hcc
              obtain ⟨go, hgo⟩ : ∃ go : Bool, go = decide (k + m < 13 ∧ x = b + m ∧ b + m < 256) := ⟨_, rfl⟩
              have HGO := Lib.hid hgo
              have HX := Lib.hid hx
              clear hgo hx
              go_upto_region 8 with (fail)
              go_cut [60] (fun t wd => t = .bool go ∧ wr = wd)
              case first =>
                by_cases g1 : k + m < 13
                · have hcc1 := hcc g1
                  clear hcc
                  by_cases g2 : x = b + m
                  · have hbb : (x == b + (m : Int)) = true := by simpa using g2
                    have G2 := Lib.hid g2
                    clear g2
                    go_wp2
                    go_meet
                    case rel => exact ⟨by rw [HGO.out]; congr 1; rw [Bool.eq_iff_iff]; have := G2.out; simp; omega, rfl⟩
                  · have hbb : (x == b + (m : Int)) = false := by simpa using g2
                    have G2 := Lib.hid g2
                    clear g2
                    go_wp2
                    go_meet
                    case rel => exact ⟨by rw [HGO.out]; congr 1; rw [Bool.eq_iff_iff]; have := G2.out; simp; omega, rfl⟩
                · clear hcc
                  go_wp2
                  go_meet
                  case rel => exact ⟨by rw [HGO.out]; congr 1; rw [Bool.eq_iff_iff]; simp; omega, rfl⟩
              case rest =>
                obtain ⟨rfl, rfl⟩ := hcut
                clear hcc
                cases go with
                | true =>
                  have hg := of_decide_eq_true HGO.out.symm
                  obtain ⟨g1, g2, g3⟩ := hg
                  have HM2 : Hid (1 + c = (m + 1) + RunsM.cont (b + (m + 1 : Nat) - 1) (l.drop (k + (m + 1)))) := by
                    have := cont_yes l (k + m) (by rw [HL.out]; omega) (b + m - 1) (by have := HX.out; omega) (by omega)
                    unfold Hid
                    rw [HM.out, this, show b + ((m + 1 : Nat) : Int) - 1 = b + m - 1 + 1 by omega, Nat.add_assoc k m 1]
                    omega
                  clear g2
                  go_wp2
                  go_roundg (gk - 1)
                  case measure => omega
                  case rel => exact ⟨m + 1, by omega, by omega, by omega, by go_num, by omega, rfl, HM2⟩
                | false =>
                  have hg := of_decide_eq_false HGO.out.symm
                  have h0 := cont_no l (k + m) (b + m - 1) (by rw [HL.out]; have := HX.out; omega)
                  have HM2 : Hid (1 + c = m) := by
                    unfold Hid
                    rw [HM.out, h0, Nat.add_zero]
                  clear hg h0
                  go_wp2
                  go_meet
                  case rel => exact ⟨by rw [HM2.out], by rw [HM2.out]; omega, rfl⟩
          case rest =>
            obtain ⟨rfl, hkc, rfl⟩ := hcut
            go_wp2_with (at_builtin; refine wpList_append_own _ rfl (.tmp 63) (.tmp 74) 75 rfl (w.heap.size + 1) 37 i0 (.int .u64 0) 1 8 Try.underlying75 hi hz0 hz1 hz2 rfl (by decide) _ _ _ rfl (hown.alloc _) ⟨wr.heap.size, 0, none⟩ 1 1 [.int .u64 ((k : Int) * 4294967296 + b * 256 + (1 + c))] rfl rfl (cells_new _ _ _) (by simp [Value.oneCell']) (by unfold maxLen; omega) (by omega) (by simp; omega) ?_)
            intro v' w1 hown1 hgr1 _
            have Hown := Lib.hid hown1
            have Hgr := Lib.hid hgr1
            clear hown1 hgr1 hown
            go_wp2
            go_roundg (gk - 1)
            case measure => omega
            case rel => exact ⟨k + 1, xs ++ [(k : Int) * 4294967296 + b * 256 + (1 + c)], by omega, by simp; omega, by go_num, by simpa using Hown.out, (hbel.alloc (by omega) _).grown Hgr.out (by simp; omega) (by intro j hj; cases ao with
                  | none => simp [Value.ownBlock] at hj
                  | some a => simp [Value.ownBlock] at hj; subst hj; exact (HAO.out a rfl).1), Fin⟩
    · obtain rfl : k = 13 := by omega
      have hd : l.drop 13 = [] := by rw [List.drop_eq_nil_of_le]; rw [HL.out]; omega
      have hR := HR.out
      rw [hd] at hR
      simp only [RunsM.ref, List.append_nil] at hR
      have Hown := Lib.hid hown
      have HD := Lib.hid hR
      have Hb := Lib.hid hbel
      clear hown hR hbel
      go_wp2
      go_ret
      exact ⟨_, rfl, by rw [HD.out]; exact own_base Hown.out (by omega), (((Below.refl _ _).alloc (Nat.le_refl _) _).trans (Hb.out.mono (by omega)))⟩
end Go.Proofs.Ytlopdbhjdijlmaa
