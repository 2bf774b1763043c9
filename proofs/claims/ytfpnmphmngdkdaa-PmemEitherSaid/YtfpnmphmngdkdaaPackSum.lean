/-
  What pack.Sum, pack.Bucket, and the reference's Sum and Byte answer: contracts. No condition but the bounds that are typed.
-/
import Derived.Test.YtfpnmphmngdkdaaPackName
namespace Go.Proofs.Ytfpnmphmngdkdaa
open Go.ChangeShapes Go.WideShapes Go.ChangeAt Go.RowKit
set_option linter.unusedSimpArgs false
set_option linter.unusedVariables false

def natInts (l : List Nat) : List Int := l.map (fun n : Nat => (n : Int))
theorem natInts_length (l : List Nat) : (natInts l).length = l.length := by simp [natInts]

/-- Where the words lie, if there are any. -/
theorem HoldsU.open {w : World} {v : Value} {xs : List Int} (h : HoldsU w v xs) (hn : 0 < xs.length) :
    ∃ b o c, v = .slice (some ⟨b, o, none⟩) xs.length c ∧ b < w.heap.size ∧ xs.length ≤ c ∧ c ≤ maxLen ∧ ∀ j (hj : j < xs.length), w.cell? ⟨b, o + j, none⟩ = some (.int .u64 xs[j]) := by
  obtain ⟨ao, c, rfl, h1, h2, h3, h4⟩ := h
  cases ao with
  | none => have := h1 rfl; omega
  | some ad =>
    have hc : ∀ j (hj : j < xs.length), w.cell? (ad.add j) = some (.int .u64 xs[j]) := fun j hj => h4 ad rfl j _ (by simp [u64s, hj])
    obtain ⟨b, o, spot⟩ := ad
    have hspot : spot = none := by simpa [Addr.add] using World.cell?_spot (hc 0 hn)
    subst hspot
    refine ⟨b, o, c, rfl, ?_, h2, h3, fun j hj => ?_⟩
    · have := World.block_lt_of_cell? w _ (hc 0 hn)
      simpa [Addr.add] using this
    · rw [← hc j hj, Addr.add_lit]

theorem byte_index (x j : Nat) (hj : j < 8) (w : World) : (Instr.index 165 (.agg #[Value.int IntKind.u8 (PackM.byteAt x 0 : Nat), Value.int IntKind.u8 (PackM.byteAt x 1 : Nat), Value.int IntKind.u8 (PackM.byteAt x 2 : Nat), Value.int IntKind.u8 (PackM.byteAt x 3 : Nat), Value.int IntKind.u8 (PackM.byteAt x 4 : Nat), Value.int IntKind.u8 (PackM.byteAt x 5 : Nat), Value.int IntKind.u8 (PackM.byteAt x 6 : Nat), Value.int IntKind.u8 (PackM.byteAt x 7 : Nat)]) (.int .i64 j)).run Try.prog w = .ok (.int .u8 (PackM.byteAt x j : Nat)) w := by
  refine run_index_arr Try.underlying165 Try.underlying5 rfl (by kernel_rfl) _ _ j _ hj ?_ w
  match j, hj with
  | 0, _ => rfl
  | 1, _ => rfl
  | 2, _ => rfl
  | 3, _ => rfl
  | 4, _ => rfl
  | 5, _ => rfl
  | 6, _ => rfl
  | 7, _ => rfl

theorem xor_step (a c : Nat) (ha : a < 4294967296) (hc : c < 256) : bits .xor .u32 (a : Int) (c : Int) * 16777619 % 4294967296 = (PackM.step a c : Nat) := by
  rw [u32_xor_nat a c ha (by omega), PackM.step_eq]
  omega

set_option maxRecDepth 20000 in
set_option maxHeartbeats 800000 in
theorem sum_any (l : List Nat) (hl : ∀ x ∈ l, x < 18446744073709551616) {v : Value} {w : World} (hv : HoldsU w v (natInts l)) :
    Calls Try.prog 121 #[v] w fun e w' => e = .returned (.int .u32 (PackM.sum l : Nat)) ∧ Below w.heap.size w w' := by
  have HLT := Lib.hid hl
  have HV := Lib.hid hv
  have HEQ := Lib.hid (PackM.sumTo_eq l)
  have hlen := natInts_length l
  obtain ⟨ao, c, rfl, hao, hlc, hcm, hcells⟩ := hv
  rw [hlen] at hlc ⊢
  unfold maxLen at hcm
  clear hcells hao hl
  have HLEN := Lib.hid hlen
  clear hlen
  go_enter Try.func121, Try.ntmps121
  go_wp2
  go_loopg [3, 10] l.length (fun g h i wr => ∃ k : Nat, k + g = l.length ∧ i = .int .i64 k ∧ h = .int .u32 (PackM.sumTo l k : Nat) ∧ Below w.heap.size w wr)
  case atStart => exact ⟨0, by omega, rfl, rfl, Below.refl _ _⟩
  case round =>
    obtain ⟨k, hk, rfl, rfl, hbel⟩ := hrel
    by_cases hlt : k < l.length
    · obtain ⟨b, o, c', e, hb, _, _, hc⟩ := HV.out.open (by rw [HLEN.out]; omega)
      simp only [Value.slice.injEq] at e
      obtain ⟨rfl, _, rfl⟩ := e
      have hck : wr.cell? ⟨b, o + k, none⟩ = some (.int .u64 ((l.getD k 0 : Nat) : Int)) := by
        rw [hbel.cell (p := ⟨b, o + k, none⟩) hb, hc k (by rw [HLEN.out]; omega)]
        simp [natInts, hlt]
      have hxl : l.getD k 0 < 18446744073709551616 := HLT.out _ (by simp [hlt])
      have HNEXT : Hid (PackM.sumTo l (k + 1) = PackM.sumBTo (PackM.sumTo l k) (l.getD k 0) 8) := rfl
      have hs := PackM.sumTo_lt l k
      have hsz := hbel.size
      generalize l.getD k 0 = x at hck hxl HNEXT
      generalize PackM.sumTo l k = h at hs HNEXT
      clear hc
      go_wp2_with (go_at_call 141; refine (bytes_any x hxl _).mono ?_; rintro e w1 ⟨rfl, hb1⟩)
      go_loopg [3, 16] 8 (fun g2 h2 i wi => ∃ j : Nat, j + g2 = 8 ∧ i = .int .i64 j ∧ h2 = .int .u32 (PackM.sumBTo h x j : Nat) ∧ w1 = wi)
      case atStart => exact ⟨0, by omega, rfl, rfl, rfl⟩
      case round =>
        obtain ⟨j, hj, rfl, rfl, rfl⟩ := hrel
        by_cases hj8 : j < 8
        · have hix := fun wx => byte_index x j hj8 wx
          have hh := PackM.sumBTo_lt h x j hs
          have hc := PackM.byteAt_lt x j
          have hst := xor_step _ _ hh hc
          have HST : Hid (PackM.sumBTo h x (j + 1) = PackM.step (PackM.sumBTo h x j) (PackM.byteAt x j)) := rfl
          generalize PackM.sumBTo h x j = hj at hh hst HST
          generalize PackM.byteAt x j = cj at hix hc hst HST
          go_wp2
          go_roundg (gk - 1)
          case measure => omega
          case rel => exact ⟨j + 1, by omega, by go_num, by rw [HST.out]; exact congrArg _ hst, rfl⟩
        · obtain rfl : j = 8 := by omega
          go_wp2
          go_roundg (l.length - (k + 1))
          case measure => omega
          case rel => exact ⟨k + 1, by omega, by go_num, by rw [HNEXT.out], hbel.trans (hb1.mono hsz)⟩
    · obtain rfl : gk = 0 := by omega
      obtain rfl : k = l.length := by omega
      go_wp2
      go_ret
      rw [HEQ.out]
      exact ⟨rfl, hbel⟩

theorem ref_step (h x : Nat) (hh : h < 4294967296) : bits .xor .u64 (h : Int) ((x : Int) % 256) * 16777619 % 4294967296 = (PackM.step h (x % 256) : Nat) := by
  have e : ((x : Int) % 256) = ((x % 256 : Nat) : Int) := by omega
  rw [e, u64_xor_nat h (x % 256) (by omega) (by omega), PackM.step_eq]
  omega

theorem ref_bound (h x : Nat) (hh : h < 4294967296) : 0 ≤ bits .xor .u64 (h : Int) ((x : Int) % 256) ∧ bits .xor .u64 (h : Int) ((x : Int) % 256) < 4294967296 := by
  have e : ((x : Int) % 256) = ((x % 256 : Nat) : Int) := by omega
  rw [e, u64_xor_nat h (x % 256) (by omega) (by omega)]
  have : h ^^^ (x % 256) < 4294967296 := Nat.xor_lt_two_pow (n := 32) hh (by omega)
  omega

theorem ref_step' (h x : Nat) (hh : h < 4294967296) : (IntKind.u64.wrap (bits .xor .u64 (h : Int) ((x : Int) % 256) * 16777619)).tmod 4294967296 = (PackM.step h (x % 256) : Nat) := by
  obtain ⟨h0, h1⟩ := ref_bound h x hh
  have e := ref_step h x hh
  generalize bits .xor .u64 (h : Int) ((x : Int) % 256) = B at h0 h1 e
  rw [IntKind.wrap_u64, Int.emod_eq_of_lt (by omega) (by omega), Int.tmod_eq_emod_of_nonneg (by omega)]
  exact e

theorem div_wrap (y : Nat) (hy : y < 18446744073709551616) : IntKind.u64.wrap ((y : Int) / 256) = ((y / 256 : Nat) : Int) := by
  rw [IntKind.wrap_u64, Int.emod_eq_of_lt (by omega) (by omega)]
  omega

set_option maxRecDepth 20000 in
set_option maxHeartbeats 800000 in
theorem ref_sum (l : List Nat) (hl : ∀ x ∈ l, x < 18446744073709551616) {v : Value} {w : World} (hv : HoldsU w v (natInts l)) :
    Calls Try.prog 135 #[v] w fun e w' => e = .returned (.int .u32 (PackM.sum l : Nat)) ∧ w = w' := by
  have HLT := Lib.hid hl
  have HV := Lib.hid hv
  have HEQ := Lib.hid (PackM.sumTo_eq l)
  have hlen := natInts_length l
  obtain ⟨ao, c, rfl, hao, hlc, hcm, hcells⟩ := hv
  rw [hlen] at hlc ⊢
  unfold maxLen at hcm
  clear hcells hao hl
  have HLEN := Lib.hid hlen
  clear hlen
  go_enter Try.func135, Try.ntmps135
  go_wp2
  go_loopg [3, 4] l.length (fun g h i wr => ∃ k : Nat, k + g = l.length ∧ i = .int .i64 k ∧ h = .int .u64 (PackM.sumTo l k : Nat) ∧ w = wr)
  case atStart => exact ⟨0, by omega, rfl, rfl, rfl⟩
  case round =>
    obtain ⟨k, hk, rfl, rfl, rfl⟩ := hrel
    by_cases hlt : k < l.length
    · obtain ⟨b, o, c', e, hb, _, _, hc⟩ := HV.out.open (by rw [HLEN.out]; omega)
      simp only [Value.slice.injEq] at e
      obtain ⟨rfl, _, rfl⟩ := e
      have hck : w.cell? ⟨b, o + k, none⟩ = some (.int .u64 ((l.getD k 0 : Nat) : Int)) := by
        rw [hc k (by rw [HLEN.out]; omega)]
        simp [natInts, hlt]
      have hxl : l.getD k 0 < 18446744073709551616 := HLT.out _ (by simp [hlt])
      have HNEXT : Hid (PackM.sumTo l (k + 1) = PackM.sumBTo (PackM.sumTo l k) (l.getD k 0) 8) := rfl
      have hs := PackM.sumTo_lt l k
      generalize l.getD k 0 = x at hck hxl HNEXT
      generalize PackM.sumTo l k = h at hs HNEXT
      clear hc
      have HXL := Lib.hid hxl
      clear hxl
      go_wp2
      go_loopg [3, 5, 6] 8 (fun g2 h2 y i wi => ∃ j : Nat, j + g2 = 8 ∧ i = .int .i64 j ∧ h2 = .int .u64 (PackM.sumBTo h x j : Nat) ∧ y = .int .u64 (x / 256 ^ j : Nat) ∧ w = wi)
      case atStart => exact ⟨0, by omega, rfl, rfl, by simp, rfl⟩
      case round =>
        obtain ⟨j, hj, rfl, rfl, rfl, rfl⟩ := hrel
        by_cases hj8 : j < 8
        · have hh := PackM.sumBTo_lt h x j hs
          have HST : Hid (PackM.sumBTo h x (j + 1) = PackM.step (PackM.sumBTo h x j) (x / 256 ^ j % 256)) := rfl
          have hyl : x / 256 ^ j < 18446744073709551616 := Nat.lt_of_le_of_lt (Nat.div_le_self _ _) HXL.out
          have HD : Hid (x / 256 ^ (j + 1) = x / 256 ^ j / 256) := by simp only [Hid, Nat.pow_succ, Nat.div_div_eq_div_mul]
          generalize PackM.sumBTo h x j = hj at hh HST
          generalize x / 256 ^ j = y at hyl HST HD
          have HSTT := Lib.hid (ref_step' hj y hh)
          have HYL := Lib.hid hyl
          clear hyl
          go_wp2
          go_roundg (gk - 1)
          case measure => omega
          case rel => exact ⟨j + 1, by omega, by go_num, by rw [HST.out]; exact congrArg _ HSTT.out, by rw [HD.out]; exact congrArg _ (div_wrap y HYL.out), rfl⟩
        · obtain rfl : j = 8 := by omega
          go_wp2
          go_roundg (l.length - (k + 1))
          case measure => omega
          case rel => exact ⟨k + 1, by omega, by go_num, by rw [HNEXT.out], rfl⟩
    · obtain rfl : gk = 0 := by omega
      obtain rfl : k = l.length := by omega
      have hsl := PackM.sumTo_lt l l.length
      have hsl2 : ((PackM.sumTo l l.length : Nat) : Int) < 4294967296 := by omega
      go_wp2
      go_ret
      rw [HEQ.out]
      exact ⟨rfl, rfl⟩

theorem holdsU_lit (w : World) (xs : List Int) (h : xs.length ≤ maxLen) : HoldsU (w.alloc (.cells (u64s xs).toArray 41)) (.slice (some ⟨w.heap.size, 0, none⟩) xs.length xs.length) xs :=
  ⟨_, _, rfl, (by intro h; cases h), Nat.le_refl _, h, fun ad ha j u hu => by
    simp only [Option.some.injEq] at ha
    subst ha
    exact cells_new w (u64s xs) _ j u hu⟩

theorem lit_one (w : World) (x : Nat) : HoldsU (w.alloc (.cells #[.int .u64 (x : Nat)] 41)) (.slice (some ⟨w.heap.size, 0, none⟩) 1 1) (natInts [x]) := by
  have h : (natInts [x]).length ≤ maxLen := by
    rw [natInts_length]
    unfold maxLen
    simp only [List.length_cons, List.length_nil]
    omega
  exact holdsU_lit w (natInts [x]) h

theorem bucket_no (s : ByteArray) (hs : s.size ≤ maxLen) (hg : goodB s.data.toList = false) (w : World) :
    Calls Try.prog 136 #[.string s] w fun e w' => e = .returned (.int .i64 0) ∧ w = w' := by
  have HS := Lib.hid hs
  have HG := Lib.hid hg
  clear hs hg
  go_enter Try.func136, Try.ntmps136
  go_wp2_with (go_at_call 123; refine (word_no s HS.out HG.out _).mono ?_; rintro e w' ⟨rfl, rfl⟩)
  go_ret
  exact ⟨rfl, rfl⟩

noncomputable def bucketOf (s : ByteArray) : Nat := PackM.sum [nword s] % 4
theorem bucketOf_lt (s : ByteArray) : bucketOf s < 4 := Nat.mod_lt _ (by decide)

theorem bucket_yes (s : ByteArray) (hg : goodB s.data.toList = true) (w : World) :
    Calls Try.prog 136 #[.string s] w fun e w' => e = .returned (.int .i64 (bucketOf s : Nat)) ∧ Below w.heap.size w w' := by
  have hlt := nword_lt (good_size hg).2
  have HW := Lib.hid (fun (w : World) => word_yes s hg w)
  have HB : Hid (bucketOf s = PackM.sum [nword s] % 4) := rfl
  have HSUM : Hid (∀ w : World, Calls Try.prog 121 #[.slice (some ⟨w.heap.size, 0, none⟩) 1 1] (w.alloc (.cells #[.int .u64 (nword s : Nat)] 41)) fun e w' => e = .returned (.int .u32 (PackM.sum [nword s] : Nat)) ∧ Below (w.heap.size + 1) (w.alloc (.cells #[.int .u64 (nword s : Nat)] 41)) w') := by
    intro w
    have h := sum_any [nword s] (by simpa using hlt) (lit_one w (nword s))
    simpa using h
  have hsl := PackM.sum_lt [nword s]
  generalize hS : PackM.sum [nword s] = S at hsl HSUM HB
  generalize nword s = x at HW HSUM hlt
  clear hlt hS
  have hs2 : (S : Int) < 4294967296 := by omega
  go_enter Try.func136, Try.ntmps136
  go_wp2_with (first | (go_at_call 123; refine (HW.out _).mono ?_; rintro e w1 ⟨rfl, hb1⟩) | (go_at_call 121; refine (HSUM.out _).mono ?_; rintro e w2 ⟨rfl, hb2⟩))
  go_ret
  rw [HB.out]
  exact ⟨by simp, (hb1.alloc hb1.size _).trans (hb2.mono (by have := hb1.size; omega))⟩
end Go.Proofs.Ytfpnmphmngdkdaa
