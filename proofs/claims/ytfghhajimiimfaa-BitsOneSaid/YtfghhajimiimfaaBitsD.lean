-- Layer 3 (bits), fourth part: the document's unpacking.
import Derived.Test.YtfghhajimiimfaaBitsC
namespace Go.Proofs.YtfghhajimiimfaaQ
open Go.RowKit Go.Proofs.YtfghhajimiimfaaW.PrintWords Go.Proofs.YtfghhajimiimfaaW.PrintMore Go.Proofs.YtfghhajimiimfaaW.PrintLast Go.Proofs.Ytfghhajimiimfaa.P

/-- The bit at place p of bytes. -/
theorem bit_at (b : List Int) (hb : B8 b) (p : Nat) (hp : p / 8 < b.length) :
    Int.tmod (shr .u8 (rd b ((p / 8 : Nat) : Int)) ((p % 8 : Nat) : Int)) 2 = ((val b / 2 ^ p % 2 : Nat) : Int) := by
  have h := take_bits b hb p 1 hp (by omega)
  have hx := hb.get (p / 8) hp
  rw [rd_nat b _ hp, shr_u8 _ _ (by omega)] at h ⊢
  obtain ⟨y, hy⟩ := Int.eq_ofNat_of_zero_le hx.1
  rw [hy] at h hx ⊢
  have hle : y / 2 ^ (p % 8) ≤ y := Nat.div_le_self _ _
  rw [show (y : Int) / 2 ^ (p % 8) = ((y / 2 ^ (p % 8) : Nat) : Int) by simp] at h ⊢
  rw [show ((shl .u8 1 ((1 : Nat) : Int)) - 1) % 256 = 2 ^ 1 - 1 by decide, mask_u8 1 (by omega) _ (Int.natCast_nonneg _) (by exact_mod_cast (show y / 2 ^ (p % 8) < 2 ^ 8 by omega))] at h
  rw [mod2]
  have h2 : ((y / 2 ^ (p % 8) % 2 : Nat) : Int) = ((y / 2 ^ (p % 8) : Nat) : Int) % 2 ^ 1 := by simp
  rw [h2, h, Nat.pow_one]
theorem ref_unpack_inner (b : List Int) (hb : B8 b) (w i n : Nat) (hw : w ≤ 64) (hi : i < n) (hn : n ≤ 4096) (hlen : b.length = (n * w + 7) / 8) (acc : List Int) (hacc : acc.length < 17592186044416) (r : List Int × Int)
    (hc : Ev (fun k => dragnetref03_Unpack.l0 k b (n : Int) (w : Int) (acc ++ [((val b / 2 ^ (i * w) % 2 ^ w : Nat) : Int)]) ((i + 1 : Nat) : Int)) r) :
    ∀ (d g : Nat), g + d = w → Ev (fun k => dragnetref03_Unpack.l1 k b (n : Int) (w : Int) acc (i : Int) ((val b / 2 ^ (i * w) % 2 ^ g : Nat) : Int) (g : Int)) r
  | 0, g, hg => by
    apply Ev.succ
    simp only [dragnetref03_Unpack.l1]
    refine Ev.if_f (by omega) (Ev.if_t hacc ?_)
    rw [inc i (by omega), show g = w by omega]
    exact hc
  | d + 1, g, hg => by
    have hiw : (i + 1) * w ≤ n * w := Nat.mul_le_mul_right _ hi
    have hnw : n * w ≤ 4096 * 64 := Nat.mul_le_mul hn hw
    rw [Nat.succ_mul] at hiw
    have hp : (i * w + g) / 8 < b.length := by omega
    have ih := ref_unpack_inner b hb w i n hw hi hn hlen acc hacc r hc d (g + 1) (by omega)
    apply Ev.succ
    simp only [dragnetref03_Unpack.l1]
    refine Ev.if_t (by omega) ?_
    rw [place w i g (by rw [Nat.mul_comm]; omega), Nat.mul_comm w i, div8 _ (by omega), mod8]
    refine Ev.if_t (by omega) (Ev.if_t (by omega) (Ev.if_t (by omega) ?_))
    rw [bit_at b hb _ hp, inc g (by omega)]
    have hs := div_pow_mod2 (val b / 2 ^ (i * w)) g
    rw [← shr_add] at hs
    rw [hs] at ih
    have hlt := Nat.mod_lt (val b / 2 ^ (i * w)) (two_pow_pos' g)
    have hp1 := Nat.pow_le_pow_right (show 0 < 2 by decide) (show g ≤ 63 by omega)
    generalize val b / 2 ^ (i * w) % 2 ^ g = x at *
    by_cases h1 : val b / 2 ^ (i * w + g) % 2 = 1
    · refine Ev.if_t (by omega) (Ev.if_t (by omega) ?_)
      rw [h1, Nat.mul_one] at ih
      rw [shl_u64 _ _ (by omega), Int.one_mul, ← cast_pow]
      generalize 2 ^ g = y at *
      rw [wu64 (x := (y : Int)) (by omega) (by omega), wu64 (by omega) (by omega)]
      rw [Int.natCast_add] at ih
      exact ih
    · refine Ev.if_f (by omega) ?_
      rw [show val b / 2 ^ (i * w + g) % 2 = 0 by omega, Nat.mul_zero, Nat.add_zero] at ih
      exact ih
theorem ref_unpack_rest (b : List Int) (hb : B8 b) (hbl : b.length ≤ 100000) (acc : List Int) (m : Nat) (hm : m ≤ 8 * b.length) : ∀ (d k : Nat), k + d = 8 * b.length → m ≤ k → val b / 2 ^ m % 2 ^ (k - m) = 0 →
    Ev (fun n => dragnetref03_Unpack.l2 n b acc (k : Int)) (if 2 ^ m ≤ val b then ([], 2) else (acc, 0))
  | 0, k, hk, hmk, hz => by
    apply Ev.succ
    simp only [dragnetref03_Unpack.l2]
    rw [show (8 : Int) * (b.length : Int) = ((8 * b.length : Nat) : Int) by omega, w64 (by omega) (by omega)]
    refine Ev.if_f (by omega) ?_
    have hv := val_lt hb
    rw [p256] at hv
    have hlt : val b / 2 ^ m < 2 ^ (k - m) := by
      rw [Nat.div_lt_iff_lt_mul (two_pow_pos' m), ← Nat.pow_add, show k - m + m = 8 * b.length by omega]
      exact hv
    rw [Nat.mod_eq_of_lt hlt] at hz
    have := (Nat.div_eq_zero_iff_lt (x := val b) (two_pow_pos' m)).1 hz
    rw [if_neg (by omega)]
    exact Ev.now _
  | d + 1, k, hk, hmk, hz => by
    have hp : k / 8 < b.length := by omega
    apply Ev.succ
    simp only [dragnetref03_Unpack.l2]
    rw [show (8 : Int) * (b.length : Int) = ((8 * b.length : Nat) : Int) by omega, w64 (x := ((8 * b.length : Nat) : Int)) (by omega) (by omega)]
    refine Ev.if_t (by omega) ?_
    rw [div8 _ (by omega), mod8]
    refine Ev.if_t (by omega) (Ev.if_t (by omega) (Ev.if_t (by omega) ?_))
    rw [bit_at b hb _ hp, inc k (by omega)]
    by_cases h1 : val b / 2 ^ k % 2 = 1
    · refine Ev.if_t (by omega) ?_
      have hge : 2 ^ m ≤ val b := by
        have h2 : 2 ^ k ≤ val b := by
          rcases Nat.lt_or_ge (val b) (2 ^ k) with h | h
          · rw [Nat.div_eq_of_lt h] at h1; omega
          · exact h
        exact Nat.le_trans (Nat.pow_le_pow_right (by decide) hmk) h2
      rw [if_pos hge]; exact Ev.now _
    · refine Ev.if_f (by omega) (ref_unpack_rest b hb hbl acc m hm d (k + 1) (by omega) (by omega) ?_)
      have hs := div_pow_mod2 (val b / 2 ^ m) (k - m)
      rw [← shr_add, show m + (k - m) = k by omega, hz, show val b / 2 ^ k % 2 = 0 by omega] at hs
      rw [show k + 1 - m = k - m + 1 by omega, hs]
      simp
theorem ref_unpack_loop (b : List Int) (hb : B8 b) (w n : Nat) (hw : w ≤ 64) (hn : n ≤ 4096) (hlen : b.length = (n * w + 7) / 8) : ∀ (d i : Nat), i + d = n →
    Ev (fun k => dragnetref03_Unpack.l0 k b (n : Int) (w : Int) (unOf (val b) w i) (i : Int)) (if 2 ^ (n * w) ≤ val b then ([], 2) else (unOf (val b) w n, 0))
  | 0, i, hi => by
    have hnw : n * w ≤ 4096 * 64 := Nat.mul_le_mul hn hw
    apply Ev.succ
    simp only [dragnetref03_Unpack.l0]
    refine Ev.if_f (by omega) ?_
    rw [show i = n by omega, wrap_mul n w hw hn]
    exact ref_unpack_rest b hb (by omega) _ (n * w) (by omega) (8 * b.length - n * w) (n * w) (by omega) (Nat.le_refl _) (by simp [Nat.mod_one])
  | d + 1, i, hi => by
    apply Ev.succ
    simp only [dragnetref03_Unpack.l0]
    refine Ev.if_t (by omega) ?_
    have h0 : (0 : Int) = ((val b / 2 ^ (i * w) % 2 ^ 0 : Nat) : Int) := by simp [Nat.mod_one]
    have := ref_unpack_inner b hb w i n hw (by omega) hn hlen (unOf (val b) w i) (by rw [length_unOf]; omega) _
      (by have := ref_unpack_loop b hb w n hw hn hlen d (i + 1) (by omega)
          rw [unOf_succ] at this
          exact this) w 0 (by omega)
    rw [← h0] at this
    exact this
theorem ref_unpack (b : List Int) (hb : B8 b) (_hbl : b.length ≤ 140737488355328) (n w : Int) (hn0 : -9223372036854775808 ≤ n) (hn1 : n ≤ 9223372036854775807) : Ev (fun k => dragnetref03_Unpack.f k b n w) (unpackOf b n w) := by
  unfold dragnetref03_Unpack.f unpackOf
  have hbad : Ev (fun k => dragnetref03_Unpack.j0 k b n w true) ([], 1) := by
    apply Ev.succ
    simp only [dragnetref03_Unpack.j0]
    exact Ev.if_t trivial (Ev.now _)
  by_cases h : w < 0 ∨ 64 < w ∨ n < 0 ∨ 4096 < n
  · rw [if_pos h]
    by_cases h1 : w < 0
    · exact Ev.if_t h1 hbad
    · refine Ev.if_f h1 ?_
      by_cases h2 : w > 64
      · exact Ev.if_t h2 hbad
      · refine Ev.if_f h2 ?_
        by_cases h3 : n < 0
        · exact Ev.if_t h3 hbad
        · refine Ev.if_f h3 ?_
          rw [show decide (n > 4096) = true from decide_eq_true (by omega)]
          exact hbad
  · rw [if_neg h]
    refine Ev.if_f (by omega) (Ev.if_f (by omega) (Ev.if_f (by omega) ?_))
    rw [show decide (n > 4096) = false from decide_eq_false (by omega)]
    obtain ⟨n, rfl⟩ := Int.eq_ofNat_of_zero_le (show 0 ≤ n by omega)
    obtain ⟨w, rfl⟩ := Int.eq_ofNat_of_zero_le (show 0 ≤ w by omega)
    have hw : w ≤ 64 := by omega
    have hn : n ≤ 4096 := by omega
    have hnw : n * w ≤ 4096 * 64 := Nat.mul_le_mul hn hw
    clear h hbad
    simp only [Int.toNat_natCast]
    apply Ev.succ
    simp only [dragnetref03_Unpack.j0]
    refine Ev.if_f (by decide) (Ev.obind (ref_size n w (by omega)) ?_)
    by_cases h1 : b.length < (n * w + 7) / 8
    · rw [if_pos h1]; exact Ev.if_t (by omega) (Ev.now _)
    rw [if_neg h1]
    refine Ev.if_f (by omega) (Ev.obind (ref_size n w (by omega)) ?_)
    by_cases h2 : (n * w + 7) / 8 < b.length
    · rw [if_pos h2]; exact Ev.if_t (by omega) (Ev.now _)
    rw [if_neg h2]
    refine Ev.if_f (by omega) ?_
    have := ref_unpack_loop b hb w n hw hn (by omega) n 0 (by omega)
    simpa [unOf] using this
end Go.Proofs.YtfghhajimiimfaaQ
