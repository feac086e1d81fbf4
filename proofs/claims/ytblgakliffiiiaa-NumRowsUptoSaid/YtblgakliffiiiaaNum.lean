-- Layer 2 (num): what the printed functions compute.
import Derived.Test.YtblgakliffiiiaaRef01
namespace Go.Proofs.YtblgakliffiiiaaQ
open Go.RowKit Go.Proofs.YtblgakliffiiiaaW.PrintWords Go.Proofs.YtblgakliffiiiaaW.PrintMore Go.Proofs.YtblgakliffiiiaaW.PrintLast Go.Proofs.Ytblgakliffiiiaa.P

/-! ### how many bytes, and a number's bytes -/
def nb (v : Nat) : Nat := (Lib.bitLen v + 7) / 8
theorem nb_le_iff {v k : Nat} (hv : v < 2 ^ 64) (hk : k ≤ 8) : nb v ≤ k ↔ v < 256 ^ k := by
  unfold nb
  rw [p256, ← bitLen_le_iff hv (w := 8 * k) (by omega)]
  omega
theorem nb_le8 {v : Nat} (hv : v < 2 ^ 64) : nb v ≤ 8 := (nb_le_iff hv (Nat.le_refl _)).2 (by rw [p256]; exact hv)
theorem nb_pos {v : Nat} (hv : v < 2 ^ 64) (h : 0 < v) : 1 ≤ nb v := by
  rcases Nat.lt_or_ge 0 (nb v) with h1 | h1
  · exact h1
  · have := (nb_le_iff hv (k := 0) (by omega)).1 (by omega)
    simp at this; omega
theorem lt_nb {v : Nat} (hv : v < 2 ^ 64) : v < 256 ^ nb v := (nb_le_iff hv (nb_le8 hv)).1 (Nat.le_refl _)
def numEnc (v : Nat) : List Int := if v ≤ 247 then [(v : Int)] else ((247 + nb v : Nat) : Int) :: digits (nb v) v
theorem digits_succ : ∀ (n v : Nat), digits (n + 1) v = digits n v ++ [((v / 256 ^ n % 256 : Nat) : Int)]
  | 0, v => by simp [digits]
  | n + 1, v => by
    rw [digits, digits_succ n (v / 256), digits, List.cons_append, Nat.div_div_eq_div_mul, Nat.pow_succ, Nat.mul_comm 256]
theorem in_numEnc {v : Nat} (hv : v < 2 ^ 64) : B8 (numEnc v) := by
  unfold numEnc
  have := nb_le8 hv
  split
  · exact In.single (by omega) (by omega)
  · exact In.mk_cons ⟨by omega, by omega⟩ (in_digits _ _)
theorem length_numEnc {v : Nat} : (numEnc v).length = if v ≤ 247 then 1 else 1 + nb v := by
  unfold numEnc
  split
  · rfl
  · simp [length_digits]; omega
theorem length_numEnc_le {v : Nat} (hv : v < 2 ^ 64) : (numEnc v).length ≤ 9 := by
  have := nb_le8 hv
  rw [length_numEnc]; split <;> omega

theorem size_eq {v : Nat} (hv : v < 2 ^ 64) : num_size.f (v : Int) = some (nb v : Int) := by
  have h64 : Lib.bitLen v ≤ 64 := (bitLen_le_iff hv (Nat.le_refl _)).2 hv
  unfold num_size.f bits_Len64.f
  rw [if_pos (by omega), if_pos (by omega), Int.toNat_natCast]
  simp only [Option.bind_some]
  rw [show (7 : Int) = ((7 : Nat) : Int) from rfl, add64 _ 7 (by omega), div8 _ (by omega)]
  rfl
theorem put_loop (v n : Nat) (hn : n ≤ 8) : ∀ (d i : Nat) (out : List Int), i + d = n → out.length + d < 140737488355328 →
    Ev (fun k => num_Put.l0 k ((v / 256 ^ i : Nat) : Int) out (n : Int) (i : Int)) (out ++ digits d (v / 256 ^ i))
  | 0, i, out, hi, ho => by
    apply Ev.succ
    simp only [num_Put.l0]
    refine Ev.if_f (by omega) ?_
    simp only [digits, List.append_nil]
    exact Ev.now _
  | d + 1, i, out, hi, ho => by
    apply Ev.succ
    simp only [num_Put.l0]
    refine Ev.if_t (by omega) (Ev.if_t (by omega) ?_)
    rw [inc i (by omega), show ((v / 256 ^ i : Nat) : Int) / 256 = ((v / 256 ^ (i + 1) : Nat) : Int) by rw [Nat.pow_succ, ← Nat.div_div_eq_div_mul]; omega]
    have ih := put_loop v n hn d (i + 1) (out ++ [((v / 256 ^ i : Nat) : Int) % 256]) (by omega) (by simp; omega)
    rw [List.append_assoc] at ih
    have e : digits (d + 1) (v / 256 ^ i) = ((v / 256 ^ i : Nat) : Int) % 256 :: digits d (v / 256 ^ (i + 1)) := by
      rw [digits, Nat.pow_succ, ← Nat.div_div_eq_div_mul]
      congr 1
    rw [e]
    exact ih
theorem put_ev (b : List Int) (hb : b.length ≤ 140737488355000) {v : Nat} (hv : v < 2 ^ 64) : Ev (fun k => num_Put.f k b (v : Int)) (b ++ numEnc v) := by
  have h8 := nb_le8 hv
  unfold num_Put.f
  refine Ev.obind (a := b) ?_ (Ev.obind (a := b) ?_ ?_)
  · unfold slices_Clone_byte_byte.f; rw [if_pos (by omega)]
  · unfold slices_Grow_byte_byte.f; rw [if_pos (by decide), if_pos (by omega)]
  · unfold numEnc
    by_cases h : v ≤ 247
    · rw [if_pos h]
      refine Ev.if_t (by omega) (Ev.if_t (by omega) ?_)
      rw [show (v : Int) % 256 = (v : Int) by omega]
      exact Ev.now _
    · rw [if_neg h]
      refine Ev.if_f (by omega) (Ev.obind (size_eq hv) (Ev.if_t (by omega) ?_))
      rw [show (247 : Int) = ((247 : Nat) : Int) from rfl, add64 247 (nb v) (by omega), show (((247 + nb v : Nat) : Int)) % 256 = ((247 + nb v : Nat) : Int) by omega]
      have := put_loop v (nb v) h8 (nb v) 0 (b ++ [((247 + nb v : Nat) : Int)]) (by omega) (by simp; omega)
      simpa using this
theorem bytes_loop {v : Nat} (hv : v < 2 ^ 64) : ∀ (d i : Nat), i + d = nb v →
    Ev (fun k => dragnetref02_Bytes.l0 k ((v / 256 ^ i : Nat) : Int) (((247 + i : Nat) : Int) :: digits i v)) (((247 + nb v : Nat) : Int) :: digits (nb v) v)
  | 0, i, hi => by
    have hlt := lt_nb hv
    apply Ev.succ
    simp only [dragnetref02_Bytes.l0]
    rw [show i = nb v by omega, Nat.div_eq_of_lt hlt]
    exact Ev.if_f (by decide) (Ev.now _)
  | d + 1, i, hi => by
    have h8 := nb_le8 hv
    have hge : 256 ^ i ≤ v := by
      rcases Nat.lt_or_ge v (256 ^ i) with h | h
      · have := (nb_le_iff hv (k := i) (by omega)).2 h; omega
      · exact h
    have hpos : 0 < v / 256 ^ i := Nat.div_pos hge (by rw [p256]; exact two_pow_pos' _)
    have hlt : v / 256 ^ i ≤ v := Nat.div_le_self _ _
    have ih := bytes_loop hv d (i + 1) (by omega)
    rw [digits_succ, Nat.pow_succ, ← Nat.div_div_eq_div_mul] at ih
    generalize v / 256 ^ i = x at *
    apply Ev.succ
    simp only [dragnetref02_Bytes.l0]
    refine Ev.if_t (by omega) (Ev.if_t (by simp [length_digits]; omega) ?_)
    simp only [Option.bind_some]
    refine Ev.if_t (by simp; omega) ?_
    have e1 : IntKind.u64.wrap (Int.tdiv (x : Int) 256) = ((x / 256 : Nat) : Int) := by
      rw [Int.tdiv_eq_ediv_of_nonneg (by omega), wu64 (by omega) (by omega)]; omega
    have e2 : Int.tmod (x : Int) 256 % 256 = ((x % 256 : Nat) : Int) := by rw [Int.tmod_eq_emod_of_nonneg (by omega)]; omega
    rw [e1, e2]
    have e3 : (rd (((247 + i : Nat) : Int) :: digits i v ++ [((x % 256 : Nat) : Int)]) 0 + 1) % 256 = ((247 + (i + 1) : Nat) : Int) := by
      simp [rd]; omega
    rw [e3]
    exact ih
theorem bytes_ev {v : Nat} (hv : v < 2 ^ 64) : Ev (fun k => dragnetref02_Bytes.f k (v : Int)) (numEnc v) := by
  unfold dragnetref02_Bytes.f numEnc
  by_cases h : v ≤ 247
  · rw [if_pos h]
    refine Ev.if_t (by omega) ?_
    rw [show (v : Int) % 256 = (v : Int) by omega]
    exact Ev.now _
  · rw [if_neg h]
    refine Ev.if_f (by omega) ?_
    have := bytes_loop hv (nb v) 0 (by omega)
    simpa [digits] using this

/-! ### folding -/
def foldOf (n : Int) : Int := if 0 ≤ n then 2 * n else -(2 * n) - 1
def unfoldOf (v : Int) : Int := if v % 2 = 0 then v / 2 else -(v / 2) - 1
theorem ofInt_toNat (x : Nat) (hx : x < 2 ^ 64) : (BitVec.ofInt 64 (x : Int)).toNat = x := by
  rw [BitVec.ofInt_natCast, BitVec.toNat_ofNat, Nat.mod_eq_of_lt hx]
theorem xor_zero_u64 (x : Nat) (hx : x < 2 ^ 64) : Go.bits .xor .u64 (x : Int) 0 = (x : Int) := by
  show IntKind.u64.wrap (((BitVec.ofInt 64 (x : Int) ^^^ BitVec.ofInt 64 0 : BitVec 64).toNat : Nat) : Int) = x
  rw [BitVec.toNat_xor, ofInt_toNat x hx, show (BitVec.ofInt 64 0).toNat = 0 from rfl, Nat.xor_zero]
  exact wu64 (by omega) (by omega)
theorem xor_ones_u64 (x : Nat) (hx : x < 2 ^ 64) : Go.bits .xor .u64 (x : Int) 18446744073709551615 = ((18446744073709551615 - x : Nat) : Int) := by
  show IntKind.u64.wrap (((BitVec.ofInt 64 (x : Int) ^^^ BitVec.ofInt 64 18446744073709551615 : BitVec 64).toNat : Nat) : Int) = _
  rw [show BitVec.ofInt 64 18446744073709551615 = BitVec.allOnes 64 from rfl, BitVec.xor_allOnes, BitVec.toNat_not, ofInt_toNat x hx]
  rw [wu64 (by omega) (by omega)]
theorem xor_zero_i64 (x : Nat) (hx : x < 2 ^ 63) : Go.bits .xor .i64 (x : Int) 0 = (x : Int) := by
  show IntKind.i64.wrap (((BitVec.ofInt 64 (x : Int) ^^^ BitVec.ofInt 64 0 : BitVec 64).toNat : Nat) : Int) = x
  rw [BitVec.toNat_xor, ofInt_toNat x (by omega), show (BitVec.ofInt 64 0).toNat = 0 from rfl, Nat.xor_zero, IntKind.wrap_i64]
  omega
theorem xor_ones_i64 (x : Nat) (hx : x < 2 ^ 63) : Go.bits .xor .i64 (x : Int) (-1) = -(x : Int) - 1 := by
  show IntKind.i64.wrap (((BitVec.ofInt 64 (x : Int) ^^^ BitVec.ofInt 64 (-1) : BitVec 64).toNat : Nat) : Int) = _
  rw [show BitVec.ofInt 64 (-1) = BitVec.allOnes 64 from rfl, BitVec.xor_allOnes, BitVec.toNat_not, ofInt_toNat x (by omega), IntKind.wrap_i64]
  omega
theorem wu64_neg {n : Int} (h0 : -18446744073709551616 ≤ n) (h1 : n < 0) : IntKind.u64.wrap n = n + 18446744073709551616 := by
  simp only [IntKind.wrap, IntKind.bits, IntKind.signed, Bool.false_and, Bool.false_eq_true, if_false]
  omega
theorem wu64_over {n : Int} (h0 : 18446744073709551616 ≤ n) (h1 : n < 36893488147419103232) : IntKind.u64.wrap n = n - 18446744073709551616 := by
  simp only [IntKind.wrap, IntKind.bits, IntKind.signed, Bool.false_and, Bool.false_eq_true, if_false]
  omega
theorem fold_eq (n : Int) (h0 : -9223372036854775808 ≤ n) (h1 : n ≤ 9223372036854775807) : num_Fold.f n = some (foldOf n) := by
  unfold num_Fold.f foldOf
  by_cases h : 0 ≤ n
  · rw [if_pos h, show n / 9223372036854775808 = 0 by omega, wu64 (x := n) h (by omega), wu64 (x := n * 2) (by omega) (by omega), wu64 (x := 0) (by decide) (by decide)]
    obtain ⟨m, rfl⟩ := Int.eq_ofNat_of_zero_le h
    rw [show (m : Int) * 2 = ((m * 2 : Nat) : Int) by omega, xor_zero_u64 _ (by omega)]
    congr 1; omega
  · rw [if_neg h, show n / 9223372036854775808 = -1 by omega, wu64_neg (n := n) (by omega) (by omega), wu64_over (by omega) (by omega), wu64_neg (n := -1) (by decide) (by decide)]
    obtain ⟨m, hm⟩ := Int.eq_ofNat_of_zero_le (show 0 ≤ (n + 18446744073709551616) * 2 - 18446744073709551616 by omega)
    rw [hm, show (-1 : Int) + 18446744073709551616 = 18446744073709551615 from rfl, xor_ones_u64 _ (by omega)]
    congr 1; omega
theorem foldOf_range (n : Int) (h0 : -9223372036854775808 ≤ n) (h1 : n ≤ 9223372036854775807) : 0 ≤ foldOf n ∧ foldOf n ≤ 18446744073709551615 := by
  unfold foldOf; split <;> omega
theorem ref_fold_eq (n : Int) (h0 : -9223372036854775808 ≤ n) (h1 : n ≤ 9223372036854775807) : dragnetref02_Fold.f n = some (foldOf n) := by
  unfold dragnetref02_Fold.f foldOf
  by_cases h : 0 ≤ n
  · rw [if_pos h, if_pos h, wu64 (x := n) h (by omega), wu64 (by omega) (by omega)]
  · rw [if_neg h, if_neg h, w64 (x := n + 1) (by omega) (by omega), w64 (by omega) (by omega), wu64 (x := -(n + 1)) (by omega) (by omega), wu64 (x := 2 * -(n + 1)) (by omega) (by omega), wu64 (by omega) (by omega)]
    congr 1; omega
theorem unfold_eq (v : Int) (h0 : 0 ≤ v) (h1 : v ≤ 18446744073709551615) : num_Unfold.f v = some (unfoldOf v) := by
  unfold num_Unfold.f unfoldOf
  have hm : Go.bits .and .u64 v 1 = v % 2 := by
    have := mask_u64 1 (by decide) v h0 (by omega)
    simpa using this
  rw [hm, w64 (x := v / 2) (by omega) (by omega), w64 (x := v % 2) (by omega) (by omega), w64 (x := -(v % 2)) (by omega) (by omega)]
  obtain ⟨m, hv⟩ := Int.eq_ofNat_of_zero_le (show 0 ≤ v / 2 by omega)
  rw [hv]
  by_cases h : v % 2 = 0
  · rw [if_pos h, h, show -(0 : Int) = 0 from rfl, xor_zero_i64 m (by omega)]
  · rw [if_neg h, show v % 2 = 1 by omega, xor_ones_i64 m (by omega)]
theorem ref_unfold_eq (v : Int) (h0 : 0 ≤ v) (h1 : v ≤ 18446744073709551615) : dragnetref02_Unfold.f v = some (unfoldOf v) := by
  unfold dragnetref02_Unfold.f unfoldOf
  rw [Int.tmod_eq_emod_of_nonneg h0, Int.tdiv_eq_ediv_of_nonneg h0, wu64 (x := v / 2) (by omega) (by omega), w64 (x := v / 2) (by omega) (by omega), w64 (x := -(v / 2)) (by omega) (by omega), w64 (x := -(v / 2) - 1) (by omega) (by omega)]
  split <;> rfl
theorem unfoldOf_range (v : Int) (h0 : 0 ≤ v) (h1 : v ≤ 18446744073709551615) : -9223372036854775808 ≤ unfoldOf v ∧ unfoldOf v ≤ 9223372036854775807 := by
  unfold unfoldOf; split <;> omega
theorem unfold_fold (n : Int) : unfoldOf (foldOf n) = n := by unfold unfoldOf foldOf; split <;> split <;> omega
theorem fold_unfold (v : Int) (h0 : 0 ≤ v) : foldOf (unfoldOf v) = v := by unfold unfoldOf foldOf; split <;> split <;> omega

/-! ### taking -/
/-- The answer of Take behind its bytes: len bytes, v their number. -/
def takeRes (v len : Nat) : Int × Int × Int := if v ≤ 247 ∨ nb v < len then (0, 0, 2) else ((v : Int), 1 + (len : Int), 0)
theorem takeRes_bad {v len : Nat} (h : v ≤ 247 ∨ nb v < len) : takeRes v len = (0, 0, 2) := if_pos h
theorem takeRes_ok {v len : Nat} (h : ¬ v ≤ 247) (h2 : ¬ nb v < len) : takeRes v len = ((v : Int), 1 + (len : Int), 0) := if_neg (fun e => e.elim h h2)
def takeOf : List Int → Int × Int × Int
  | [] => (0, 0, 3)
  | x :: rest => if x ≤ 247 then (x, 1, 0) else
    if rest.length < (x - 247).toNat then (0, 0, 3) else takeRes (val (rest.take (x - 247).toNat)) (x - 247).toNat
theorem takeOf_small {x : Int} {rest : List Int} (h : x ≤ 247) : takeOf (x :: rest) = (x, 1, 0) := if_pos h
theorem takeOf_short {x : Int} {rest : List Int} {k : Nat} (h : ¬ x ≤ 247) (hk : x - 247 = (k : Int)) (h2 : rest.length < k) : takeOf (x :: rest) = (0, 0, 3) := by
  simp only [takeOf]
  rw [if_neg h, hk, Int.toNat_natCast, if_pos h2]
theorem takeOf_long {x : Int} {rest : List Int} {k : Nat} (h : ¬ x ≤ 247) (hk : x - 247 = (k : Int)) (h2 : ¬ rest.length < k) : takeOf (x :: rest) = takeRes (val (rest.take k)) k := by
  simp only [takeOf]
  rw [if_neg h, hk, Int.toNat_natCast, if_neg h2]
theorem val_take_succ (y : List Int) (i : Nat) (hi : i < y.length) : val (y.take (i + 1)) = val (y.take i) + 256 ^ i * y[i].toNat := by
  rw [List.take_succ_eq_append_getElem hi, val_append]
  simp [val, Nat.min_eq_left (Nat.le_of_lt hi)]
theorem take_loop (y : List Int) (hy : B8 y) (h8 : y.length ≤ 8) (h1 : 1 ≤ y.length) : ∀ (d i : Nat), i + d = y.length →
    Ev (fun k => num_Take.l0 k (val (y.take i) : Int) (y.length : Int) y (y.length : Int) (i : Int)) (takeRes (val y) y.length)
  | 0, i, hi => by
    have hv : val y < 2 ^ 64 := by
      have := val_lt hy
      rw [p256] at this
      exact Nat.lt_of_lt_of_le this (Nat.pow_le_pow_right (by decide) (by omega))
    apply Ev.succ
    simp only [num_Take.l0]
    refine Ev.if_f (by omega) ?_
    rw [show i = y.length by omega, List.take_length]
    by_cases hs : val y ≤ 247
    · rw [takeRes_bad (.inl hs)]
      exact Ev.if_t (by omega) (Ev.now _)
    · refine Ev.if_f (by omega) (Ev.obind (size_eq hv) ?_)
      by_cases hn : nb (val y) < y.length
      · rw [takeRes_bad (.inr hn)]
        exact Ev.if_t (by omega) (Ev.now _)
      · rw [takeRes_ok hs hn]
        refine Ev.if_f (by omega) ?_
        rw [w64 (by omega) (by omega)]
        exact Ev.now _
  | d + 1, i, hi => by
    have hil : i < y.length := by omega
    have hx := hy.get i hil
    apply Ev.succ
    simp only [num_Take.l0]
    refine Ev.if_t (by omega) (Ev.if_t (by omega) (Ev.if_t (by omega) ?_))
    rw [show (8 : Int) * (i : Int) = ((8 * i : Nat) : Int) by omega, w64 (x := ((8 * i : Nat) : Int)) (by omega) (by omega)]
    refine Ev.if_t (by omega) ?_
    have ih := take_loop y hy h8 h1 d (i + 1) (by omega)
    rw [val_take_succ y i hil] at ih
    rw [rd_nat y i hil, inc i (by omega), shl_u64 _ _ (by omega)]
    have hlow : val (y.take i) < 2 ^ (8 * i) := by
      have := val_lt (hy.take i)
      rwa [List.length_take, Nat.min_eq_left (by omega), p256] at this
    have hp := Nat.pow_le_pow_right (show 0 < 2 by decide) (show 8 * i ≤ 56 by omega)
    obtain ⟨z, hz⟩ := Int.eq_ofNat_of_zero_le hx.1
    rw [hz] at hx ih ⊢
    rw [Int.toNat_natCast] at ih
    have hz2 : z * 2 ^ (8 * i) ≤ 255 * 2 ^ (8 * i) := Nat.mul_le_mul_right _ (by omega)
    generalize val (y.take i) = a at *
    rw [wu64 (x := (z : Int)) (by omega) (by omega), show ((z : Int) * 2 ^ (8 * i)) = ((z * 2 ^ (8 * i) : Nat) : Int) by simp]
    have h8' : (((z * 2 ^ (8 * i) : Nat) : Int) % 2 ^ (8 * i)) = 0 := by
      rw [show ((z * 2 ^ (8 * i) : Nat) : Int) % 2 ^ (8 * i) = ((z * 2 ^ (8 * i) % 2 ^ (8 * i) : Nat) : Int) by simp, Nat.mul_mod_left]; rfl
    have h9 : (a : Int) < 2 ^ (8 * i) := by exact_mod_cast hlow
    have h10 : ((256 ^ i * z : Nat)) = z * 2 ^ (8 * i) := by rw [p256, Nat.mul_comm]
    rw [h10] at ih
    generalize z * 2 ^ (8 * i) = q at *
    rw [wu64 (x := (q : Int)) (by omega) (by omega), or_high (8 * i) _ _ (by omega) h8' (by omega) (by omega) h9 (by omega), Int.add_comm, ← Int.natCast_add]
    exact ih
theorem take_ev (b : List Int) (hb : B8 b) (hl : b.length ≤ 9223372036854775000) : Ev (fun k => num_Take.f k b) (takeOf b) := by
  unfold num_Take.f
  cases b with
  | nil => exact Ev.if_t rfl (Ev.now _)
  | cons x rest =>
    obtain ⟨hx, hr⟩ := hb.cons
    have hc : (x :: rest).length = rest.length + 1 := rfl
    have hrd : rd (x :: rest) 0 = x := rfl
    refine Ev.if_f (by omega) (Ev.if_t (by omega) ?_)
    rw [hrd]
    by_cases h : x ≤ 247
    · rw [takeOf_small h]
      refine Ev.if_t h ?_
      rw [wu64 (by omega) (by omega)]
      exact Ev.now _
    · refine Ev.if_f h ?_
      obtain ⟨k, hk⟩ := Int.eq_ofNat_of_zero_le (show 0 ≤ x - 247 by omega)
      rw [w64 (x := x) (by omega) (by omega), hk, w64 (x := (k : Int)) (by omega) (by omega), w64 (by omega) (by omega)]
      by_cases h2 : rest.length < k
      · rw [takeOf_short h hk h2]
        exact Ev.if_t (by omega) (Ev.now _)
      · rw [takeOf_long h hk h2]
        refine Ev.if_f (by omega) ?_
        rw [w64 (x := 1 + (k : Int)) (by omega) (by omega)]
        refine Ev.if_t (by omega) (Ev.if_t (by omega) ?_)
        have e : ((x :: rest).take ((1 + (k : Int)).toNat)).drop 1 = rest.take k := by
          rw [show (1 + (k : Int)).toNat = k + 1 by omega]; rfl
        rw [e]
        simp only [Option.bind_some]
        have hlen : (rest.take k).length = k := by rw [List.length_take]; omega
        have := take_loop (rest.take k) (hr.take k) (by omega) (by omega) (rest.take k).length 0 (by omega)
        rw [hlen] at this ⊢
        simpa [val] using this
theorem ref_take_loop (x : Int) (rest : List Int) (hr : B8 rest) (k : Nat) (h8 : k ≤ 8) (hk : k ≤ rest.length) (hk1 : 1 ≤ k) : ∀ (i : Nat), i ≤ k →
    Ev (fun n => dragnetref02_Take.l0 n (x :: rest) (k : Int) ((val ((rest.take k).drop i) : Nat) : Int) (i : Int)) (takeRes (val (rest.take k)) k)
  | 0, _ => by
    have hy := hr.take k
    have hlen : (rest.take k).length = k := by rw [List.length_take]; omega
    have hv : val (rest.take k) < 2 ^ 64 := by
      have := val_lt hy
      rw [p256, hlen] at this
      exact Nat.lt_of_lt_of_le this (Nat.pow_le_pow_right (by decide) (by omega))
    have hnk : nb (val (rest.take k)) ≤ k := (nb_le_iff hv (by omega)).2 (by have := val_lt hy; rwa [hlen] at this)
    apply Ev.succ
    simp only [dragnetref02_Take.l0]
    rw [List.drop_zero]
    refine Ev.if_f (by decide) (Ev.bind (bytes_ev hv) ?_)
    rw [w64 (x := 1 + (k : Int)) (by omega) (by omega), length_numEnc]
    by_cases hs : val (rest.take k) ≤ 247
    · rw [if_pos hs, takeRes_bad (.inl hs)]
      exact Ev.if_f (by omega) (Ev.now _)
    · rw [if_neg hs]
      by_cases hn : nb (val (rest.take k)) < k
      · rw [takeRes_bad (.inr hn)]
        exact Ev.if_f (by omega) (Ev.now _)
      · rw [takeRes_ok hs hn]
        exact Ev.if_t (by omega) (Ev.now _)
  | i + 1, hi => by
    have hlen : (rest.take k).length = k := by rw [List.length_take]; omega
    have hil : i < (rest.take k).length := by omega
    have hx := (hr.take k).get i hil
    have hlow : val ((rest.take k).drop (i + 1)) < 256 ^ 7 := by
      have := val_lt ((hr.take k).drop (i + 1))
      rw [List.length_drop, hlen] at this
      exact Nat.lt_of_lt_of_le this (Nat.pow_le_pow_right (by decide) (by omega))
    have ih := ref_take_loop x rest hr k h8 hk hk1 i (by omega)
    rw [List.drop_eq_getElem_cons hil] at ih
    apply Ev.succ
    simp only [dragnetref02_Take.l0]
    have hcl : (x :: rest).length = rest.length + 1 := rfl
    refine Ev.if_t (by omega) (Ev.if_t (by omega) (Ev.if_t (by omega) ?_))
    have hrd : rd (x :: rest) ((i + 1 : Nat) : Int) = (rest.take k)[i] := by
      rw [rd_nat (x :: rest) (i + 1) (by omega)]
      simp
    rw [hrd, show (1 : Int) = ((1 : Nat) : Int) from rfl, sub64 (i + 1) 1 (by omega) (by omega), Nat.add_sub_cancel]
    simp only [val] at ih
    generalize val ((rest.take k).drop (i + 1)) = a at *
    generalize (rest.take k)[i] = z at *
    have h7 : (256 : Nat) ^ 7 = 72057594037927936 := by decide
    rw [h7] at hlow
    rw [wu64 (x := (a : Int) * 256) (by omega) (by omega), wu64 (x := z) hx.1 (by omega), wu64 (by omega) (by omega)]
    rw [show (a : Int) * 256 + z = ((z.toNat + 256 * a : Nat) : Int) by omega]
    exact ih
theorem ref_take_ev (b : List Int) (hb : B8 b) (hl : b.length ≤ 9223372036854775000) : Ev (fun k => dragnetref02_Take.f k b) (takeOf b) := by
  unfold dragnetref02_Take.f
  cases b with
  | nil => exact Ev.if_t rfl (Ev.now _)
  | cons x rest =>
    obtain ⟨hx, hr⟩ := hb.cons
    have hc : (x :: rest).length = rest.length + 1 := rfl
    have hrd : rd (x :: rest) 0 = x := rfl
    refine Ev.if_f (by omega) (Ev.if_t (by omega) ?_)
    rw [hrd]
    by_cases h : x ≤ 247
    · rw [takeOf_small h]
      refine Ev.if_t h ?_
      rw [wu64 (by omega) (by omega)]
      exact Ev.now _
    · refine Ev.if_f h ?_
      obtain ⟨k, hk⟩ := Int.eq_ofNat_of_zero_le (show 0 ≤ x - 247 by omega)
      rw [w64 (x := x) (by omega) (by omega), hk, w64 (x := (k : Int)) (by omega) (by omega), w64 (by omega) (by omega)]
      by_cases h2 : rest.length < k
      · rw [takeOf_short h hk h2]
        exact Ev.if_t (by omega) (Ev.now _)
      · rw [takeOf_long h hk h2]
        refine Ev.if_f (by omega) ?_
        have := ref_take_loop x rest hr k (by omega) (by omega) (by omega) k (Nat.le_refl _)
        have hd : (rest.take k).drop k = [] := List.drop_of_length_le (by rw [List.length_take]; omega)
        rw [hd] at this
        exact this
end Go.Proofs.YtblgakliffiiiaaQ
