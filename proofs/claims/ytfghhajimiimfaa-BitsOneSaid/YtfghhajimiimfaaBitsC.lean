-- Layer 3 (bits), third part: the document's width; unpacking.
import Derived.Test.YtfghhajimiimfaaBitsB
namespace Go.Proofs.YtfghhajimiimfaaQ
open Go.RowKit Go.Proofs.YtfghhajimiimfaaW.PrintWords Go.Proofs.YtfghhajimiimfaaW.PrintMore Go.Proofs.YtfghhajimiimfaaW.PrintLast Go.Proofs.Ytfghhajimiimfaa.P

theorem Fit.mono {w w' : Nat} {l : List Int} (h : Fit w l) (hw : w ≤ w') : Fit w' l := fun x hx =>
  Nat.lt_of_lt_of_le (h x hx) (Nat.pow_le_pow_right (by decide) hw)
theorem ref_width_inner (l : List Int) (hu : U64 l) (hn : l.length * 8 ≤ 140737488351232) (i : Nat) (hi : i < l.length) (r : Int)
    (hc : ∀ w' : Nat, w' ≤ widthOf l → Fit w' (l.take (i + 1)) → Ev (fun k => dragnetref03_Width.l0 k l (w' : Int) ((i + 1 : Nat) : Int)) r) :
    ∀ (d w : Nat), w + d = widthOf l → Fit w (l.take i) → Ev (fun k => dragnetref03_Width.l1 k l (w : Int) (i : Int)) r := by
  have h64 := widthOf_le64 hu
  have hW : Fit (widthOf l) l := (widthOf_le hu h64).1 (Nat.le_refl _)
  have hx := hu.get i hi
  intro d
  induction d with
  | zero =>
    intro w hw hf
    apply Ev.succ
    simp only [dragnetref03_Width.l1]
    refine Ev.if_t (by omega) (Ev.if_t (by omega) ?_)
    rw [rd_nat l i hi]
    refine Ev.obind (fits_eq l[i] w hx.1 hx.2) ?_
    have hfit : l[i].toNat < 2 ^ w := by rw [show w = widthOf l by omega]; exact hW _ (List.getElem_mem hi)
    refine Ev.if_t (decide_eq_true hfit) ?_
    rw [inc i (by omega)]
    refine hc w (by omega) ?_
    rw [show w = widthOf l by omega]
    exact hW.take _
  | succ d ih =>
    intro w hw hf
    apply Ev.succ
    simp only [dragnetref03_Width.l1]
    refine Ev.if_t (by omega) (Ev.if_t (by omega) ?_)
    rw [rd_nat l i hi]
    refine Ev.obind (fits_eq l[i] w hx.1 hx.2) ?_
    by_cases hfit : l[i].toNat < 2 ^ w
    · refine Ev.if_t (decide_eq_true hfit) ?_
      rw [inc i (by omega)]
      refine hc w (by omega) ?_
      rw [List.take_succ_eq_append_getElem hi]
      intro y hy
      rcases List.mem_append.1 hy with hy | hy
      · exact hf y hy
      · rw [List.mem_singleton] at hy
        subst hy; exact hfit
    · refine Ev.if_f (by rw [decide_eq_false hfit]; decide) ?_
      rw [inc w (by omega)]
      exact ih (w + 1) (by omega) (hf.mono (by omega))
theorem ref_width_loop (l : List Int) (hu : U64 l) (hn : l.length * 8 ≤ 140737488351232) : ∀ (d i w : Nat), i + d = l.length → w ≤ widthOf l → Fit w (l.take i) →
    Ev (fun k => dragnetref03_Width.l0 k l (w : Int) (i : Int)) (widthOf l : Int)
  | 0, i, w, hi, hw, hf => by
    rw [show i = l.length by omega, List.take_length] at hf
    have := (widthOf_le hu (w := w) (Nat.le_trans hw (widthOf_le64 hu))).2 hf
    apply Ev.succ
    simp only [dragnetref03_Width.l0]
    refine Ev.if_f (by omega) ?_
    rw [show w = widthOf l by omega]
    exact Ev.now _
  | d + 1, i, w, hi, hw, hf => by
    apply Ev.succ
    simp only [dragnetref03_Width.l0]
    refine Ev.if_t (by omega) ?_
    exact ref_width_inner l hu hn i (by omega) _ (fun w' h1 h2 => ref_width_loop l hu hn d (i + 1) w' (by omega) h1 h2) (widthOf l - w) w (by omega) hf
theorem ref_width {l : List Int} (hu : U64 l) (hn : l.length * 8 ≤ 140737488351232) : Ev (fun k => dragnetref03_Width.f k l) (widthOf l : Int) := by
  unfold dragnetref03_Width.f
  exact ref_width_loop l hu hn l.length 0 0 (by omega) (by omega) (by intro x hx; simp at hx)

/-! ### unpacking -/
/-- The n numbers of width w in a number. -/
def unOf (V w n : Nat) : List Int := (List.range n).map fun i => ((V / 2 ^ (i * w) % 2 ^ w : Nat) : Int)
theorem length_unOf (V w n : Nat) : (unOf V w n).length = n := by simp [unOf]
theorem unOf_succ (V w n : Nat) : unOf V w (n + 1) = unOf V w n ++ [((V / 2 ^ (n * w) % 2 ^ w : Nat) : Int)] := by
  simp [unOf, List.range_succ]
theorem fit_unOf (V w n : Nat) : Fit w (unOf V w n) := by
  intro x hx
  simp only [unOf, List.mem_map, List.mem_range] at hx
  obtain ⟨i, _, rfl⟩ := hx
  rw [Int.toNat_natCast]
  exact Nat.mod_lt _ (two_pow_pos' w)
theorem u64_unOf (V w n : Nat) (hw : w ≤ 64) : U64 (unOf V w n) := by
  intro x hx
  simp only [unOf, List.mem_map, List.mem_range] at hx
  obtain ⟨i, _, rfl⟩ := hx
  have h1 := Nat.mod_lt (V / 2 ^ (i * w)) (two_pow_pos' w)
  have h2 := pow_le64 hw
  omega
theorem pval_unOf (V w : Nat) : ∀ n, pval w (unOf V w n) = V % 2 ^ (w * n)
  | 0 => by simp [unOf, pval, Nat.mod_one]
  | n + 1 => by
    rw [unOf_succ, pval_append, pval_unOf V w n, length_unOf, Nat.mul_succ, Nat.pow_add, Nat.mod_mul, Nat.mul_comm n w]
    simp only [pval, Int.toNat_natCast, Nat.mul_zero, Nat.add_zero]
theorem unOf_pval (w : Nat) {l : List Int} (hf : Fit w l) (h0 : ∀ x ∈ l, 0 ≤ x) : unOf (pval w l) w l.length = l := by
  apply List.ext_getElem
  · rw [length_unOf]
  · intro i h1 h2
    simp only [unOf, List.getElem_map, List.getElem_range]
    rw [pval_get w l i hf h2, Int.toNat_of_nonneg (h0 _ (List.getElem_mem h2))]

/-- The bits at place p of bytes. -/
theorem take_bits (b : List Int) (hb : B8 b) (p n : Nat) (hp : p / 8 < b.length) (hn : p % 8 + n ≤ 8) :
    Go.bits .and .u8 (shr .u8 (rd b ((p / 8 : Nat) : Int)) ((p % 8 : Nat) : Int)) (((shl .u8 1 (n : Int)) - 1) % 256) = ((val b / 2 ^ p % 2 ^ n : Nat) : Int) := by
  have hg := val_get b (p / 8) hb hp
  have hx := hb.get (p / 8) hp
  rw [rd_nat b _ hp, shr_u8 _ _ (by omega), ← hg]
  have e1 : ((shl .u8 1 (n : Int)) - 1) % 256 = 2 ^ n - 1 := by
    rw [shl_u8 _ _ (by omega), Int.one_mul, IntKind.wrap_u8]
    by_cases h8 : n = 8
    · rw [h8]; decide
    · have h1 := Nat.pow_le_pow_right (show 0 < 2 by decide) (show n ≤ 7 by omega)
      have h2 := two_pow_pos' n
      have h3 := cast_pow n
      rw [Int.emod_eq_of_lt (a := 2 ^ n) (by omega) (by omega), Int.emod_eq_of_lt (by omega) (by omega)]
  rw [e1]
  generalize hy : val b / 256 ^ (p / 8) % 256 = y at *
  have hy8 : y < 256 := by omega
  rw [show (y : Int) / 2 ^ (p % 8) = ((y / 2 ^ (p % 8) : Nat) : Int) by simp]
  have hy9 : y / 2 ^ (p % 8) ≤ y := Nat.div_le_self _ _
  rw [mask_u8 n (by omega) _ (Int.natCast_nonneg _) (by exact_mod_cast (show y / 2 ^ (p % 8) < 2 ^ 8 by omega)), show ((y / 2 ^ (p % 8) : Nat) : Int) % 2 ^ n = ((y / 2 ^ (p % 8) % 2 ^ n : Nat) : Int) by simp]
  congr 1
  rw [← hy]
  have hsplit : 2 ^ p = 256 ^ (p / 8) * 2 ^ (p % 8) := by rw [p256, ← Nat.pow_add]; congr 1; omega
  rw [hsplit, ← Nat.div_div_eq_div_mul]
  generalize val b / 256 ^ (p / 8) = q
  rw [show 256 = 2 ^ (p % 8) * 2 ^ (8 - p % 8) by rw [← Nat.pow_add, show p % 8 + (8 - p % 8) = 8 by omega], Nat.mod_mul_right_div_self]
  exact Nat.mod_mod_of_dvd _ (Nat.pow_dvd_pow 2 (by omega))

theorem mod_split (x a b : Nat) : x % 2 ^ (a + b) = x % 2 ^ a + 2 ^ a * (x / 2 ^ a % 2 ^ b) := by
  rw [Nat.pow_add, Nat.mod_mul]
theorem shr_add (x a b : Nat) : x / 2 ^ (a + b) = x / 2 ^ a / 2 ^ b := by rw [Nat.pow_add, Nat.div_div_eq_div_mul]
/-- A row that begins as unOf and goes on with zeros. -/
def part (V w i n : Nat) (x : Nat) : List Int := unOf V w i ++ (x : Int) :: List.replicate (n - i - 1) 0
theorem length_part {V w i n x : Nat} (h : i < n) : (part V w i n x).length = n := by simp [part, length_unOf]; omega
theorem rd_part {V w i n x : Nat} (h : i < n) : rd (part V w i n x) (i : Int) = (x : Int) := by
  rw [rd_nat _ i (by rw [length_part h]; exact h)]
  unfold part
  rw [List.getElem_append_right (by rw [length_unOf]; omega)]
  simp [length_unOf]
theorem set_part {V w i n x y : Nat} : (part V w i n x).set i (y : Int) = part V w i n y := by
  unfold part
  rw [List.set_append_right _ _ (by rw [length_unOf]; omega)]
  simp [length_unOf]
theorem or_bits (V s g n w : Nat) (hg : g + n ≤ w) (hw : w ≤ 64) :
    Go.bits .or .u64 ((V / 2 ^ s % 2 ^ g : Nat) : Int) (shl .u64 (IntKind.u64.wrap ((V / 2 ^ (s + g) % 2 ^ n : Nat) : Int)) (g : Int)) = ((V / 2 ^ s % 2 ^ (g + n) : Nat) : Int) := by
  have h1 := Nat.mod_lt (V / 2 ^ (s + g)) (two_pow_pos' n)
  have h2 := Nat.pow_le_pow_right (show 0 < 2 by decide) (show n ≤ 64 by omega)
  have h3 := Nat.mod_lt (V / 2 ^ s) (two_pow_pos' g)
  have h4 := Nat.pow_le_pow_right (show 0 < 2 by decide) (show g ≤ 64 by omega)
  have h5 := Nat.pow_le_pow_right (show 0 < 2 by decide) (show n + g ≤ 64 by omega)
  have h6 := shift_small _ _ g h1
  have h7 := mod_split (V / 2 ^ s) g n
  rw [← shr_add] at h7
  rw [h7]
  generalize V / 2 ^ (s + g) % 2 ^ n = a at *
  generalize V / 2 ^ s % 2 ^ g = c at *
  rw [wu64 (x := (a : Int)) (by omega) (by omega), shl_u64 _ _ (by omega)]
  rw [show ((a : Int) * 2 ^ g) = ((a * 2 ^ g : Nat) : Int) by simp]
  have h8 : (((a * 2 ^ g : Nat) : Int) % 2 ^ g) = 0 := by
    rw [show ((a * 2 ^ g : Nat) : Int) % 2 ^ g = ((a * 2 ^ g % 2 ^ g : Nat) : Int) by simp]
    rw [Nat.mul_mod_left]; rfl
  have h9 : (c : Int) < 2 ^ g := by exact_mod_cast h3
  generalize hy : a * 2 ^ g = y at *
  rw [wu64 (by omega) (by omega), or_high g _ _ (by omega) h8 (by omega) (by omega) h9 (by omega)]
  rw [Nat.mul_comm (2 ^ g) a, hy]
  omega

theorem sub64 (a b : Nat) (h : b ≤ a) (ha : a ≤ 9223372036854775800) : wrap64 ((a : Int) - (b : Int)) = ((a - b : Nat) : Int) := by rw [w64 (by omega) (by omega)]; omega
theorem add64 (a b : Nat) (h : a + b ≤ 9223372036854775800) : wrap64 ((a : Int) + (b : Int)) = ((a + b : Nat) : Int) := by rw [w64 (by omega) (by omega)]; omega
theorem unpack_inner (b : List Int) (hb : B8 b) (w i n : Nat) (hw : w ≤ 64) (hi : i < n) (hn : n ≤ 4096) (hlen : b.length = (n * w + 7) / 8) (r : List Int × Int)
    (hc : Ev (fun k => bits_Unpack.l0 k b (w : Int) (part (val b) w i n (val b / 2 ^ (i * w) % 2 ^ w)) ((i * w + w : Nat) : Int) (n : Int) ((i + 1 : Nat) : Int)) r) :
    ∀ (d g : Nat), g + d = w → Ev (fun k => bits_Unpack.l1 k b (w : Int) (part (val b) w i n (val b / 2 ^ (i * w) % 2 ^ g)) ((i * w + g : Nat) : Int) (i : Int) (g : Int) (n : Int) (i : Int)) r := by
  have hiw : (i + 1) * w ≤ n * w := Nat.mul_le_mul_right _ hi
  have hnw : n * w ≤ 4096 * 64 := Nat.mul_le_mul hn hw
  rw [Nat.succ_mul] at hiw
  intro d
  induction d using Nat.strongRecOn with
  | _ d ih =>
  intro g hg
  apply Ev.succ
  simp only [bits_Unpack.l1]
  by_cases h0 : d = 0
  · refine Ev.if_f (by omega) ?_
    rw [inc i (by omega)]
    rw [show g = w by omega]
    exact hc
  · have hp : (i * w + g) / 8 < b.length := by omega
    refine Ev.if_t (by omega) (Ev.if_t (by omega) (Ev.if_t (by rw [length_part hi]; omega) ?_))
    rw [div8 _ (by omega), mod8]
    refine Ev.if_t (by omega) (Ev.if_t (by omega) (Ev.if_t (by omega) ?_))
    rw [sub64 w g (by omega) (by omega), show (8 : Int) = ((8 : Nat) : Int) from rfl, sub64 8 ((i * w + g) % 8) (by omega) (by omega), mn_eq]
    generalize hm : min (w - g) (8 - (i * w + g) % 8) = m
    refine Ev.if_t (by omega) (Ev.if_t (by omega) ?_)
    rw [take_bits b hb _ m hp (by omega), rd_part hi, or_bits (val b) (i * w) g m w (by omega) hw, Int.toNat_natCast, set_part]
    rw [add64 (i * w + g) m (by omega), add64 g m (by omega), Nat.add_assoc]
    exact ih (d - m) (by omega) (g + m) (by omega)
theorem unpack_loop (b : List Int) (hb : B8 b) (w n : Nat) (hw : w ≤ 64) (hn : n ≤ 4096) (hlen : b.length = (n * w + 7) / 8) : ∀ (d i : Nat), i + d = n →
    Ev (fun k => bits_Unpack.l0 k b (w : Int) (unOf (val b) w i ++ List.replicate (n - i) 0) ((i * w : Nat) : Int) (n : Int) (i : Int)) (unOf (val b) w n, 0)
  | 0, i, hi => by
    apply Ev.succ
    simp only [bits_Unpack.l0]
    refine Ev.if_f (by omega) ?_
    rw [show i = n by omega, Nat.sub_self, List.replicate_zero, List.append_nil]
    exact Ev.now _
  | d + 1, i, hi => by
    apply Ev.succ
    simp only [bits_Unpack.l0]
    refine Ev.if_t (by omega) ?_
    have e : unOf (val b) w i ++ List.replicate (n - i) 0 = part (val b) w i n (val b / 2 ^ (i * w) % 2 ^ 0) := by
      unfold part
      rw [show n - i = (n - i - 1) + 1 by omega, List.replicate_succ]
      simp [Nat.mod_one]
    rw [e]
    refine unpack_inner b hb w i n hw (by omega) hn hlen _ ?_ w 0 (by omega)
    have := unpack_loop b hb w n hw hn hlen d (i + 1) (by omega)
    rw [unOf_succ, List.append_assoc, Nat.succ_mul] at this
    unfold part
    rw [show n - i - 1 = n - (i + 1) by omega]
    exact this
/-- What Unpack answers. -/
def unpackOf (b : List Int) (n w : Int) : List Int × Int :=
  if w < 0 ∨ 64 < w ∨ n < 0 ∨ 4096 < n then ([], 1) else
  if b.length < (n.toNat * w.toNat + 7) / 8 then ([], 3) else
  if (n.toNat * w.toNat + 7) / 8 < b.length then ([], 2) else
  if 2 ^ (n.toNat * w.toNat) ≤ val b then ([], 2) else (unOf (val b) w.toNat n.toNat, 0)
theorem unpack_j1 (b : List Int) (hb : B8 b) (w n : Nat) (hw : w ≤ 64) (hn : n ≤ 4096) (hlen : b.length = (n * w + 7) / 8) :
    Ev (fun k => bits_Unpack.j1 k b (n : Int) (w : Int) false) (unOf (val b) w n, 0) := by
  apply Ev.succ
  simp only [bits_Unpack.j1]
  refine Ev.if_f (by decide) (Ev.if_t (by omega) (Ev.if_t (by omega) ?_))
  rw [Int.toNat_natCast]
  simp only [Option.bind_some, List.length_replicate]
  have := unpack_loop b hb w n hw hn hlen n 0 (by omega)
  simpa [unOf] using this
theorem wrap_mul (n w : Nat) (hw : w ≤ 64) (hn : n ≤ 4096) : wrap64 ((n : Int) * (w : Int)) = ((n * w : Nat) : Int) := by
  have hnw : n * w ≤ 4096 * 64 := Nat.mul_le_mul hn hw
  rw [← Int.natCast_mul, w64 (by omega) (by omega)]
theorem wrap_size (n w : Nat) (hw : w ≤ 64) (hn : n ≤ 4096) : wrap64 (Int.tdiv (wrap64 ((wrap64 ((n : Int) * (w : Int))) + 7)) 8) = (((n * w + 7) / 8 : Nat) : Int) := by
  have hnw : n * w ≤ 4096 * 64 := Nat.mul_le_mul hn hw
  rw [wrap_mul n w hw hn, show wrap64 (((n * w : Nat) : Int) + 7) = ((n * w + 7 : Nat) : Int) by rw [w64 (by omega) (by omega)]; omega]
  rw [div8 _ (by omega)]
theorem unpack_ev (b : List Int) (hb : B8 b) (hbl : b.length ≤ 140737488355328) (n w : Int) : Ev (fun k => bits_Unpack.f k b n w) (unpackOf b n w) := by
  unfold bits_Unpack.f unpackOf
  have hbad : Ev (fun k => bits_Unpack.j0 k b n w true) ([], 1) := by
    apply Ev.succ
    simp only [bits_Unpack.j0]
    exact Ev.if_t trivial (Ev.now _)
  by_cases h : w < 0 ∨ 64 < w ∨ n < 0 ∨ 4096 < n
  · rw [if_pos h]
    by_cases h1 : w < 0
    · exact Ev.if_t h1 hbad
    · refine Ev.if_f h1 ?_
      by_cases h2 : w > 64
      · exact Ev.if_t h2 hbad
      · refine Ev.if_f h2 ?_
        by_cases h3 : n < 0
        · exact Ev.if_t h3 hbad
        · refine Ev.if_f h3 ?_
          rw [show decide (n > 4096) = true from decide_eq_true (by omega)]
          exact hbad
  · rw [if_neg h]
    refine Ev.if_f (by omega) (Ev.if_f (by omega) (Ev.if_f (by omega) ?_))
    rw [show decide (n > 4096) = false from decide_eq_false (by omega)]
    obtain ⟨n, rfl⟩ := Int.eq_ofNat_of_zero_le (show 0 ≤ n by omega)
    obtain ⟨w, rfl⟩ := Int.eq_ofNat_of_zero_le (show 0 ≤ w by omega)
    have hw : w ≤ 64 := by omega
    have hn : n ≤ 4096 := by omega
    have hnw : n * w ≤ 4096 * 64 := Nat.mul_le_mul hn hw
    clear h hbad
    simp only [Int.toNat_natCast]
    apply Ev.succ
    simp only [bits_Unpack.j0]
    rw [wrap_size n w hw hn, wrap_mul n w hw hn, mod8]
    refine Ev.if_f (by decide) ?_
    by_cases h1 : b.length < (n * w + 7) / 8
    · rw [if_pos h1]; exact Ev.if_t (by omega) (Ev.now _)
    rw [if_neg h1]
    refine Ev.if_f (by omega) ?_
    by_cases h2 : (n * w + 7) / 8 < b.length
    · rw [if_pos h2]; exact Ev.if_t (by omega) (Ev.now _)
    rw [if_neg h2]
    refine Ev.if_f (by omega) ?_
    have hlen : b.length = (n * w + 7) / 8 := by omega
    have hv := val_lt hb
    by_cases h3 : n * w % 8 = 0
    · refine Ev.if_f (by omega) ?_
      have h8 : 256 ^ b.length = 2 ^ (n * w) := by rw [p256, show 8 * b.length = n * w by omega]
      rw [if_neg (by omega)]
      exact unpack_j1 b hb w n hw hn hlen
    · refine Ev.if_t (by omega) ?_
      rw [show (1 : Int) = ((1 : Nat) : Int) from rfl, sub64 ((n * w + 7) / 8) 1 (by omega) (by omega), show (n * w + 7) / 8 - 1 = n * w / 8 by omega]
      refine Ev.if_t (by omega) (Ev.if_t (by omega) (Ev.if_t (by omega) ?_))
      have hp : n * w / 8 < b.length := by omega
      have hg := val_get b (n * w / 8) hb hp
      rw [rd_nat b _ hp, shr_u8 _ _ (by omega), ← hg, show ∀ x : Nat, ((x : Int) / 2 ^ (n * w % 8)) = ((x / 2 ^ (n * w % 8) : Nat) : Int) from fun x => by simp]
      have hq : val b / 256 ^ (n * w / 8) < 256 := by
        rw [Nat.div_lt_iff_lt_mul (by rw [p256]; exact two_pow_pos' _), Nat.mul_comm, ← Nat.pow_succ]
        rw [show b.length = (n * w / 8) + 1 by omega] at hv
        exact hv
      have hsplit : 2 ^ (n * w) = 256 ^ (n * w / 8) * 2 ^ (n * w % 8) := by rw [p256, ← Nat.pow_add]; congr 1; omega
      rw [Nat.mod_eq_of_lt hq, Nat.div_div_eq_div_mul, ← hsplit]
      have hz := Nat.div_eq_zero_iff_lt (x := val b) (two_pow_pos' (n * w))
      by_cases h4 : 2 ^ (n * w) ≤ val b
      · rw [if_pos h4]
        have hne : val b / 2 ^ (n * w) ≠ 0 := fun e => by have := hz.1 e; omega
        rw [show (((val b / 2 ^ (n * w) : Nat) : Int) != 0) = true from bne_iff_ne.2 (fun e => hne (Int.ofNat.inj e))]
        apply Ev.succ
        simp only [bits_Unpack.j1]
        exact Ev.if_t trivial (Ev.now _)
      · rw [if_neg h4]
        have he : val b / 2 ^ (n * w) = 0 := hz.2 (by omega)
        rw [show (((val b / 2 ^ (n * w) : Nat) : Int) != 0) = false from by rw [he]; rfl]
        exact unpack_j1 b hb w n hw hn hlen
end Go.Proofs.YtfghhajimiimfaaQ
