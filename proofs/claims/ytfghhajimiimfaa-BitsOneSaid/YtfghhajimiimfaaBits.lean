-- Layer 3 (bits): what the printed functions compute, in numbers.
import Derived.Test.YtfghhajimiimfaaPlain
import Derived.Test.YtfghhajimiimfaaPx
namespace Go.Proofs.YtfghhajimiimfaaQ
open Go.RowKit Go.Proofs.YtfghhajimiimfaaW.PrintWords Go.Proofs.YtfghhajimiimfaaW.PrintMore Go.Proofs.YtfghhajimiimfaaW.PrintLast Go.Proofs.Ytfghhajimiimfaa.P

theorem Ev.succ {α : Type} {g : Nat → Option α} {r : α} (h : Ev (fun k => g (k + 1)) r) : Ev g r := Ev.step (fun _ => rfl) h

/-! ### numbers packed by a width, as one number -/
def pval (w : Nat) : List Int → Nat
  | [] => 0
  | v :: vs => v.toNat + 2 ^ w * pval w vs
def Fit (w : Nat) (l : List Int) : Prop := ∀ x ∈ l, x.toNat < 2 ^ w
instance (w : Nat) (l : List Int) : Decidable (Fit w l) := inferInstanceAs (Decidable (∀ x ∈ l, x.toNat < 2 ^ w))
abbrev U64 (l : List Int) : Prop := In 18446744073709551615 l
abbrev B8 (l : List Int) : Prop := In 255 l

theorem pval_append (w : Nat) : ∀ a b : List Int, pval w (a ++ b) = pval w a + 2 ^ (w * a.length) * pval w b
  | [], b => by simp [pval]
  | x :: a, b => by
    simp only [List.cons_append, pval, pval_append w a b, List.length_cons, Nat.mul_add, Nat.mul_one, Nat.pow_add]
    rw [Nat.add_assoc, ← Nat.mul_assoc, Nat.mul_comm (2 ^ w) (2 ^ (w * a.length)), ]
theorem pval_lt (w : Nat) : ∀ {l : List Int}, Fit w l → pval w l < 2 ^ (w * l.length)
  | [], _ => by simp [pval]
  | x :: l, h => by
    have h1 := h x List.mem_cons_self
    have h2 := pval_lt w (l := l) (fun y hy => h y (List.mem_cons_of_mem _ hy))
    simp only [pval, List.length_cons, Nat.mul_add, Nat.mul_one, Nat.pow_add]
    calc x.toNat + 2 ^ w * pval w l < 2 ^ w + 2 ^ w * pval w l := by omega
      _ = 2 ^ w * (pval w l + 1) := by rw [Nat.mul_add, Nat.mul_one, Nat.add_comm]
      _ ≤ 2 ^ w * 2 ^ (w * l.length) := Nat.mul_le_mul_left _ h2
      _ = 2 ^ (w * l.length) * 2 ^ w := Nat.mul_comm _ _
theorem pval_take_succ (w : Nat) (l : List Int) (i : Nat) (h : i < l.length) : pval w (l.take (i + 1)) = pval w (l.take i) + 2 ^ (w * i) * l[i].toNat := by
  rw [List.take_succ_eq_append_getElem h, pval_append]
  simp [pval, Nat.min_eq_left (Nat.le_of_lt h)]
theorem Fit.take {w : Nat} {l : List Int} (h : Fit w l) (n : Nat) : Fit w (l.take n) := fun x hx => h x (List.mem_of_mem_take hx)
theorem pval_get (w : Nat) : ∀ (l : List Int) (i : Nat), Fit w l → (h : i < l.length) → pval w l / 2 ^ (i * w) % 2 ^ w = l[i].toNat
  | x :: l, 0, hf, _ => by
    have h1 := hf x List.mem_cons_self
    simp only [Nat.zero_mul, Nat.pow_zero, Nat.div_one, pval, List.getElem_cons_zero]
    rw [Nat.add_mul_mod_self_left, Nat.mod_eq_of_lt h1]
  | x :: l, i + 1, hf, hi => by
    have h1 := hf x List.mem_cons_self
    have e : pval w (x :: l) / 2 ^ w = pval w l := by
      simp only [pval]
      rw [Nat.add_mul_div_left _ _ (two_pow_pos' w), Nat.div_eq_of_lt h1, Nat.zero_add]
    have ih := pval_get w l i (fun y hy => hf y (List.mem_cons_of_mem _ hy)) (by simpa using hi)
    rw [Nat.succ_mul, Nat.add_comm, Nat.pow_add, ← Nat.div_div_eq_div_mul, e, ih]
    simp
theorem pval_take_mod (w : Nat) (l : List Int) (i : Nat) (hf : Fit w l) (hi : i ≤ l.length) : pval w (l.take i) = pval w l % 2 ^ (w * i) := by
  have e := pval_append w (l.take i) (l.drop i)
  rw [List.take_append_drop, List.length_take, Nat.min_eq_left hi] at e
  have h := pval_lt w (hf.take i)
  rw [List.length_take, Nat.min_eq_left hi] at h
  rw [e, Nat.add_mul_mod_self_left, Nat.mod_eq_of_lt h]

/-! ### the width -/
def orAll : Nat → List Int → Nat
  | a, [] => a
  | a, x :: xs => orAll (a ||| x.toNat) xs
theorem orAll_lt (w : Nat) : ∀ (l : List Int) (a : Nat), orAll a l < 2 ^ w ↔ a < 2 ^ w ∧ Fit w l
  | [], a => by simp [orAll, Fit]
  | x :: l, a => by
    simp only [orAll]
    rw [orAll_lt w l]
    constructor
    · rintro ⟨h1, h2⟩
      have ha : a < 2 ^ w := Nat.lt_of_le_of_lt Nat.left_le_or h1
      have hx : x.toNat < 2 ^ w := Nat.lt_of_le_of_lt Nat.right_le_or h1
      refine ⟨ha, fun y hy => ?_⟩
      rcases List.mem_cons.1 hy with rfl | hy
      · exact hx
      · exact h2 y hy
    · rintro ⟨h1, h2⟩
      exact ⟨Nat.or_lt_two_pow h1 (h2 x List.mem_cons_self), fun y hy => h2 y (List.mem_cons_of_mem _ hy)⟩
def widthOf (l : List Int) : Nat := Lib.bitLen (orAll 0 l)
theorem fit64 {l : List Int} (h : U64 l) : Fit 64 l := fun x hx => by
  have := h x hx
  omega
theorem bitLenAux_le : ∀ (f x w : Nat), w ≤ f → (Lib.bitLenAux f x ≤ w ↔ x < 2 ^ w) ∨ 2 ^ f ≤ x
  | 0, x, w, h => by
    obtain rfl : w = 0 := by omega
    by_cases hx : x < 1
    · left; simp [Lib.bitLenAux]; omega
    · right; simp; omega
  | f + 1, x, w, h => by
    by_cases hb : 2 ^ (f + 1) ≤ x
    · exact .inr hb
    · left
      simp only [Lib.bitLenAux]
      split
      · next h0 => subst h0; simp [two_pow_pos']
      · next h0 =>
        cases w with
        | zero => simp; omega
        | succ w =>
          rcases bitLenAux_le f (x / 2) w (by omega) with h1 | h1
          · rw [show 1 + Lib.bitLenAux f (x / 2) ≤ w + 1 ↔ Lib.bitLenAux f (x / 2) ≤ w by omega, h1, Nat.pow_succ]
            omega
          · rw [Nat.pow_succ] at hb
            omega
theorem bitLen_le_iff {x w : Nat} (hx : x < 2 ^ 64) (hw : w ≤ 64) : Lib.bitLen x ≤ w ↔ x < 2 ^ w := by
  rcases bitLenAux_le 64 x w hw with h | h
  · exact h
  · omega
theorem widthOf_le {l : List Int} (h : U64 l) {w : Nat} (hw : w ≤ 64) : widthOf l ≤ w ↔ Fit w l := by
  unfold widthOf
  have h64 : orAll 0 l < 2 ^ 64 := (orAll_lt 64 l 0).2 ⟨by decide, fit64 h⟩
  rw [bitLen_le_iff h64 hw, orAll_lt]
  exact ⟨fun h => h.2, fun h => ⟨two_pow_pos' w, h⟩⟩
theorem widthOf_le64 {l : List Int} (h : U64 l) : widthOf l ≤ 64 := (widthOf_le h (Nat.le_refl _)).2 (fit64 h)

theorem width_loop (l : List Int) (hl : U64 l) (hn : l.length ≤ 17592186044416) : ∀ (d i a : Nat), i + d = l.length → a < 2 ^ 64 →
    Ev (fun k => bits_Width.l0 k (a : Int) l (l.length : Int) (i : Int)) ((Lib.bitLen (orAll a (l.drop i)) : Nat) : Int)
  | 0, i, a, hi, ha => by
    apply Ev.succ
    simp only [bits_Width.l0]
    refine Ev.if_f (by omega) ?_
    refine Ev.obind (a := ((Lib.bitLen a : Nat) : Int)) ?_ ?_
    · unfold bits_Len64.f
      rw [if_pos (by omega), if_pos (by omega), Int.toNat_natCast]
    · rw [List.drop_of_length_le (by omega)]
      exact Ev.now _
  | d + 1, i, a, hi, ha => by
    have hil : i < l.length := by omega
    have hx := hl.get i hil
    have ha' : a ||| l[i].toNat < 2 ^ 64 := Nat.or_lt_two_pow ha (by omega)
    apply Ev.succ
    simp only [bits_Width.l0]
    refine Ev.if_t (by omega) (Ev.if_t (by omega) (Ev.if_t (by omega) ?_))
    rw [rd_nat l i hil, show wrap64 ((i : Int) + 1) = ((i + 1 : Nat) : Int) from by rw [w64 (by omega) (by omega)]; omega]
    rw [show Go.bits .or .u64 (a : Int) l[i] = ((a ||| l[i].toNat : Nat) : Int) from by rw [← or_u64 a _ ha (by omega), Int.toNat_of_nonneg hx.1]]
    rw [List.drop_eq_getElem_cons hil]
    exact width_loop l hl hn d (i + 1) _ (by omega) ha'
theorem width_ev {l : List Int} (hl : U64 l) (hn : l.length ≤ 17592186044416) : Ev (fun k => bits_Width.f k l) (widthOf l : Int) := by
  have := width_loop l hl hn l.length 0 0 (by omega) (by decide)
  simpa [bits_Width.f, widthOf] using this

/-! ### shifts as they are printed -/
theorem shl_u64 (x : Int) (n : Nat) (hn : n ≤ 64) : shl .u64 x (n : Int) = IntKind.u64.wrap (x * 2 ^ n) := by
  unfold shl
  rw [Int.toNat_natCast, show IntKind.u64.bits = 64 from rfl, Nat.min_eq_left hn]
theorem shr_u64 (x : Int) (n : Nat) (hn : n ≤ 64) : shr .u64 x (n : Int) = x / 2 ^ n := by
  unfold shr
  rw [Int.toNat_natCast, show IntKind.u64.bits = 64 from rfl, Nat.min_eq_left hn]
theorem shl_u8 (x : Int) (n : Nat) (hn : n ≤ 8) : shl .u8 x (n : Int) = IntKind.u8.wrap (x * 2 ^ n) := by
  unfold shl
  rw [Int.toNat_natCast, show IntKind.u8.bits = 8 from rfl, Nat.min_eq_left hn]
theorem shr_u8 (x : Int) (n : Nat) (hn : n ≤ 8) : shr .u8 x (n : Int) = x / 2 ^ n := by
  unfold shr
  rw [Int.toNat_natCast, show IntKind.u8.bits = 8 from rfl, Nat.min_eq_left hn]
theorem pow_le_256 {n : Nat} (h : n ≤ 8) : 2 ^ n ≤ 256 := by
  have := Nat.pow_le_pow_right (show 0 < 2 by decide) h
  simpa using this
theorem mask_of (n : Nat) (hn : n ≤ 63) : IntKind.u64.wrap ((shl .u64 1 (n : Int)) - 1) = 2 ^ n - 1 := by
  have h1 := Nat.pow_le_pow_right (show 0 < 2 by decide) hn
  have h2 := two_pow_pos' n
  have h3 := cast_pow n
  rw [shl_u64 _ _ (by omega), Int.one_mul, wu64 (x := 2 ^ n) (by omega) (by omega), wu64 (by omega) (by omega)]
theorem shift_small (x a b : Nat) (hx : x < 2 ^ a) : x * 2 ^ b < 2 ^ (a + b) := by
  rw [Nat.pow_add]
  exact Nat.mul_lt_mul_of_pos_right hx (two_pow_pos' b)
theorem pack_bits (c has v n : Nat) (hc : c < 2 ^ has) (hn : has + n ≤ 8) (hv : v < 2 ^ 64) :
    Go.bits .or .u64 (c : Int) (shl .u64 (Go.bits .and .u64 (v : Int) (IntKind.u64.wrap ((shl .u64 1 (n : Int)) - 1))) (has : Int)) = ((c + v % 2 ^ n * 2 ^ has : Nat) : Int) := by
  have hlt : v % 2 ^ n * 2 ^ has < 2 ^ (n + has) := shift_small _ _ _ (Nat.mod_lt _ (two_pow_pos' n))
  have h8 := pow_le_256 (n := n + has) (by omega)
  have h9 := pow_le_256 (n := has) (by omega)
  rw [mask_of n (by omega), mask_u64 n (by omega) (v : Int) (by omega) (by omega), shl_u64 _ _ (by omega)]
  rw [show ((v : Int) % 2 ^ n * 2 ^ has) = ((v % 2 ^ n * 2 ^ has : Nat) : Int) by simp]
  rw [wu64 (by omega) (by omega), or_high has _ _ (by omega) ?_ (by omega) (by omega) ?_ (by omega)]
  · omega
  · rw [show ((v % 2 ^ n * 2 ^ has : Nat) : Int) % 2 ^ has = ((v % 2 ^ n * 2 ^ has % 2 ^ has : Nat) : Int) by simp]
    rw [Nat.mul_mod_left]; rfl
  · rw [← cast_pow]; omega

/-! ### packing, as the program does it -/
def tot (out : List Int) (c : Nat) : Nat := val out + 256 ^ out.length * c
theorem mn_eq (a b : Nat) : mn (a : Int) (b : Int) = ((min a b : Nat) : Int) := by unfold mn; split <;> omega

theorem tot_step (out : List Int) (c has v n : Nat) : tot out (c + v % 2 ^ n * 2 ^ has) + 2 ^ (8 * out.length + has + n) * (v / 2 ^ n) = tot out c + 2 ^ (8 * out.length + has) * v := by
  unfold tot
  rw [p256, Nat.pow_add _ (8 * out.length + has) n, Nat.pow_add _ (8 * out.length) has]
  generalize 2 ^ (8 * out.length) = A
  generalize hB : 2 ^ has = B
  have e : v = v % 2 ^ n + 2 ^ n * (v / 2 ^ n) := (Nat.mod_add_div v (2 ^ n)).symm
  generalize hC : 2 ^ n = C at *
  generalize v % C = m at *
  generalize v / C = q at *
  subst e
  simp only [Nat.mul_add, Nat.mul_comm, Nat.mul_left_comm, Nat.add_assoc]

theorem pack_inner (w : Int) (ls : List Int) (len i : Int) (r : List Int × Int) : ∀ (left : Nat) (out : List Int) (c has v : Nat), has < 8 → c < 2 ^ has → v < 2 ^ left → left ≤ 64 → B8 out →
    8 * out.length + has + left ≤ 8 * 140737488355327 →
    (∀ (out' : List Int) (c' has' : Nat), has' < 8 → c' < 2 ^ has' → B8 out' → 8 * out'.length + has' = 8 * out.length + has + left → tot out' c' = tot out c + 2 ^ (8 * out.length + has) * v →
      Ev (fun k => bits_Pack.l0 k w out' (c' : Int) (has' : Int) ls len (wrap64 (i + 1))) r) →
    Ev (fun k => bits_Pack.l1 k w out (c : Int) (has : Int) (v : Int) (left : Int) ls len i) r := by
  intro left
  induction left using Nat.strongRecOn with
  | _ left ih =>
  intro out c has v hhas hc hv hleft hout hlen hk
  apply Ev.succ
  simp only [bits_Pack.l1]
  by_cases h0 : left = 0
  · subst h0
    refine Ev.if_f (by omega) ?_
    have hv0 : v = 0 := by simpa using hv
    exact hk out c has hhas hc hout (by omega) (by rw [hv0]; simp)
  · refine Ev.if_t (by omega) ?_
    have hw8 : wrap64 (8 - (has : Int)) = ((8 - has : Nat) : Int) := by rw [w64 (by omega) (by omega)]; omega
    rw [hw8, mn_eq]
    generalize hn : min left (8 - has) = n
    have hn1 : 1 ≤ n := by omega
    have hn2 : has + n ≤ 8 := by omega
    have hn3 : n ≤ left := by omega
    have hv64 : v < 2 ^ 64 := Nat.lt_of_lt_of_le hv (Nat.pow_le_pow_right (by decide) hleft)
    have hpb := pack_bits c has v n hc hn2 hv64
    have hc' : c + v % 2 ^ n * 2 ^ has < 2 ^ (has + n) := by
      have h1 : v % 2 ^ n * 2 ^ has + 2 ^ has ≤ 2 ^ n * 2 ^ has := by
        have := Nat.mul_le_mul_right (2 ^ has) (Nat.mod_lt v (two_pow_pos' n))
        simpa [Nat.succ_mul] using this
      rw [Nat.add_comm has n, Nat.pow_add]; omega
    have hvn : v / 2 ^ n < 2 ^ (left - n) := by
      rw [Nat.div_lt_iff_lt_mul (two_pow_pos' n), ← Nat.pow_add, show left - n + n = left by omega]
      exact hv
    have hs : shr .u64 (v : Int) (n : Int) = ((v / 2 ^ n : Nat) : Int) := by rw [shr_u64 _ _ (by omega)]; simp
    have hl : wrap64 ((left : Int) - (n : Int)) = ((left - n : Nat) : Int) := by rw [w64 (by omega) (by omega)]; omega
    have hh : wrap64 ((has : Int) + (n : Int)) = ((has + n : Nat) : Int) := by rw [w64 (by omega) (by omega)]; omega
    rw [hpb, hs, hl, hh]
    have hts := tot_step out c has v n
    have hX : c + v % 2 ^ n * 2 ^ has < 256 := Nat.lt_of_lt_of_le hc' (pow_le_256 hn2)
    clear hpb hs hl hh hw8 hv64 hv hc
    generalize c + v % 2 ^ n * 2 ^ has = X at *
    generalize v / 2 ^ n = v' at *
    have c1 : (0 : Int) ≤ (n : Int) := by omega
    have c2 : (0 : Int) ≤ (has : Int) := by omega
    refine Ev.if_t c1 (Ev.if_t c2 ?_)
    by_cases h8 : has + n = 8
    · have hroom : out.length < 140737488355328 := by clear hts hvn hX hc'; omega
      have hbm : (X : Int) % 256 = (X : Int) := by clear hts hvn hc'; omega
      refine Ev.if_t (by rw [h8]; rfl) (Ev.if_t hroom ?_)
      rw [hbm]
      have hlen' : (out ++ [(X : Int)]).length = out.length + 1 := by simp
      have e1 : tot (out ++ [(X : Int)]) 0 = tot out X := by
        unfold tot
        rw [val_append]
        simp [val]
      refine ih (left - n) (by omega) (out ++ [(X : Int)]) 0 0 v' (by omega) (by simp) hvn (by omega) (hout.append (In.single (by omega) (by clear hts hvn hc'; omega))) (by rw [hlen']; clear hts hvn hc'; omega) ?_
      intro out' c' has' g1 g2 g3 g4 g5
      rw [hlen'] at g4 g5
      refine hk out' c' has' g1 g2 g3 (by clear hts hvn hc' g5 g2; omega) ?_
      rw [g5, e1, show 8 * (out.length + 1) + 0 = 8 * out.length + has + n by omega]
      exact hts
    · refine Ev.if_f (by clear hts hvn hc'; omega) ?_
      refine ih (left - n) (by omega) out X (has + n) v' (by omega) hc' hvn (by omega) hout (by clear hts hvn hc'; omega) ?_
      intro out' c' has' g1 g2 g3 g4 g5
      refine hk out' c' has' g1 g2 g3 (by clear hts hvn hc' g5 g2; omega) ?_
      rw [g5, ← Nat.add_assoc]
      exact hts

/-- The bytes of numbers packed. -/
def packOf (w : Nat) (l : List Int) : List Int := digits ((w * l.length + 7) / 8) (pval w l)
theorem tot_lt {out : List Int} {c has : Nat} (h : B8 out) (hc : c < 2 ^ has) : tot out c < 2 ^ (8 * out.length + has) := by
  have h1 := val_lt h
  unfold tot
  rw [Nat.pow_add, ← p256]
  have h2 : 256 ^ out.length * (c + 1) ≤ 256 ^ out.length * 2 ^ has := Nat.mul_le_mul_left _ hc
  rw [Nat.mul_add, Nat.mul_one] at h2
  omega
theorem pack_loop (w : Nat) (l : List Int) (hl : Fit w l) (hu : U64 l) (hw : w ≤ 64) (hn : l.length * 8 ≤ 140737488351232) : ∀ (d i : Nat) (out : List Int) (c has : Nat), i + d = l.length → has < 8 → c < 2 ^ has → B8 out →
    8 * out.length + has = w * i → tot out c = pval w (l.take i) →
    Ev (fun k => bits_Pack.l0 k (w : Int) out (c : Int) (has : Int) l (l.length : Int) (i : Int)) (packOf w l, 0)
  | 0, i, out, c, has, hi, hhas, hc, hout, hb, ht => by
    have hil : i = l.length := by omega
    have hwl : w * l.length ≤ 64 * l.length := Nat.mul_le_mul_right _ hw
    rw [hil] at ht hb
    rw [List.take_length] at ht
    apply Ev.succ
    simp only [bits_Pack.l0]
    refine Ev.if_f (by omega) ?_
    by_cases h0 : has = 0
    · refine Ev.if_f (by omega) ?_
      have e : out = packOf w l := by
        refine eq_digits hout (by omega) ?_
        rw [← ht]; unfold tot
        have : c = 0 := by rw [h0] at hc; simpa using hc
        rw [this]; simp
      rw [e]; exact Ev.now _
    · refine Ev.if_t (by omega) ?_
      have hroom : out.length < 140737488355328 := by omega
      refine Ev.if_t hroom ?_
      have hc8 : c < 256 := Nat.lt_of_lt_of_le hc (pow_le_256 (by omega))
      rw [show (c : Int) % 256 = (c : Int) by omega]
      have e : out ++ [(c : Int)] = packOf w l := by
        refine eq_digits (hout.append (In.single (by omega) (by omega))) (by simp; omega) ?_
        rw [val_append, ← ht]; simp [val, tot]
      rw [e]; exact Ev.now _
  | d + 1, i, out, c, has, hi, hhas, hc, hout, hb, ht => by
    have hil : i < l.length := by omega
    have hx := hu.get i hil
    have hwi : w * (i + 1) ≤ 64 * l.length := Nat.mul_le_mul hw hil
    have hwe : w * (i + 1) = w * i + w := Nat.mul_succ w i
    apply Ev.succ
    simp only [bits_Pack.l0]
    refine Ev.if_t (by omega) (Ev.if_t (by omega) (Ev.if_t (by omega) ?_))
    rw [rd_nat l i hil, show l[i] = ((l[i].toNat : Nat) : Int) from (Int.toNat_of_nonneg hx.1).symm]
    refine pack_inner (w : Int) l (l.length : Int) (i : Int) _ w out c has l[i].toNat hhas hc (hl _ (List.getElem_mem hil)) hw hout (by omega) ?_
    intro out' c' has' g1 g2 g3 g4 g5
    rw [show wrap64 ((i : Int) + 1) = ((i + 1 : Nat) : Int) from by rw [w64 (by omega) (by omega)]; omega]
    refine pack_loop w l hl hu hw hn d (i + 1) out' c' has' (by omega) g1 g2 g3 (by omega) ?_
    rw [g5, pval_take_succ w l i hil, ht, hb]

theorem pack_bad {l : List Int} {w : Int} (hw : w < 0 ∨ 64 < w) : Ev (fun k => bits_Pack.f k l w) ([], 1) := by
  unfold bits_Pack.f
  by_cases h : w < 0
  · refine Ev.if_t h ?_
    apply Ev.succ
    simp only [bits_Pack.j0]
    exact Ev.if_t trivial (Ev.now _)
  · refine Ev.if_f h ?_
    rw [show decide (w > 64) = true from decide_eq_true (by omega)]
    apply Ev.succ
    simp only [bits_Pack.j0]
    exact Ev.if_t trivial (Ev.now _)
theorem pack_range {l : List Int} (hu : U64 l) (hn : l.length * 8 ≤ 140737488351232) {w : Nat} (hw : w ≤ 64) (hf : ¬ Fit w l) : Ev (fun k => bits_Pack.f k l (w : Int)) ([], 7) := by
  unfold bits_Pack.f
  refine Ev.if_f (by omega) ?_
  rw [show decide ((w : Int) > 64) = false from decide_eq_false (by omega)]
  apply Ev.succ
  simp only [bits_Pack.j0]
  refine Ev.if_f (by decide) (Ev.bind (width_ev hu (by omega)) (Ev.if_t ?_ (Ev.now _)))
  have := mt (widthOf_le hu hw).1 hf
  omega
theorem pack_ok {l : List Int} (hu : U64 l) (hn : l.length * 8 ≤ 140737488351232) {w : Nat} (hw : w ≤ 64) (hf : Fit w l) : Ev (fun k => bits_Pack.f k l (w : Int)) (packOf w l, 0) := by
  unfold bits_Pack.f
  refine Ev.if_f (by omega) ?_
  rw [show decide ((w : Int) > 64) = false from decide_eq_false (by omega)]
  apply Ev.succ
  simp only [bits_Pack.j0]
  refine Ev.if_f (by decide) (Ev.bind (width_ev hu (by omega)) ?_)
  have hle := (widthOf_le hu hw).2 hf
  refine Ev.if_f (by omega) ?_
  have h1 : wrap64 ((l.length : Int) / 8) = ((l.length / 8 : Nat) : Int) := by rw [w64 (by omega) (by omega)]; omega
  have hm : l.length / 8 * w ≤ l.length / 8 * 64 := Nat.mul_le_mul_left _ hw
  have h2 : wrap64 (((l.length / 8 : Nat) : Int) * (w : Int)) = ((l.length / 8 * w : Nat) : Int) := by rw [← Int.natCast_mul, w64 (by omega) (by omega)]
  have h3 : wrap64 (((l.length / 8 * w : Nat) : Int) + (w : Int)) = ((l.length / 8 * w + w : Nat) : Int) := by rw [← Int.natCast_add, w64 (by omega) (by omega)]
  rw [h1, h2, h3]
  refine Ev.if_t (by omega) (Ev.if_t (by omega) ?_)
  have := pack_loop w l hf hu hw hn l.length 0 [] 0 0 (by omega) (by decide) (by decide) (In.nil _) (by simp) (by simp [tot, val, pval])
  exact this

/-! ### the document's packing -/
theorem fits_eq (v : Int) (w : Nat) (h0 : 0 ≤ v) (h1 : v ≤ 18446744073709551615) : dragnetref03_Fits.f v (w : Int) = some (decide (v.toNat < 2 ^ w)) := by
  unfold dragnetref03_Fits.f
  by_cases h : 64 ≤ w
  · have := Nat.pow_le_pow_right (show 0 < 2 by decide) h
    rw [if_pos (by omega), decide_eq_true (by omega)]
  · rw [if_neg (by omega), if_pos (by omega), shr_u64 _ _ (by omega)]
    congr 1
    rw [Bool.eq_iff_iff, beq_iff_eq, decide_eq_true_iff]
    obtain ⟨n, rfl⟩ := Int.eq_ofNat_of_zero_le h0
    rw [show (n : Int) / 2 ^ w = ((n / 2 ^ w : Nat) : Int) by simp, Int.toNat_natCast]
    have := Nat.div_eq_zero_iff_lt (x := n) (two_pow_pos' w)
    omega
theorem ref_size (n w : Nat) (h : n * w ≤ 9223372036854775800) : dragnetref03_Size.f (n : Int) (w : Int) = some (((n * w + 7) / 8 : Nat) : Int) := by
  unfold dragnetref03_Size.f
  have e1 : wrap64 ((n : Int) * (w : Int)) = ((n * w : Nat) : Int) := by rw [← Int.natCast_mul, w64 (by omega) (by omega)]
  have e2 : wrap64 (((n * w : Nat) : Int) + 7) = ((n * w + 7 : Nat) : Int) := by rw [w64 (by omega) (by omega)]; omega
  have e3 : Int.tdiv ((n * w + 7 : Nat) : Int) 8 = (((n * w + 7) / 8 : Nat) : Int) := by rw [Int.tdiv_eq_ediv_of_nonneg (by omega)]; omega
  rw [e1, e2, e3, w64 (by omega) (by omega)]
/-- Bit k of a number, added at place p of bytes that hold less than 2^p. -/
theorem set_bit (b : List Int) (p : Nat) (hb : B8 b) (hv : val b < 2 ^ p) (hp : p / 8 < b.length) :
    ∃ b', b.set (p / 8) ((rd b ((p / 8 : Nat) : Int) + 2 ^ (p % 8)) % 256) = b' ∧ B8 b' ∧ b'.length = b.length ∧ val b' = val b + 2 ^ p := by
  have hg := val_get b (p / 8) hb hp
  have hr : p % 8 < 8 := Nat.mod_lt _ (by decide)
  have hsplit : 2 ^ p = 256 ^ (p / 8) * 2 ^ (p % 8) := by rw [p256, ← Nat.pow_add]; congr 1; omega
  have hq : val b / 256 ^ (p / 8) < 2 ^ (p % 8) := by
    rw [Nat.div_lt_iff_lt_mul (by rw [p256]; exact two_pow_pos' _), Nat.mul_comm, ← hsplit]; exact hv
  have h7 : 2 ^ (p % 8) ≤ 128 := by
    have := Nat.pow_le_pow_right (show 0 < 2 by decide) (show p % 8 ≤ 7 by omega)
    simpa using this
  have hm : val b / 256 ^ (p / 8) % 256 = val b / 256 ^ (p / 8) := Nat.mod_eq_of_lt (by omega)
  rw [hm] at hg
  rw [rd_nat b _ hp, ← hg, ← cast_pow]
  have hnum : (((val b / 256 ^ (p / 8) : Nat) : Int) + ((2 ^ (p % 8) : Nat) : Int)) % 256 = ((val b / 256 ^ (p / 8) + 2 ^ (p % 8) : Nat) : Int) := by omega
  rw [hnum]
  refine ⟨_, rfl, hb.set _ (by omega) (by omega), by simp, ?_⟩
  have := val_set b (p / 8) ((val b / 256 ^ (p / 8) + 2 ^ (p % 8) : Nat) : Int) hb (by omega) hp
  rw [← hg, Int.toNat_natCast, Int.toNat_natCast, Nat.mul_add, ← hsplit] at this
  omega

end Go.Proofs.YtfghhajimiimfaaQ
