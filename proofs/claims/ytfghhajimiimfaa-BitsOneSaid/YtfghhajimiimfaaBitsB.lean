-- Layer 3 (bits), second part.
import Derived.Test.YtfghhajimiimfaaBits
namespace Go.Proofs.YtfghhajimiimfaaQ
open Go.RowKit Go.Proofs.YtfghhajimiimfaaW.PrintWords Go.Proofs.YtfghhajimiimfaaW.PrintMore Go.Proofs.YtfghhajimiimfaaW.PrintLast Go.Proofs.Ytfghhajimiimfaa.P

/-- Place i * w + k, as the texts reckon it. -/
theorem place (w i k : Nat) (h : w * i + k ≤ 9223372036854775800) : wrap64 ((wrap64 ((i : Int) * (w : Int))) + (k : Int)) = ((w * i + k : Nat) : Int) := by
  have e : (i : Int) * (w : Int) = ((w * i : Nat) : Int) := by rw [Int.mul_comm, ← Int.natCast_mul]
  rw [e, w64 (x := ((w * i : Nat) : Int)) (by omega) (by omega), w64 (by omega) (by omega)]
  omega
theorem div8 (p : Nat) (h : p ≤ 9223372036854775800) : wrap64 (Int.tdiv (p : Int) 8) = ((p / 8 : Nat) : Int) := by
  rw [Int.tdiv_eq_ediv_of_nonneg (by omega), w64 (by omega) (by omega)]; omega
theorem mod8 (p : Nat) : Int.tmod (p : Int) 8 = ((p % 8 : Nat) : Int) := by rw [Int.tmod_eq_emod_of_nonneg (by omega)]; omega
theorem mod2 (p : Nat) : Int.tmod (p : Int) 2 = ((p % 2 : Nat) : Int) := by rw [Int.tmod_eq_emod_of_nonneg (by omega)]; omega
theorem inc (p : Nat) (h : p ≤ 9223372036854775800) : wrap64 ((p : Int) + 1) = ((p + 1 : Nat) : Int) := by
  rw [w64 (by omega) (by omega)]; omega
theorem div_pow_mod2 (x k : Nat) : x % 2 ^ (k + 1) = x % 2 ^ k + 2 ^ k * (x / 2 ^ k % 2) := by
  rw [Nat.pow_succ, Nat.mod_mul]
theorem ref_pack_inner (w : Nat) (l : List Int) (i : Nat) (r : List Int × Int) (hw : w ≤ 64) (hi : i < l.length) (hu : U64 l) (hn : l.length * 8 ≤ 140737488351232) :
    ∀ (d k : Nat) (b : List Int), k + d = w → B8 b → b.length = (w * l.length + 7) / 8 → val b < 2 ^ (w * i + k) →
    (∀ b' : List Int, B8 b' → b'.length = b.length → val b' + 2 ^ (w * i) * (l[i].toNat % 2 ^ k) = val b + 2 ^ (w * i) * (l[i].toNat % 2 ^ w) → Ev (fun n => dragnetref03_Pack.l0 n l (w : Int) b' (wrap64 ((i : Int) + 1))) r) →
    Ev (fun n => dragnetref03_Pack.l1 n l (w : Int) b (i : Int) (k : Int)) r
  | 0, k, b, hk, hb, hlen, hv, hc => by
    apply Ev.succ
    simp only [dragnetref03_Pack.l1]
    refine Ev.if_f (by omega) ?_
    exact hc b hb rfl (by rw [show k = w by omega])
  | d + 1, k, b, hk, hb, hlen, hv, hc => by
    have hx := hu.get i hi
    have hkw : k < w := by omega
    apply Ev.succ
    simp only [dragnetref03_Pack.l1]
    refine Ev.if_t (by omega) (Ev.if_t (by omega) (Ev.if_t (by omega) (Ev.if_t (by omega) ?_)))
    rw [rd_nat l i hi, shr_u64 _ _ (by omega)]
    have hwi : w * i ≤ 64 * l.length := Nat.mul_le_mul hw (by omega)
    have hwl : w * (i + 1) ≤ w * l.length := Nat.mul_le_mul_left _ hi
    rw [Nat.mul_succ] at hwl
    have hp0 : w * i + k ≤ 9223372036854775800 := by omega
    rw [place w i k hp0, div8 _ hp0, mod8, inc k (by omega)]
    generalize hvn : l[i].toNat = v at *
    have hl : l[i] = (v : Int) := by omega
    rw [hl, show (v : Int) / 2 ^ k = ((v / 2 ^ k : Nat) : Int) by simp]
    have hbit := div_pow_mod2 v k
    by_cases h1 : v / 2 ^ k % 2 = 1
    · refine Ev.if_t (by rw [mod2]; omega) (Ev.if_t (by omega) (Ev.if_t (by omega) (Ev.if_t (by omega) ?_)))
      rw [shl_u8 _ _ (by omega), Int.one_mul, ← cast_pow, wu8 (Int.natCast_nonneg _) (by have := Nat.pow_le_pow_right (show 0 < 2 by decide) (show (w * i + k) % 8 ≤ 7 by omega); omega), cast_pow, Int.toNat_natCast]
      obtain ⟨b', hb', hB, hL, hV⟩ := set_bit b (w * i + k) hb hv (by omega)
      rw [hb']
      have hp : 2 ^ (w * i + (k + 1)) = 2 ^ (w * i + k) + 2 ^ (w * i + k) := by rw [← Nat.add_assoc, Nat.pow_succ]; omega
      refine ref_pack_inner w l i r hw hi hu hn d (k + 1) b' (by omega) hB (by omega) (by omega) ?_
      intro b2 g1 g2 g3
      refine hc b2 g1 (by omega) ?_
      rw [h1, Nat.mul_one] at hbit
      rw [hvn] at g3
      rw [hbit, Nat.mul_add, ← Nat.pow_add, hV] at g3
      omega
    · refine Ev.if_f (by rw [mod2]; omega) ?_
      have hp : 2 ^ (w * i + (k + 1)) = 2 ^ (w * i + k) + 2 ^ (w * i + k) := by rw [← Nat.add_assoc, Nat.pow_succ]; omega
      refine ref_pack_inner w l i r hw hi hu hn d (k + 1) b (by omega) hb hlen (by omega) ?_
      intro b2 g1 g2 g3
      refine hc b2 g1 (by omega) ?_
      rw [show v / 2 ^ k % 2 = 0 by omega, Nat.mul_zero, Nat.add_zero] at hbit
      rw [hvn, hbit] at g3
      exact g3

theorem ref_pack_loop (w : Nat) (l : List Int) (hw : w ≤ 64) (hu : U64 l) (hn : l.length * 8 ≤ 140737488351232) :
    ∀ (d i : Nat) (b : List Int), i + d = l.length → B8 b → b.length = (w * l.length + 7) / 8 → Fit w (l.take i) → val b = pval w (l.take i) →
    Ev (fun n => dragnetref03_Pack.l0 n l (w : Int) b (i : Int)) (if Fit w l then (packOf w l, 0) else ([], 7))
  | 0, i, b, hi, hb, hlen, hf, hv => by
    have hil : i = l.length := by omega
    rw [hil, List.take_length] at hf hv
    apply Ev.succ
    simp only [dragnetref03_Pack.l0]
    refine Ev.if_f (by omega) ?_
    rw [if_pos hf, show b = packOf w l from eq_digits hb hlen hv]
    exact Ev.now _
  | d + 1, i, b, hi, hb, hlen, hf, hv => by
    have hil : i < l.length := by omega
    have hx := hu.get i hil
    apply Ev.succ
    simp only [dragnetref03_Pack.l0]
    refine Ev.if_t (by omega) (Ev.if_t (by omega) ?_)
    rw [rd_nat l i hil]
    refine Ev.obind (fits_eq l[i] w hx.1 hx.2) ?_
    by_cases hfit : l[i].toNat < 2 ^ w
    · rw [decide_eq_true hfit]
      refine Ev.if_t rfl ?_
      have hlt : val b < 2 ^ (w * i) := by
        rw [hv]
        have := pval_lt w hf
        rwa [List.length_take, Nat.min_eq_left (by omega)] at this
      refine ref_pack_inner w l i _ hw hil hu hn w 0 b (by omega) hb hlen (by simpa using hlt) ?_
      intro b' g1 g2 g3
      rw [Nat.pow_zero, Nat.mod_one, Nat.mul_zero, Nat.add_zero, Nat.mod_eq_of_lt hfit] at g3
      rw [inc i (by omega)]
      have hf' : Fit w (l.take (i + 1)) := by
        rw [List.take_succ_eq_append_getElem hil]
        intro y hy
        rcases List.mem_append.1 hy with hy | hy
        · exact hf y hy
        · rw [List.mem_singleton] at hy
          subst hy; exact hfit
      exact ref_pack_loop w l hw hu hn d (i + 1) b' (by omega) g1 (by omega) hf' (by rw [g3, hv, pval_take_succ w l i hil])
    · rw [decide_eq_false hfit]
      refine Ev.if_f (by decide) ?_
      rw [if_neg (fun h => hfit (h _ (List.getElem_mem hil)))]
      exact Ev.now _
theorem ref_pack_bad {l : List Int} {w : Int} (hw : w < 0 ∨ 64 < w) : Ev (fun k => dragnetref03_Pack.f k l w) ([], 1) := by
  unfold dragnetref03_Pack.f
  by_cases h : w < 0
  · refine Ev.if_t h ?_
    apply Ev.succ
    simp only [dragnetref03_Pack.j0]
    exact Ev.if_t trivial (Ev.now _)
  · refine Ev.if_f h ?_
    rw [show decide (w > 64) = true from decide_eq_true (by omega)]
    apply Ev.succ
    simp only [dragnetref03_Pack.j0]
    exact Ev.if_t trivial (Ev.now _)
theorem ref_pack {l : List Int} (hu : U64 l) (hn : l.length * 8 ≤ 140737488351232) {w : Nat} (hw : w ≤ 64) : Ev (fun k => dragnetref03_Pack.f k l (w : Int)) (if Fit w l then (packOf w l, 0) else ([], 7)) := by
  have hwl : w * l.length ≤ 64 * l.length := Nat.mul_le_mul_right _ hw
  unfold dragnetref03_Pack.f
  refine Ev.if_f (by omega) ?_
  rw [show decide ((w : Int) > 64) = false from decide_eq_false (by omega)]
  apply Ev.succ
  simp only [dragnetref03_Pack.j0]
  refine Ev.if_f (by decide) (Ev.obind (ref_size l.length w (by rw [Nat.mul_comm]; omega)) ?_)
  rw [Nat.mul_comm l.length w]
  refine Ev.if_t (by omega) (Ev.if_t (by omega) ?_)
  rw [Int.toNat_natCast]
  exact ref_pack_loop w l hw hu hn l.length 0 _ (by omega) (In.replicate _ (by decide) (by decide)) (by simp) (by intro x hx; simp at hx) (by simp [val_replicate, pval])
theorem pack_ev {l : List Int} (hu : U64 l) (hn : l.length * 8 ≤ 140737488351232) {w : Nat} (hw : w ≤ 64) : Ev (fun k => bits_Pack.f k l (w : Int)) (if Fit w l then (packOf w l, 0) else ([], 7)) := by
  by_cases h : Fit w l
  · rw [if_pos h]; exact pack_ok hu hn hw h
  · rw [if_neg h]; exact pack_range hu hn hw h

/-! ### copies and comparisons -/
theorem copy8 (l : List Int) (h : l.length < 140737488355328) : dragnetref01_Copy.f l = some l := by
  unfold dragnetref01_Copy.f
  simp [h]
theorem copy64 (l : List Int) (h : l.length < 17592186044416) : dragnetref03_Copy.f l = some l := by
  unfold dragnetref03_Copy.f
  simp [h]
theorem same8 {a b : List Int} (ha : B8 a) (hb : B8 b) : dragnetref01_Same.f a b = some (decide (a = b)) := by
  unfold dragnetref01_Same.f
  rw [str_eq ha hb]
theorem same64_loop (a b : List Int) (hl : a.length = b.length) (hn : a.length ≤ 9223372036854775800) : ∀ (d i : Nat), i + d = a.length →
    Ev (fun k => dragnetref03_Same.l0 k a b (i : Int)) (decide (a.drop i = b.drop i))
  | 0, i, hi => by
    apply Ev.succ
    simp only [dragnetref03_Same.l0]
    refine Ev.if_f (by omega) ?_
    rw [List.drop_of_length_le (by omega), List.drop_of_length_le (by omega)]
    exact Ev.now _
  | d + 1, i, hi => by
    have h1 : i < a.length := by omega
    have h2 : i < b.length := by omega
    apply Ev.succ
    simp only [dragnetref03_Same.l0]
    refine Ev.if_t (by omega) (Ev.if_t (by omega) (Ev.if_t (by omega) ?_))
    rw [rd_nat a i h1, rd_nat b i h2, inc i (by omega), List.drop_eq_getElem_cons h1, List.drop_eq_getElem_cons h2]
    by_cases e : a[i] = b[i]
    · refine Ev.if_t e ?_
      have := same64_loop a b hl hn d (i + 1) (by omega)
      have he : decide (a[i] :: a.drop (i + 1) = b[i] :: b.drop (i + 1)) = decide (a.drop (i + 1) = b.drop (i + 1)) :=
        decide_eq_decide.2 ⟨fun h => (List.cons.inj h).2, fun h => by rw [e, h]⟩
      rw [he]; exact this
    · refine Ev.if_f e ?_
      rw [decide_eq_false (fun h => e (List.cons.inj h).1)]
      exact Ev.now _
theorem same64 (a b : List Int) (hn : a.length ≤ 9223372036854775800) : Ev (fun k => dragnetref03_Same.f k a b) (decide (a = b)) := by
  unfold dragnetref03_Same.f
  by_cases h : a.length = b.length
  · refine Ev.if_t (by omega) ?_
    have := same64_loop a b h hn a.length 0 (by omega)
    simpa using this
  · refine Ev.if_f (by omega) ?_
    rw [decide_eq_false (fun e => h (by rw [e]))]
    exact Ev.now _
theorem in_packOf (w : Nat) (l : List Int) : B8 (packOf w l) := in_digits _ _
theorem length_packOf (w : Nat) (l : List Int) : (packOf w l).length = (w * l.length + 7) / 8 := length_digits _ _
theorem alive03 : Ev (fun k => dragnetlaw03_alive.f k) true := Ev.of (fun k => dragnetlaw03_alive.mono k) (k := 40) (by decide +kernel)
end Go.Proofs.YtfghhajimiimfaaQ
