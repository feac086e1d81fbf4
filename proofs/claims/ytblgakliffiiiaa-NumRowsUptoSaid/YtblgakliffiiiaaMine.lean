-- This session's own words beside the printer's (a template: Ytblgakliffiiiaa is the seat's name; laid by wip/tools/lay.sh).
import Derived.Laws.Cover1
import Derived.Test.YtblgakliffiiiaaWWords
import Derived.Test.YtblgakliffiiiaaWMore
import Derived.Test.YtblgakliffiiiaaWZeros
import Derived.Test.YtblgakliffiiiaaWKept
import Derived.Lib.Strings
import Derived.Lib.Slices
import Derived.Lib.Small
import Derived.Lib.Walk
import Derived.Lib.BitFns
import Derived.WalkSpells
import Derived.ScopeJumps
import Derived.WalkMore
namespace Go.Proofs.YtblgakliffiiiaaW.PrintWords
open Go.RowKit
namespace Kd
section
variable {P : Program} {ops : Array Oper} {rest : List Oper} {o : Oper} {a : Act} {Q : Exit → Act → World → Prop} {α : Type}
/-- make([]T, n, m): n elements, room for m. -/
theorem R_makecap (d : Kd α) {w0 W : World} (base e : Nat) (hgd : o.guard = none) {N : Tmp} (_hd : o.dst = some N) (t : TypeId) (x y : Operand) (ho : o.op = .makeSlice t x y) (n m : Int) (hx : a.eval x = .int .i64 n) (hy : a.eval y = .int .i64 m)
    (ht : P.underlying t = some (.slice e)) (z : Value) (bytes : Nat) (hinfo : (P.info? e).map (fun i => (i.zero, i.size, i.bytes)) = some (some z, d.sz, bytes)) (hz : z.cells.size = d.sz) (hs0 : 0 < d.sz) (hb0 : 0 < bytes)
    (z0 : α) {ok okp : Nat → Prop} (hzero : d.M W base okp z0 z.cells.toList) (hok : ∀ k, okp k → ok k) (hfresh : ok W.heap.size) (h0 : 0 ≤ n) (hnm : n ≤ m) (hl : m.toNat * bytes ≤ 281474976710656) (HB : Below base w0 W) (hbase : base ≤ W.heap.size)
    (h : ∀ v1 w1, d.R e w1 base ok v1 (List.replicate n.toNat z0) → Below base w0 w1 → W.grownBy w1 none → (∃ b, v1.ownBlock = some b ∧ W.heap.size ≤ b) → wpList P ops Q rest (a.put o.dst v1) w1) : wpList P ops Q (o :: rest) a W := by
  obtain ⟨k, rfl⟩ := Int.eq_ofNat_of_zero_le h0
  obtain ⟨c, rfl⟩ := Int.eq_ofNat_of_zero_le (Int.le_trans h0 hnm)
  have hkc : k ≤ c := by omega
  simp only [Int.toNat_natCast] at hl h
  obtain ⟨i0, hi, hzz⟩ := Option.map_eq_some_iff.1 hinfo
  simp only [Prod.mk.injEq] at hzz
  obtain ⟨hz0, hz1, hz2⟩ := hzz
  have hm : c ≤ 281474976710656 := Nat.le_trans (Nat.le_mul_of_pos_right _ hb0) hl
  have hr := run_make (P := P) W t e i0 z ht hi hz0 .i64 .i64 (k : Int) (c : Int) (by omega) hnm
    (by
      have h3 : ((i0.bytes * c : Nat) : Int) ≤ 281474976710656 := by rw [hz2, Nat.mul_comm]; omega
      rwa [Int.natCast_mul] at h3) (by omega)
  simp only [Int.toNat_natCast] at hr
  rw [hz1] at hr
  have hrun : (execOp a.eval o).run P W = .ok (.value (.slice (some ⟨W.heap.size, 0, none⟩) k c)) (W.alloc (.cells (madeCells z.cells (c * d.sz)) e)) := by
    simp [execOp, ho, hx, hy, hr]
  have hrep := reps_made (R := d.M W base okp) hz hs0 hzero k
  have hmade : ((madeCells z.cells (c * d.sz)).toList.take (k * d.sz)) = (madeCells z.cells (k * d.sz)).toList := by
    apply List.ext_getElem
    · simp only [List.length_take, Array.length_toList, size_madeCells]
      exact Nat.min_eq_left (Nat.mul_le_mul_right _ hkc)
    · intro i h1 h2
      simp [madeCells]
  refine event_run hgd hrun (h _ _ ⟨fun q hk => ?_, (madeCells z.cells (k * d.sz)).toList, ?_, ?_⟩ (HB.alloc hbase _) (World.grownBy_alloc W _ none) ⟨W.heap.size, by simp [Value.ownBlock], Nat.le_refl _⟩)
  · have : W.heap.size = q := by simpa [Value.ownBlock] using hk
    subst this
    exact hfresh
  · refine ⟨by rw [Array.length_toList, size_madeCells, List.length_replicate], .inr ⟨W.heap.size, c, madeCells z.cells (c * d.sz), by rw [List.length_replicate], hbase, by simpa using heap_alloc_new W _, by rw [List.length_replicate]; exact hkc, by simp only [maxLen]; omega, size_madeCells _ _, ?_⟩⟩
    rw [List.length_replicate]
    exact hmade
  · refine hrep.imp_ (fun p c hp => d.M_mono (fun k hk => ⟨hok k hk.1, fun he => ?_⟩) (M_below (d.M_bound hp) (below_alloc (Below.refl _ _) _)))
    have h3 : k = W.heap.size := by simpa [Value.ownBlock] using he
    have := hk.2.2.1
    omega
end
/-- append(s[:cap(s)], make([]T, m)...)[:len(s)]: the row with more room. -/
theorem grow_run {P : Program} {α : Type} {enc : α → Value} {h1 : ∀ x, (enc x).oneCell' = true} {e base : Nat} {W : World} {ok : Nat → Prop} {A : Option Addr} {c : Nat} {xs : List α} (t ti ty : TypeId) (z : Value) (bytes : Nat)
    (ht : P.underlying t = some (.slice e)) {k : IntKind} (hti : P.underlying ti = some (.int k)) (hinfo : (P.info? e).map (fun i => (i.zero, i.size, i.bytes)) = some (some z, 1, bytes)) (hz : z.cells = #[z]) (hz1 : z.oneCell' = true) (hb0 : 0 < bytes)
    (HO : (scalar enc h1).R e W base ok (.slice A xs.length c) xs) (kx : IntKind) (m : Nat) (hl : (c + m) * bytes ≤ 140737488355328) (hbase : base ≤ W.heap.size) :
    ∃ A' c' w1, (Builtin.append_ #[t, ti] ty #[.slice A c c, .int kx (m : Int)]).run P W = .ok (.slice A' (c + m) c') w1 ∧ c + m ≤ c' ∧ (scalar enc h1).R e w1 base (fun k => ok k ∨ W.heap.size ≤ k) (.slice A' xs.length c') xs ∧ W.grownBy w1 (Value.slice A xs.length c).ownBlock := by
  obtain ⟨i0, hi, hzz⟩ := Option.map_eq_some_iff.1 hinfo
  simp only [Prod.mk.injEq] at hzz
  obtain ⟨hz0, hzs, hzb⟩ := hzz
  have hone : ∀ u ∈ (Builtin.zeroCells z.cells m).toList, u.oneCell' = true :=
    reps_one (reps_zeros (R := fun (_ : Unit) cs => cs = [z]) (size := 1) (z0 := ()) (by rw [hz]; rfl) (by omega) (by rw [hz]) m) (by omega) (fun _ _ hp u hu => by subst hp; rw [List.mem_singleton] at hu; rw [hu]; exact hz1)
  have hok := HO.1
  have hown := own_of_R HO
  obtain ⟨cells, hfull, htake⟩ : ∃ cells, W.ownsRow base e 1 (.slice A c c) c cells ∧ (cells.take xs.length = encs enc xs ∧ xs.length ≤ c) := by
    obtain ⟨hlen, h⟩ := hown
    rcases h with ⟨he, h0⟩ | ⟨g, cap, cur, he, hb, hh, hnc, hcm, hcs, ht'⟩
    · injection he with ha hn hc
      subst ha; subst hc
      refine ⟨[], ⟨rfl, .inl ⟨rfl, rfl⟩⟩, ?_, by omega⟩
      have : xs = [] := List.eq_nil_of_length_eq_zero h0
      subst this
      rfl
    · injection he with ha hn hc
      subst ha; subst hc
      rw [Nat.mul_one] at hcs ht'
      exact ⟨cur.toList, ⟨by rw [Array.length_toList, hcs, Nat.mul_one], .inr ⟨g, c, cur, rfl, hb, hh, Nat.le_refl _, hcm, by rw [hcs, Nat.mul_one], by rw [Nat.mul_one, ← hcs, ← Array.length_toList, List.take_length]⟩⟩, ht', hnc⟩
  obtain ⟨v1, w1, hrun, h2, hg, hat⟩ := run_append_zeros (P := P) W base t ti ty e i0 z 1 bytes ht hti hi hz0 hzs hzb (by rw [hz]; rfl) (by omega) hb0 (.slice A c c) c cells hfull kx m hone hl hbase
  obtain ⟨A', c', hv1, hcc⟩ : ∃ A' c', v1 = .slice A' (c + m) c' ∧ c + m ≤ c' := by
    rcases h2.2 with ⟨he, h0⟩ | ⟨g, cap, cur, he, _, _, hnc, _⟩
    · exact ⟨none, 0, by rw [he, h0], by omega⟩
    · exact ⟨_, cap, he, hnc⟩
  subst hv1
  have h3 := own_take (m := xs.length) h2 (by omega)
  have hcl : cells.length = c := by have := hfull.1; omega
  rw [Nat.mul_one, List.take_append_of_le_length (by omega), htake.1] at h3
  have hg' : W.grownBy w1 (Value.slice A xs.length c).ownBlock := by
    have : (Value.slice A xs.length c).ownBlock = (Value.slice A c c).ownBlock := by cases A <;> rfl
    rw [this]; exact hg
  refine ⟨A', c', w1, hrun, hcc, R_of_own h3 (fun q hq => ?_), hg'⟩
  have e1 : (Value.slice A' xs.length c').ownBlock = (Value.slice A' (c + m) c').ownBlock := by cases A' <;> rfl
  have e2 : (Value.slice A xs.length c).ownBlock = (Value.slice A c c).ownBlock := by cases A <;> rfl
  rw [e1] at hq
  rcases hat with hat | hat
  · rw [hat] at hq
    exact .inl (hok q (by rw [e2]; exact hq))
  · rw [hat] at hq
    injection hq with hq
    exact .inr (by omega)
theorem grow_event {P : Program} {ops : Array Oper} {rest : List Oper} {o : Oper} {a : Act} {Q : Exit → Act → World → Prop} {W w1 : World} (hgd : o.guard = none) (s x : Operand) (t ti : TypeId)
    (ho : o.op = .call { callee := .builtin .append, args := #[s, x], argTypes := #[t, ti] }) (vs vx v1 : Value) (hs : a.eval s = vs) (hx : a.eval x = vx)
    (hr1 : (Builtin.append_ #[t, ti] o.type #[vs, vx]).run P W = .ok v1 w1) (h : wpList P ops Q rest (a.put o.dst v1) w1) : wpList P ops Q (o :: rest) a W := by
  refine wpList_plain hgd fun K hK => ?_
  unfold Oper.wp execOp
  simp only [ho, resolve, invoke, builtin, Sem.run_bind, Sem.run_pure, Result.andThen_ok, List.map_toArray, List.map_cons, List.map_nil, hs, hx, hr1]
  exact hK _ _ h
/-- []byte(s): a slice that is read. -/
theorem conv_event {P : Program} {ops : Array Oper} {rest : List Oper} {o : Oper} {a : Act} {Q : Exit → Act → World → Prop} {W : World} (hgd : o.guard = none) {N : Tmp} (_hd : o.dst = some N) (src dst e : TypeId) (x : Operand) {u : TypeDesc}
    (ho : o.op = .convert src dst x) (hs : P.underlying src = some u) (hd : P.underlying dst = some (.slice e)) (he : P.underlying e = some (.int .u8)) (s : ByteArray) (hx : a.eval x = .string s) (xs : List Int) (hxs : xs = bytesOf s) (hm : s.size ≤ 9223372036854775807)
    (h : ∀ (A : Addr) (c : Nat) (w1 : World), xs.length ≤ c → (Kd.int .u8).C w1 (some A) xs.length xs → Below W.heap.size W w1 → wpList P ops Q rest (a.put o.dst (.slice (some A) xs.length c)) w1) : wpList P ops Q (o :: rest) a W := by
  subst hxs
  have hr := print_bytes (P := P) src dst e hs hd he s W
  have hrun : (execOp a.eval o).run P W = .ok (.value (.slice (some ⟨W.heap.size, 0, none⟩) (bytesOf s).length (grownCap W s.size 0 e))) (Lib.bytesWorld W e s) := by
    rw [bytesOf_length]
    simp [execOp, ho, hx, hr]
  have hb := bytes_reads W e s hm
  rw [← bytesOf_length] at hb
  exact event_run hgd hrun (h _ _ _ (by rw [bytesOf_length]; exact grownCap_ge W s.size 0 e) (Kd.C_of_reads (d := (0 : Int)) (h1 := fun _ => rfl) hb) (bytes_below (Below.refl _ _) (Nat.le_refl _) e s))
theorem conv_step {P : Program} {ops : Array Oper} {o : Oper} {a : Act} {Q : Exit → Act → World → Prop} {Kc : Act → World → Prop} {W : World} (hw : Region.wanted o (yielded ops a.tmps) = true) {N : Tmp} (_hd : o.dst = some N) (src dst e : TypeId) (x : Operand) {u : TypeDesc}
    (ho : o.op = .convert src dst x) (hs : P.underlying src = some u) (hd : P.underlying dst = some (.slice e)) (he : P.underlying e = some (.int .u8)) (s : ByteArray) (hx : a.eval x = .string s) (xs : List Int) (hxs : xs = bytesOf s) (hm : s.size ≤ 9223372036854775807)
    (h : ∀ (A : Addr) (c : Nat) (w1 : World), xs.length ≤ c → (Kd.int .u8).C w1 (some A) xs.length xs → Below W.heap.size W w1 → Kc (a.put o.dst (.slice (some A) xs.length c)) w1) : if Region.wanted o (yielded ops a.tmps) = true then Oper.wp P o a W Kc Q else Kc (a.put o.dst undef) W := by
  subst hxs
  have hr := print_bytes (P := P) src dst e hs hd he s W
  have hrun : (execOp a.eval o).run P W = .ok (.value (.slice (some ⟨W.heap.size, 0, none⟩) (bytesOf s).length (grownCap W s.size 0 e))) (Lib.bytesWorld W e s) := by
    rw [bytesOf_length]
    simp [execOp, ho, hx, hr]
  have hb := bytes_reads W e s hm
  rw [← bytesOf_length] at hb
  exact event_step hw hrun (h _ _ _ (by rw [bytesOf_length]; exact grownCap_ge W s.size 0 e) (Kd.C_of_reads (d := (0 : Int)) (h1 := fun _ => rfl) hb) (bytes_below (Below.refl _ _) (Nat.le_refl _) e s))
/-- []byte of what is a []byte already: the block gets the mark of what is made of a constant. -/
theorem freeze_cell (W : World) (a b : Addr) (n : Nat) : (W.freeze a n).cell? b = W.cell? b := by
  unfold World.freeze
  split
  · rfl
  · unfold World.cell?
    simp only [Array.getElem?_modify]
    by_cases h : a.block = b.block
    · simp only [if_pos h]
      rw [← h]
      cases W.heap[a.block]? with
      | none => rfl
      | some o => cases o <;> rfl
    · simp only [if_neg h]
theorem mark_event {P : Program} {ops : Array Oper} {rest : List Oper} {o : Oper} {a : Act} {Q : Exit → Act → World → Prop} {W : World} (hgd : o.guard = none) {N : Tmp} (_hd : o.dst = some N) (t e : TypeId) (x : Operand)
    (ho : o.op = .convert t t x) (ht : P.underlying t = some (.slice e)) (he : P.underlying e = some (.int .u8)) (A : Option Addr) (c : Nat) (xs : List Int) (hx : a.eval x = .slice A xs.length c) (base : Nat) {ok : Nat → Prop} {w0 : World} (h0 : 0 < xs.length)
    (HR : (Kd.int .u8).R e W base ok (.slice A xs.length c) xs) (HB : Below base w0 W)
    (h : ∀ w1, xs.length ≤ c → (Kd.int .u8).C w1 A xs.length xs → Below base w0 w1 → wpList P ops Q rest (a.put o.dst (.slice A xs.length c)) w1) : wpList P ops Q (o :: rest) a W := by
  obtain ⟨g, cap, hv, hb, hg, cells, hc⟩ := Kd.R_form HR h0
  obtain ⟨_, hlc, hC⟩ := Kd.R_reads' HR
  injection hv with h1 h2 h3
  subst h1; subst h3
  have hsh : W.shape? g = some (e, cells.size) := by simp [World.shape?, hc]
  have hrun : (execOp a.eval o).run P W = .ok (.value (.slice (some ⟨g, 0, none⟩) xs.length c)) (W.freeze ⟨g, cells.size, none⟩ 1) := by
    simp [execOp, ho, hx, convert, run_underlying ht, run_underlying he, markStringish, hsh, Result.andThen]
  refine Kd.event_run hgd hrun (h _ hlc ?_ ?_)
  · have hr := Kd.reads_of_C (enc := Value.int .u8) (d := (0 : Int)) (h1 := fun _ => rfl) hC
    refine Kd.C_of_reads (d := (0 : Int)) (h1 := fun _ => rfl) ⟨hr.1, hr.2.1, fun hn => ?_⟩
    obtain ⟨ad, e1, hcell⟩ := hr.2.2 hn
    exact ⟨ad, e1, fun j hj => by rw [freeze_cell]; exact hcell j hj⟩
  · refine HB.trans ⟨?_, ?_, ?_, ?_, fun k hk => ?_⟩ <;> unfold World.freeze <;> simp
    rw [Array.getElem?_modify, if_neg (by omega)]
end Kd
/-! #### the row of []byte(s), written by who made it (it bears a conversion's mark behind its end) -/
def CRow (W : World) (g fr : Nat) (e : TypeId) (xs : List Int) : Prop :=
  ∃ cells, W.heap[g]? = some (.cells cells e (fr, fr + 1)) ∧ xs.length ≤ fr ∧ fr ≤ cells.size ∧ ∀ j, j < xs.length → cells[j]? = some (.int .u8 (xs.getD j 0))
theorem CRow.new (W : World) (e : TypeId) (s : ByteArray) : CRow (Lib.bytesWorld W e s) W.heap.size (Lib.bytesCells W e s).size e (bytesOf s) := by
  have hsz : (bytesOf s).length ≤ (Lib.bytesCells W e s).size := by
    rw [bytesOf_length]
    simp only [Lib.bytesCells, Array.size_append, Array.size_map, Array.size_replicate]
    have : s.data.size = s.size := rfl
    omega
  refine ⟨Lib.bytesCells W e s, Lib.bytesWorld_at_new W e s, hsz, Nat.le_refl _, fun j hj => ?_⟩
  have h := Lib.bytesWorld_cell W e s j (by rw [← bytesOf_length]; exact hj)
  rw [World.cell?, Lib.bytesWorld_at_new] at h
  simp only [Option.isSome_none, Bool.false_eq_true, if_false] at h
  rw [h]
  have h' : j < s.data.toList.length := by rw [data_length, ← bytesOf_length]; exact hj
  simp [bytesOf, List.getD_eq_getElem?_getD, List.getElem?_eq_getElem h']
theorem CRow.cell {W : World} {g fr : Nat} {e : TypeId} {xs : List Int} (h : CRow W g fr e xs) (j : Nat) (hj : j < xs.length) : W.cell? ⟨g, j, none⟩ = some (.int .u8 (xs.getD j 0)) := by
  obtain ⟨cells, hc, _, _, hx⟩ := h
  simp [World.cell?, hc, hx j hj]
theorem CRow.frozen {W : World} {g fr : Nat} {e : TypeId} {xs : List Int} (h : CRow W g fr e xs) (j : Nat) (hj : j < xs.length) : W.frozen? ⟨g, j, none⟩ = false := by
  obtain ⟨cells, hc, hl, _, hx⟩ := h
  simp [World.frozen?, hc]
  omega
theorem CRow.put {W : World} {g fr : Nat} {e : TypeId} {xs : List Int} (h : CRow W g fr e xs) (j : Nat) (v : Int) : CRow (W.setCell ⟨g, j, none⟩ (.int .u8 v)) g fr e (xs.set j v) := by
  obtain ⟨cells, hc, hl, hf, hx⟩ := h
  refine ⟨cells.setIfInBounds j (.int .u8 v), ?_, by rw [List.length_set]; exact hl, by simpa using hf, fun i hi => ?_⟩
  · simp [World.setCell, Array.getElem?_modify, hc]
  · rw [List.length_set] at hi
    by_cases e1 : j = i
    · subst e1
      rw [Array.getElem?_setIfInBounds_self_of_lt (by omega)]
      simp [List.getD_eq_getElem?_getD, List.getElem?_set_self hi]
    · rw [Array.getElem?_setIfInBounds_ne e1, hx i hi]
      simp [List.getD_eq_getElem?_getD, List.getElem?_set_ne e1]
theorem CRow.reads {W : World} {g fr : Nat} {e : TypeId} {xs : List Int} (h : CRow W g fr e xs) (hm : xs.length ≤ 9223372036854775807) : ReadsInt W .u8 (some ⟨g, 0, none⟩) xs.length xs :=
  ⟨rfl, hm, fun _ => ⟨_, rfl, fun j hj => by rw [add_plain]; exact h.cell j hj⟩⟩
theorem CRow.drewN {W : World} {g fr : Nat} {e : TypeId} {xs : List Int} (h : CRow W g fr e xs) (n : Nat) : CRow (W.drewN n) g fr e xs := h
theorem crow_event {P : Program} {ops : Array Oper} {rest : List Oper} {o : Oper} {a : Act} {Q : Exit → Act → World → Prop} {W : World} (hgd : o.guard = none) {N : Tmp} (_hd : o.dst = some N) (src dst e : TypeId) (x : Operand) {u : TypeDesc}
    (ho : o.op = .convert src dst x) (hs : P.underlying src = some u) (hd : P.underlying dst = some (.slice e)) (he : P.underlying e = some (.int .u8)) (s : ByteArray) (hx : a.eval x = .string s)
    (h : ∀ (g fr c : Nat) (w1 : World), W.heap.size ≤ g → s.size ≤ c → CRow w1 g fr e (bytesOf s) → Below W.heap.size W w1 → wpList P ops Q rest (a.put o.dst (.slice (some ⟨g, 0, none⟩) s.size c)) w1) : wpList P ops Q (o :: rest) a W := by
  have hr := print_bytes (P := P) src dst e hs hd he s W
  have hrun : (execOp a.eval o).run P W = .ok (.value (.slice (some ⟨W.heap.size, 0, none⟩) s.size (grownCap W s.size 0 e))) (Lib.bytesWorld W e s) := by
    simp [execOp, ho, hx, hr]
  exact Kd.event_run hgd hrun (h _ _ _ _ (Nat.le_refl _) (grownCap_ge W s.size 0 e) (CRow.new W e s) (bytes_below (Below.refl _ _) (Nat.le_refl _) e s))

/-! #### a mark in the room behind a row -/
def Sp (w : World) (v : Value) (l : List Int) : Prop := ∃ (ad : Addr) (c : Nat), v = .slice (some ad) l.length c ∧ l.length + 1 ≤ c ∧ w.cell? (ad.add l.length) = some (.int .u8 90)
theorem Sp.below {w w2 : World} {v : Value} {l : List Int} (h : Sp w v l) (hb : Below w.heap.size w w2) : Sp w2 v l := by
  obtain ⟨ad, c, h1, h2, h3⟩ := h
  exact ⟨ad, c, h1, h2, (hb.cell (World.block_lt_of_cell? w _ h3)).trans h3⟩
theorem Sp.grown {w w2 : World} {v : Value} {l : List Int} {row : Option Nat} (h : Sp w v l) (hg : w.grownBy w2 row) (hne : v.ownBlock ≠ row) : Sp w2 v l := by
  obtain ⟨ad, c, rfl, h2, h3⟩ := h
  exact ⟨ad, c, rfl, h2, cell_grown hg h3 (by rw [add_block]; exact hne)⟩
theorem Sp.of_row {W : World} {e base : Nat} {ok : Nat → Prop} {A : Option Addr} {n c : Nat} {y l : List Int} (h : Kd.R (Kd.int .u8) e W base ok (.slice A n c) y) (hy : y = l ++ [90]) : Sp W (.slice A l.length c) l := by
  subst hy
  obtain ⟨hn, hc, hC⟩ := Kd.R_reads' h
  rw [List.length_append, List.length_singleton] at hC hn
  obtain ⟨ad, e1, hx⟩ := Kd.at_int hC (l.length : Int) (by omega) (by omega)
  refine ⟨ad, c, by rw [e1], by omega, ?_⟩
  rw [Int.toNat_natCast] at hx
  rw [hx]
  unfold rd
  simp
/-! #### letters made small -/
def lowB (c : Int) : Int := if 65 ≤ c ∧ c ≤ 90 then c + 32 else c
theorem lowB_at (l : List Int) (k : Nat) (hk : k < l.length) : ((l.take k).map lowB ++ l.drop k).set k (lowB (l.getD k 0)) = (l.take (k + 1)).map lowB ++ l.drop (k + 1) := by
  have h1 : ((l.take k).map lowB).length = k := by rw [List.length_map, List.length_take]; omega
  rw [List.set_append_right _ _ (by omega), h1, Nat.sub_self, List.drop_eq_getElem_cons hk, List.set_cons_zero, List.take_succ_eq_append_getElem hk, List.map_append, List.append_assoc]
  simp [List.getD_eq_getElem?_getD, hk]
theorem lowB_rd (l : List Int) (k : Nat) (hk : k < l.length) : ((l.take k).map lowB ++ l.drop k).getD k 0 = l.getD k 0 := by
  have h1 : ((l.take k).map lowB).length = k := by rw [List.length_map, List.length_take]; omega
  rw [List.getD_eq_getElem?_getD, List.getElem?_append_right (by omega), h1, Nat.sub_self, List.drop_eq_getElem_cons hk]
  simp [List.getD_eq_getElem?_getD, hk]
theorem bytesOf_byte (s : ByteArray) (k : Nat) : 0 ≤ (bytesOf s).getD k 0 ∧ (bytesOf s).getD k 0 ≤ 255 := by
  unfold bytesOf
  rw [List.getD_eq_getElem?_getD, List.getElem?_map]
  cases s.data.toList[k]? with
  | none => exact ⟨by decide, by decide⟩
  | some b =>
    have : b.toNat < 256 := b.toNat_lt
    simp only [Option.map_some, Option.getD_some]
    omega
/-! #### a scope with jumps to two labels -/
def Exit.two (l0 l1 : Nat) (J0 J1 : Act → World → Prop) (Q : Exit → Act → World → Prop) : Exit → Act → World → Prop
  | .goto l', a, w => (l' = l0 ∧ J0 a w) ∨ (l' = l1 ∧ J1 a w)
  | e, a, w => Q e a w
theorem Exit.two_mono {l0 l1 : Nat} {J0 J1 J0' J1' : Act → World → Prop} {Q : Exit → Act → World → Prop} (h0 : ∀ a w, J0 a w → J0' a w) (h1 : ∀ a w, J1 a w → J1' a w) : ∀ e a w, Exit.two l0 l1 J0 J1 Q e a w → Exit.two l0 l1 J0' J1' Q e a w := by
  intro e a w h
  cases e with
  | goto l' => exact h.imp (fun x => ⟨x.1, h0 _ _ x.2⟩) (fun x => ⟨x.1, h1 _ _ x.2⟩)
  | normal => exact h
  | exit id => exact h
  | ret => exact h
  | panic ch => exact h
  | outgrown => exact h
theorem wp_scope_two {P : Program} {a : Act} {w : World} {Q : Exit → Act → World → Prop} {c r0 r1 : Code} (l0 l1 : Nat) (J0 J1 : Nat → Act → World → Prop) (hf0 : findLabel c l0 = some (Code.skip.seq r0)) (hf1 : findLabel c l1 = some (Code.skip.seq r1))
    (pass0 : ∀ n a w, J0 n a w → r0.wp P (Exit.two l0 l1 (fun a' w' => ∃ n', n' < n ∧ J0 n' a' w') (fun a' w' => ∃ n', n' < n ∧ J1 n' a' w') Q) a w)
    (pass1 : ∀ n a w, J1 n a w → r1.wp P (Exit.two l0 l1 (fun a' w' => ∃ n', n' < n ∧ J0 n' a' w') (fun a' w' => ∃ n', n' < n ∧ J1 n' a' w') Q) a w)
    (first : (∀ n a w, J0 n a w → r0.wp P (Exit.two l0 l1 (fun a' w' => ∃ n', J0 n' a' w') (fun a' w' => ∃ n', J1 n' a' w') Q) a w) → c.wp P (Exit.two l0 l1 (fun a' w' => ∃ n', J0 n' a' w') (fun a' w' => ∃ n', J1 n' a' w') Q) a w) : (Code.scope c).wp P Q a w := by
  have pass0' := fun n a w h => wp_seq (wp_skip (pass0 n a w h))
  have pass1' := fun n a w h => wp_seq (wp_skip (pass1 n a w h))
  intro b k cs
  have hg0 : gotoIn l0 (.inScope c :: k) = some (.code (Code.skip.seq r0) :: .inScope c :: k) := by simp [gotoIn, hf0]
  have hg1 : gotoIn l1 (.inScope c :: k) = some (.code (Code.skip.seq r1) :: .inScope c :: k) := by simp [gotoIn, hf1]
  have key : ∀ n a w, (J0 n a w → ∃ e a' w', Q e a' w' ∧ Arrives P (lone (b.at a (.code (Code.skip.seq r0) :: .inScope c :: k)) cs w) b k cs e a' w') ∧
      (J1 n a w → ∃ e a' w', Q e a' w' ∧ Arrives P (lone (b.at a (.code (Code.skip.seq r1) :: .inScope c :: k)) cs w) b k cs e a' w') := by
    intro n
    induction n using Nat.strongRecOn with
    | _ n ih =>
      intro a w
      constructor
      · intro hJ
        obtain ⟨e, a₁, w₁, hq, harr⟩ := pass0' n a w hJ b (.inScope c :: k) cs
        cases e with
        | normal => exact ⟨.normal, a₁, w₁, hq, Steps.trans harr (.one step_inScope)⟩
        | exit id => exact ⟨.exit id, a₁, w₁, hq, fun k' hk => harr k' (by simp [exitTo, hk])⟩
        | goto l' =>
          rcases hq with ⟨rfl, n', hlt, hJ'⟩ | ⟨rfl, n', hlt, hJ'⟩
          · obtain ⟨e₂, a₂, w₂, hq₂, harr₂⟩ := (ih n' hlt a₁ w₁).1 hJ'
            exact ⟨e₂, a₂, w₂, hq₂, .of_steps (harr _ hg0) harr₂⟩
          · obtain ⟨e₂, a₂, w₂, hq₂, harr₂⟩ := (ih n' hlt a₁ w₁).2 hJ'
            exact ⟨e₂, a₂, w₂, hq₂, .of_steps (harr _ hg1) harr₂⟩
        | ret => exact ⟨_, a₁, w₁, hq, harr⟩
        | panic ch => exact ⟨_, a₁, w₁, hq, harr⟩
        | outgrown => exact ⟨_, a₁, w₁, hq, harr⟩
      · intro hJ
        obtain ⟨e, a₁, w₁, hq, harr⟩ := pass1' n a w hJ b (.inScope c :: k) cs
        cases e with
        | normal => exact ⟨.normal, a₁, w₁, hq, Steps.trans harr (.one step_inScope)⟩
        | exit id => exact ⟨.exit id, a₁, w₁, hq, fun k' hk => harr k' (by simp [exitTo, hk])⟩
        | goto l' =>
          rcases hq with ⟨rfl, n', hlt, hJ'⟩ | ⟨rfl, n', hlt, hJ'⟩
          · obtain ⟨e₂, a₂, w₂, hq₂, harr₂⟩ := (ih n' hlt a₁ w₁).1 hJ'
            exact ⟨e₂, a₂, w₂, hq₂, .of_steps (harr _ hg0) harr₂⟩
          · obtain ⟨e₂, a₂, w₂, hq₂, harr₂⟩ := (ih n' hlt a₁ w₁).2 hJ'
            exact ⟨e₂, a₂, w₂, hq₂, .of_steps (harr _ hg1) harr₂⟩
        | ret => exact ⟨_, a₁, w₁, hq, harr⟩
        | panic ch => exact ⟨_, a₁, w₁, hq, harr⟩
        | outgrown => exact ⟨_, a₁, w₁, hq, harr⟩
  obtain ⟨e, a₁, w₁, hq, harr⟩ := first (fun n a w hJ => Code.wp_mono (Exit.two_mono (fun a w ⟨n', _, h'⟩ => ⟨n', h'⟩) (fun a w ⟨n', _, h'⟩ => ⟨n', h'⟩)) (pass0 n a w hJ)) b (.inScope c :: k) cs
  cases e with
  | normal => exact ⟨.normal, a₁, w₁, hq, .head step_scope (Steps.trans harr (.one step_inScope))⟩
  | exit id => exact ⟨.exit id, a₁, w₁, hq, fun k' hk => .head step_scope (harr k' (by simp [exitTo, hk]))⟩
  | goto l' =>
    rcases hq with ⟨rfl, n', hJ'⟩ | ⟨rfl, n', hJ'⟩
    · obtain ⟨e₂, a₂, w₂, hq₂, harr₂⟩ := (key n' a₁ w₁).1 hJ'
      exact ⟨e₂, a₂, w₂, hq₂, .of_steps (.head step_scope (harr _ hg0)) harr₂⟩
    · obtain ⟨e₂, a₂, w₂, hq₂, harr₂⟩ := (key n' a₁ w₁).2 hJ'
      exact ⟨e₂, a₂, w₂, hq₂, .of_steps (.head step_scope (harr _ hg1)) harr₂⟩
  | ret => exact ⟨_, a₁, w₁, hq, .of_steps (.one step_scope) harr⟩
  | panic ch => exact ⟨_, a₁, w₁, hq, .of_steps (.one step_scope) harr⟩
  | outgrown => exact ⟨_, a₁, w₁, hq, .of_steps (.one step_scope) harr⟩
end Go.Proofs.YtblgakliffiiiaaW.PrintWords
