/- Words and proofs that UpPostPuts leans on; put together by wip/tools/shake.py. -/
import Derived.Test.YtooeclfeallkkaaZUpPostPuts0
import Derived.Deep.SlicePairs
import Derived.Deep.Slices
import Derived.SizedLaws
section
namespace Go.Proofs.YtooeclfeallkkaaO
open Go.ChangeShapes Go.WideShapes Go.RowKit Go.Proofs.YtooeclfeallkkaaW.PrintWords
section
variable {P : Program} {W : World}
def Opens (P : Program) (W : World) {α : Type} (d : Kd α) (p : α → Prop) (e : TypeId) : Prop :=
 ∀ {H : Type} {enc : TypeId × Value → H} {fuel : Nat} {cs : List Value} {x : DataW H × List MemPlace}, DataW.trod enc P W 0 (fun _ => true) true fuel e cs = some x → ∃ a : α, d.K W a cs ∧ p a
theorem opens_int {k : IntKind} {e : TypeId} (he : P.underlying e = some (.int k)) : Opens P W (Kd.int k) (fun n => (Lit.int k n).wf = true) e := by
 intro H enc fuel cs x h
 obtain ⟨n, rfl, _, hw⟩ := DataW.trod_int he h
 exact ⟨n, rfl, hw⟩
theorem weighs {H : Type} {P : Program} {ts : List TypeId} {ds : List (DataW H)} (h : (DataW.weightsEach P ts ds).all (· ≤ reachBytes) = true) {j : Nat} {t : TypeId} {d : DataW H} (ht : ts[j]? = some t) (hd : ds[j]? = some d) : (DataW.weights P t d).all (· ≤ reachBytes) = true :=
 List.all_eq_true.2 fun n hn => List.all_eq_true.1 h n (DataW.weights_mem_each ht hd n hn)
theorem weights_mem_all {H : Type} {P : Program} {e : TypeId} : ∀ {ds : List (DataW H)} {d : DataW H}, d ∈ ds → ∀ n ∈ d.weights P e, n ∈ DataW.weightsAll P e ds
 | d0 :: ds, d, hd, n, hn => by
  simp only [DataW.weightsAll, List.mem_append]
  rcases List.mem_cons.1 hd with rfl | hd
  ·exact .inl hn
  ·exact .inr (weights_mem_all hd n hn)
 | [], _, hd, _, _ => by cases hd
def OpensZ (P : Program) (W : World) {α : Type} (d : Kd α) (p : α → Prop) (e : TypeId) : Prop :=
 ∀ {H : Type} {enc : TypeId × Value → H} {fuel : Nat} {cs : List Value} {x : DataW H × List MemPlace}, DataW.trod enc P W 0 (fun _ => true) true fuel e cs = some x → (DataW.weights P e x.1).all (· ≤ reachBytes) = true → ∃ a : α, d.K W a cs ∧ p a
theorem Opens.z {α : Type} {d : Kd α} {p : α → Prop} {e : TypeId} (h : Opens P W d p e) : OpensZ P W d p e := fun hx _ => h hx
theorem opensZ_slice {α : Type} {d : Kd α} {p : α → Prop} {t e : TypeId} {B : Nat} (hB : P.bytesOf e = B) (ht : P.underlying t = some (.slice e)) (hc : P.cellsOf e = d.sz) (hd : OpensZ P W d p e) (a0 : Inhabited α) :
    OpensZ P W (Kd.slice e d) (fun l => l.length * B ≤ 140737488351232 ∧ (l.length ≤ maxLen ∧ ∀ x ∈ l, p x)) t := by
  intro H enc fuel cs x h hw
  rcases Go.Deep.open_slice ht h with ⟨rfl, _⟩ | ⟨a, len, cap, m, n, D, Pl, rfl, hb, hl, hm, hmm, hxe, hx⟩
  · exact ⟨[], ⟨none, 0, rfl, Nat.le_refl _, rfl, by simp, fun h => absurd h (by simp)⟩, by simp, by simp, fun _ h => by cases h⟩
  · have hlm : m = cap := by simpa using hmm
    subst hlm
    subst hxe
    have hw0 := List.all_eq_true.1 hw (((List.range len).map D).length * B + ((List.range (m - len)).map fun j => D (len + j)).length * B) (by simp [DataW.weights, ht, hB, Nat.add_mul])
    have hw1 : ∀ i, i < m → (DataW.weights P e (D i)).all (· ≤ reachBytes) = true := fun i hi => List.all_eq_true.2 fun q hq => List.all_eq_true.1 hw q (by
      simp only [DataW.weights, ht, List.mem_cons, List.mem_append]
      right
      by_cases h1 : i < len
      · exact .inl (weights_mem_all (List.mem_map.2 ⟨i, List.mem_range.2 h1, rfl⟩) q hq)
      · exact .inr (weights_mem_all (List.mem_map.2 ⟨i - len, List.mem_range.2 (by omega), by rw [show len + (i - len) = i by omega]⟩) q hq))
    obtain ⟨f, hf⟩ := Go.Deep.choose_lt (n := m) (p := fun i (y : α) => p y ∧ ∃ c, c.length = d.sz ∧ d.K W y c ∧ ∀ j u, c[j]? = some u → W.cell? (a.add (i * d.sz + j)) = some u) fun i hi => by
      obtain ⟨cs', h1, h2⟩ := hx i hi
      obtain ⟨y, hk, hp⟩ := hd h2 (hw1 i hi)
      obtain ⟨_, hlen, hcell⟩ := World.cells?_some h1
      refine ⟨y, hp, cs', by rw [hlen, hc], hk, fun j u hu => ?_⟩
      have hj : j < cs'.length := (List.getElem?_eq_some_iff.1 hu).1
      have := hcell j (by omega)
      rw [Go.Deep.add_add, hc] at this
      rw [this, hu]
    have hlen : ((List.range len).map f).length = len := by simp
    refine ⟨(List.range len).map f, ⟨some a, m, by rw [hlen], by rw [hlen]; exact hl, rfl, by rw [hlen]; unfold maxLen at hm; omega, fun _ => ⟨a, rfl, fun j y hy => ?_⟩⟩, ?_, by rw [hlen]; omega, fun y hy => ?_⟩
    · obtain ⟨hj, rfl⟩ := List.getElem?_eq_some_iff.1 hy
      rw [hlen] at hj
      obtain ⟨_, c, h1, h2, h3⟩ := hf j (by omega)
      refine ⟨c, h1, ?_, h3⟩
      simpa using h2
    · have : reachBytes = 140737488351232 := by decide
      simp [this] at hw0
      rw [hlen]
      omega
    · obtain ⟨i, hi, rfl⟩ := List.mem_map.1 hy
      exact (hf i (by have := List.mem_range.1 hi; omega)).1
theorem opensZ_pair {α β : Type} {d : Kd α} {d' : Kd β} {p : α → Prop} {p' : β → Prop} {e : TypeId} {f0 f1 : Field} (he : P.underlying e = some (.struct #[f0, f1])) (ce : P.cellsOf e = d.sz + d'.sz) (o0 : f0.offset = 0) (o1 : f1.offset = d.sz)
  (c0 : P.cellsOf f0.type = d.sz) (c1 : P.cellsOf f1.type = d'.sz) (h0 : OpensZ P W d p f0.type) (h1 : OpensZ P W d' p' f1.type) : OpensZ P W (Kd.pair d d') (fun x => p x.1 ∧ p' x.2) e := by
 intro H enc fuel cs x h hw
 obtain ⟨xs, n, rfl, hx, hcl, hxl, hf⟩ := DataW.trod_struct he h
 match xs, hxl with
 | [y0, y1], _ =>
  have g0 := hf 0 f0 rfl
  have g1 := hf 1 f1 rfl
  rw [o0, c0, List.drop_zero] at g0
  rw [o1, c1] at g1
  have hw' : (DataW.weightsEach P [f0.type, f1.type] [y0.1, y1.1]).all (· ≤ reachBytes) = true := by rw [hx] at hw; simpa [DataW.weights, he] using hw
  obtain ⟨a, ka, pa⟩ := h0 (show _ = some y0 from g0) (weighs hw' (j := 0) rfl rfl)
  obtain ⟨b, kb, pb⟩ := h1 (show _ = some y1 from g1) (weighs hw' (j := 1) rfl rfl)
  refine ⟨(a, b), ⟨cs.take d.sz, cs.drop d.sz, (List.take_append_drop _ _).symm, ka, ?_⟩, pa, pb⟩
  rwa [List.take_of_length_le (by rw [List.length_drop, hcl, ce]; omega)] at kb
theorem opensZ_iso {α β : Type} {d : Kd α} {p : α → Prop} {e : TypeId} (h : OpensZ P W d p e) (f : β → α) (g : α → β) (hfg : ∀ x, f (g x) = x) : OpensZ P W (Kd.iso d f) (fun x => p (f x)) e := by
 intro H enc fuel cs x hx hw
 obtain ⟨a, ka, pa⟩ := h hx hw
 exact ⟨g a, by show d.K W (f (g a)) cs; rw [hfg]; exact ka, by show p (f (g a)); rw [hfg]; exact pa⟩
end
end Go.Proofs.YtooeclfeallkkaaO
end
