/- Words and proofs that PostTakes leans on; put together by wip/tools/shake.py. -/
import Derived.Test.YtooeclfeallkkaaZPostTakes1
import Derived.Test.YtooeclfeallkkaaZPostTakes5
import Derived.Test.YtooeclfeallkkaaZPostTakes6
section
namespace Go.Proofs.YtooeclfeallkkaaW.PrintWords
open Go.RowKit
theorem bw_ {n:Nat} {w w':World} (h:Below n w w':=by repeat(first|(with_reducible first|exact HB.out|apply pbA_|apply pbN_|apply pb1_)|exact HB.out)):Below n w w':=h
theorem od_ {p:Prop} [Decidable p] (h:decide p=true:=by first|(with_reducible assumption)|assumption):p:=of_decide_eq_true h
theorem rf_ {α:Type} {a b:α} (h:a=b:=by first|rfl|(simp[eWn_,eWs_]<;>rfl)|(simp[*,eWn_,eWs_]<;>rfl)):a=b:=h
theorem ni_ {p:Prop} (h:p:=by first|exact Kd.R_nil _ _ _ _ _|exact Kd.N_nil _ _ _ _ _|exact Kd.V_nil _ _ _ _ _|exact Kd.Q_nil _ _ _ _ _|exact Kd.S_nil _ _ _ _ _):p:=h
theorem bs_ {q:Prop} (h:q:=by repeat(first|(with_reducible first|exact HB.out|apply pbA_|apply pbN_|apply pb1_|refine below_set ?_ (Aside0.out (by assumption)))|exact HB.out)):q:=h
theorem bk_ {p q:Prop} (h:p) (hb:p->q:=by intro h_;(with_reducible repeat(first|refine blk_drewN ?_ _|refine blk_drew ?_|refine blk_alloc ?_ _));exact h_):q:=hb h
theorem am_ {a b:Array Value} (h:a=b:=by(try simp only[List.map_toArray,List.map_cons,List.map_nil]);first|done|rfl|(simp only[List.length_drop,List.length_take];rfl)):a=b:=h
theorem rs_ {α:Type} {a b:α} (h:a=b:=by first|rfl|(simp;done)|(simp[*];done)):a=b:=h
theorem hx_ {α:Type} {a b:α} {p q:Prop} (e:a=b) (H:p) (h:a=b->p->q:=by intro e_ H;first|(rw[e_];with_reducible exact H)|(have H2_:=(Option.bind_some _ _).symm.trans H;rw[e_];with_reducible exact H2_)|(have H2_:=(Option.bind_some _ _).symm.trans H;with_reducible exact H2_)|with_reducible exact H|(rw[e_];exact H)|(have H2_:=(Option.bind_some _ _).symm.trans H;rw[e_];exact H2_)|(have H2_:=(Option.bind_some _ _).symm.trans H;exact H2_)|exact H):q:=h e H
theorem hj_ {α:Type} {a b:α} {p q:Prop} (e:a=b) (H:p) (h:a=b->p->q:=by intro e_ H;first|(rw[e_]at H;exact H)|(simp only[e_]at H ⊢;exact H)):q:=h e H
theorem cx_ {n:Nat} {w w':World} {p:Addr} {v:Value} (h:Below n w w') (hn:n=w.heap.size) (hx:w.cell? p=some v):w'.cell? p=some v:=by
 subst hn
 exact(h.cell (World.block_lt_of_cell? w _ hx)).trans hx
theorem isu72_ {p q:Prop} (h:p) (hb:p->q:=by intro h_;repeat(first|(with_reducible first|exact h_|apply IsS72.alloc|apply IsS72.drew|apply IsS72.drewN|apply IsS72.set_1|apply IsS72.set_2|refine IsS72.far ?_ (Aside0.out (by assumption)) _)|exact h_)):q:=hb h
theorem bs72_ {q:Prop} (h:q:=by repeat(first|(with_reducible first|exact HB.out|apply pbA_|apply pbN_|apply pb1_|refine below_set ?_ (IsS72.ge (Aside0.out (by assumption)))|refine below_set ?_ (Aside0.out (by assumption)))|exact HB.out)):q:=h
namespace Kd
theorem su_ {p q:Prop} (h:p) (hb:p->q:=by intro h_;(with_reducible repeat(first|apply Kd.S_alloc|apply Kd.S_drewN|apply Kd.S_drew));exact h_):q:=hb h
theorem nu_ {p q:Prop} (h:p) (hb:p->q:=by intro h_;(with_reducible repeat(first|apply Kd.N_alloc|apply Kd.N_drewN|apply Kd.N_drew));exact h_):q:=hb h
theorem ru_ {α:Type} {d:Kd α} {e:Nat} {w w1:World} {base:Nat} {ok:Nat->Prop} {v:Value} {xs:List α} (h:d.R e w base ok v xs) (hb:d.R e w base ok v xs->d.R e w1 base ok v xs:=by intro h_;(with_reducible repeat(first|apply Kd.rA_|apply Kd.rN_|apply Kd.rD_));exact h_):d.R e w1 base ok v xs:=hb h
theorem cu_ {α:Type} {d:Kd α} {w w1:World} {A:Option Addr} {n:Nat} {xs:List α} (h:d.C w A n xs) (hb:d.C w A n xs->d.C w1 A n xs:=by intro h_;repeat(first|exact h_|(with_reducible refine Kd.cA_ ?_ _)|(with_reducible refine Kd.cN_ ?_ _)|(with_reducible refine Kd.cD_ ?_))):d.C w1 A n xs:=hb h
end Kd
end Go.Proofs.YtooeclfeallkkaaW.PrintWords
namespace Go.Proofs.YtooeclfeallkkaaW.PrintLast
open Go.Proofs.YtooeclfeallkkaaW.PrintWords (Aside0)
section
variable {P : Program} {ops : Array Oper} {Q : Exit → Act → World → Prop} {md : Region.Mode} {S : World → Prop} {ds : List Nat}
theorem pv_ {i:Nat} {N:Option Tmp} {oi:Oper} {v:Value} {fuel:Nat} {l:Array Bool} {a:Act} {w:World} {T} (HT:Aside0 (rtab md ops=T)) {a':Act} (h:wpAnyLast P md ops Q S ds fuel (l.setIfInBounds i true) a' w)
  (hi:ops[i]? =some oi:=by exact rfl) (hN:oi.dst=N:=by exact rfl) (hc:anyT T l.toList (l.setIfInBounds i true).toList i=true:=by kernel_rfl) (hQ:∀ c a w,Q (.panic c) (a.put oi.dst v) w->Q (.panic c) a w:=by exact fun _ _ _ h=>h)
  (hw:Region.wanted oi (yielded ops a.tmps)=true:=by rfl) (hy:∀ w,(execOp a.eval oi).run P w= .ok (.value v) w:=by intro w';go_simp;with_reducible rfl)
  (ha:a.put N v=a':=by simp only[Act.put,List.setIfInBounds_toArray,List.set_cons_zero,List.set_cons_succ,i64_w,i32_w];rfl):wpAnyLast P md ops Q S ds (fuel+1) l a w:=
 pure_ (l.setIfInBounds i true) hi hN (any_of HT.out hc) hQ (Or.inl ⟨hw,hy⟩) ha h
theorem tv_ {i:Nat} {N:Option Tmp} {oi:Oper} {v:Value} {fuel:Nat} {l:Array Bool} {a:Act} {w:World} {T} {B:List Nat} (HT:Aside0 (rtab md ops=T)) (HW:Aside0 (waitsOk T.2 B=true)) (hS:S w) {a':Act} (h:wpAnyLast P md ops Q S ds fuel (l.setIfInBounds i true) a' w)
  (hi:ops[i]? =some oi:=by exact rfl) (hN:oi.dst=N:=by exact rfl) (hc:takeW T B ds l.toList (l.setIfInBounds i true).toList i=true:=by kernel_rfl) (hQ:∀ c a w,Q (.panic c) (a.put oi.dst v) w->Q (.panic c) a w:=by exact fun _ _ _ h=>h)
  (hw:Region.wanted oi (yielded ops a.tmps)=true:=by rfl) (hy:∀ w,S w->(execOp a.eval oi).run P w= .ok (.value v) w:=by intro w' s0;(try dsimp only at s0);(try(obtain⟨s0,s1⟩:=s0));(try(obtain⟨s1,s2⟩:=s1));(try(obtain⟨s2,s3⟩:=s2));(try(obtain⟨s3,s4⟩:=s3));(try(obtain⟨s4,s5⟩:=s4));go_simp;with_reducible rfl)
  (ha:a.put N v=a':=by simp only[Act.put,List.setIfInBounds_toArray,List.set_cons_zero,List.set_cons_succ,i64_w,i32_w];rfl):wpAnyLast P md ops Q S ds (fuel+1) l a w:=
 take_ (l.setIfInBounds i true) hi hN (take_ofW HT.out HW.out hc) hQ (Or.inl ⟨hw,hy⟩) hS ha h
theorem pw_ {i:Nat} {N:Option Tmp} {oi:Oper} {fuel:Nat} {l:Array Bool} {a:Act} {w:World} {T} (HT:Aside0 (rtab md ops=T)) {a':Act} (h:wpAnyLast P md ops Q S ds fuel (l.setIfInBounds i true) a' w)
  (hi:ops[i]? =some oi:=by exact rfl) (hN:oi.dst=N:=by exact rfl) (hc:anyT T l.toList (l.setIfInBounds i true).toList i=true:=by kernel_rfl) (hQ:∀ c a w,Q (.panic c) (a.put oi.dst undef) w->Q (.panic c) a w:=by exact fun _ _ _ h=>h)
  (hw:Region.wanted oi (yielded ops a.tmps)=false:=by rfl)
  (ha:a.put N undef=a':=by simp only[Act.put,List.setIfInBounds_toArray,List.set_cons_zero,List.set_cons_succ,i64_w,i32_w];rfl):wpAnyLast P md ops Q S ds (fuel+1) l a w:=
 pure_ (l.setIfInBounds i true) hi hN (any_of HT.out hc) hQ (Or.inr ⟨hw,rfl⟩) ha h
end
end Go.Proofs.YtooeclfeallkkaaW.PrintLast
end
