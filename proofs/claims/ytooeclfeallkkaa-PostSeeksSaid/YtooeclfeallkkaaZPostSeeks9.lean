/- Words and proofs that PostSeeks leans on; put together by wip/tools/shake.py. -/
import Derived.Test.YtooeclfeallkkaaZPostSeeks1
import Derived.Test.YtooeclfeallkkaaZPostSeeks5
import Derived.OrdersIn
import Derived.RangeFuncBound
import Derived.RangeFuncBox
import Derived.RangeFuncCalls
import Derived.RangeFuncFrom
import Derived.RangeFuncLeaves
import Derived.RangeFuncNested
section
namespace Go.Proofs.YtooeclfeallkkaaW.PrintWords
open Go.RowKit Go.Proofs.YtooeclfeallkkaaW.PrintLast
section
variable {F : Fence} {n : Nat} {P : Program}
def SeqTold {α:Type} (F:Fence) (n:Nat) (P:Program) (g:Nat) (lb:Array Value) (encs:α->Array Value) (Nx:List α->α->World->Prop) (Kp:World->World->Prop) (S Sp:List α->Prop) (w:World):Prop:=
 ∀ (l:Nat) (J Jx:List α->World->Prop) (W:World),Below w.heap.size w W->AbidesFrom W.heap.size J->AbidesFrom W.heap.size Jx->
  (∀ pre x W1, J pre W1 -> Nx pre x W1 -> YieldAt F (n - 1) P l (encs x) W1 fun e W' =>
   (e = .returned (.bool true) ∧ J (pre ++ [x]) W' ∧ Kp W1 W') ∨ (e = .returned (.bool false) ∧ Jx (pre ++ [x]) W')) ->
  J [] W->
  CallsIn F n P g (#[.func (.yield l) #[] #[]]++lb) W fun e W'=>(∃ v,e= .returned v)∧((∃ xs,S xs∧J xs W')∨(∃ pre,Sp pre∧Jx pre W'))
theorem wpIn_rangeFunc_told {α β:Type} {g:Operand} {ps:Array Tmp} {assign body:Code} {Q:Exit->Act->World->Prop} {a:Act} {w:World}
  (hro:F.round=none) (h1:1<=n) {gf:Nat} {lb:Array Value} (hg:a.eval g= .func (.func gf) #[] lb) (hFg:F.fn gf) (eg:∀ args w,(callFunc gf args).run P w= .ok (.enter gf args) w)
  {encs:α->Array Value} {Nx:List α->α->World->Prop} {Kp:World->World->Prop} {S Sp:List α->Prop} {w0:World} (hseq:SeqTold F (n - 1) P gf lb encs Nx Kp S Sp w0)
  (hKt:∀ {A B C:World},Kp A B->Kp B C->Kp A C) (hKb:∀ (W:World) (l:Nat) (o o':Obj),w.heap.size<=l->W.heap[l]? =some o->o.isCells=false->o.isWalk=false->Kp W (W.putObj l o')) (hb0:Below w0.heap.size w0 w) (hps:∀ x,(encs x).size=ps.size)
  (I:List α->World->Prop) (Ix:Code->List α->World->Prop) (hI:OwnFrom w.heap.size I) (hIx:∀ c,OwnFrom w.heap.size (Ix c)) (h0:I [] w) (a₁:α->β->Act->Prop) (Ax:List α->α->β->World->Prop) (hAx:∀ pre x,OwnFrom w.heap.size (Ax pre x))
  (hassign : ∀ (l : Nat) (pre : List α) (x : α) (W : World) (K : Act -> World -> Prop), I pre W -> Nx pre x W -> (∀ b a' W', a₁ x b a' -> KeepsOthers W W' -> Kp W W' -> I pre W' -> Ax pre x b W' -> K a' W') ->
   assign.wpIn (F.inRound l) (n - 1 - 1) P (Exit.then K (fun _ _ _ => False)) { tmps := (ps.zip (encs x)).foldl (fun t (p, v) => t.setIfInBounds p v) a.tmps, defers := [] } W)
  (hbody:∀ (l:Nat) (pre:List α) (x:α) (b:β) (a':Act) (W:World),a₁ x b a'->I pre W->Ax pre x b W->body.wpIn (F.inRound l) (n - 1 - 1) P (ownPostK Kp I Ix (pre++[x]) W) a' W)
  (hdone:∀ (D:Nat) (xs:List α) (W:World),w.heap.size<=D->S xs->I xs W->W.heap[D]? =some (.deferred (some []))->Q .normal {a with defers:={target:= .collected D,args:= #[]} :: a.defers} W)
  (hstop:∀ (D:Nat) (c:Code) (pre:List α) (W:World),w.heap.size<=D->Sp pre->Ix c pre W->W.heap[D]? =some (.deferred (some []))->c.wpIn F n P Q {a with defers:={target:= .collected D,args:= #[]} :: a.defers} W):
  (Code.rangeFunc g ps assign body).wpIn F n P Q a w:=by
 refine wpIn_rangeFunc fun fn hfn=>?_
 rw[hro]
 obtain⟨mk,hmk⟩:∃ mk:LoopState->Option Code->Loop,mk=fun s p=>{state:=s,pending:=p,fn,tmps:=a.tmps,params:=ps,assign,body,defers:=w.heap.size}:=⟨_,rfl⟩
 obtain⟨K,hK⟩:∃ K:Nat,K=w.heap.size:=⟨_,rfl⟩
 obtain⟨V,hV⟩:∃ V,(w.alloc (.deferred (some []))).alloc (.loop (mk .ready none))=V:=⟨_,rfl⟩
 have hVs:V.heap.size=K+2:=by rw[<- hV,hK];simp
 have hR:V.heap[K+1]? =some (.loop (mk .ready none)):=by
  have h_:=World.alloc_heap_new (w.alloc (.deferred (some []))) (.loop (mk .ready none))
  rw[World.size_alloc]at h_
  rw[<- hV,hK]
  exact h_
 have hD:V.heap[K]? =some (.deferred (some [])):=by
  rw[<- hV,hK]
  exact(Below.heap_alloc _ _ _ (by simp)).trans (World.alloc_heap_new w _)
 have hIV:I [] V:=by rw[<- hV];exact hI.alloc _ (hI.alloc _ h0)
 have hBV:Below w0.heap.size w0 V:=by
  rw[<- hV]
  exact(hb0.alloc hb0.size _).alloc (by simp;exact Nat.le_succ_of_le hb0.size) _
 refine⟨K+1,[{target:= .collected K,args:= #[]}],V,{target:= .fn (.func gf) lb,args:= #[.func (.yield (K+1)) #[] #[]]},V,gf,#[.func (.yield (K+1)) #[] #[]]++lb,V,?_,?_,?_,?_,fun _=>h1,?_⟩
 .rw[<- hV,hmk,hK];exact run_enterLoop_outer _ _ _ _ _
 .simp only[resolve,hg];simp[go_sem]
 .intro f' e;simp[Target.leads]at e;subst e;exact hFg
 .simp[invoke,go_sem,eg]
 obtain⟨Bk,hBk⟩:∃ Bk:LoopState->Option Code->World->Prop,Bk=fun s p W=>W.heap[K+1]? =some (.loop (mk s p))∧W.heap[K]? =some (.deferred (some [])):=⟨_,rfl⟩
 have bk_grown:∀ {s p} {A B:World} {row:Option Nat},A.grownBy B row->(∀ r,row=some r->V.heap.size<=r∧∃ o:Obj,A.heap[r]? =some o∧o.isWalk=true)->Bk s p A->Bk s p B:=by
  intro s p A B row hg' hr hb
  rw[hBk]at hb ⊢
  exact⟨(grownBy_keeps hg' (fun r e=>(hr r e).2) hb.1 rfl).trans hb.1,(grownBy_keeps hg' (fun r e=>(hr r e).2) hb.2 rfl).trans hb.2⟩
 have walks:∀ {A:World} {row:Option Nat},(∀ r,row=some r->V.heap.size<=r∧∃ o:Obj,A.heap[r]? =some o∧o.isWalk=true)->∀ r,row=some r->w.heap.size<=r∧∃ o:Obj,A.heap[r]? =some o∧o.isCells=false:=by
  intro A row hr r e
  obtain⟨h2,o,ho,hw⟩:=hr r e
  exact⟨by omega,o,ho,Obj.not_cells_of_walk hw⟩
 have bk_put:∀ {s p s' p'} {A:World},Bk s p A->Bk s' p' (A.putObj (K+1) (.loop (mk s' p'))):=by
  intro s p s' p' A hb
  rw[hBk]at hb ⊢
  exact⟨World.putObj_heap_same (Array.getElem?_eq_some_iff.1 hb.1).1,(World.putObj_heap_other (by omega)).trans hb.2⟩
 have bk_same:∀ {s p} {A B:World},KeepsOthers A B->Bk s p A->Bk s p B:=by
  intro s p A B hk hb
  rw[hBk]at hb ⊢
  exact⟨hk.same _ _ hb.1 rfl,hk.same _ _ hb.2 rfl⟩
 have hBV0:Bk .ready none V:=by rw[hBk];exact⟨hR,hD⟩
 refine (hseq (K + 1) (fun pre W => I pre W ∧ Bk .ready none W) (fun pre W => ∃ c, Ix c pre W ∧ Bk .done (some c) W) V hBV
  (fun s A B row hs hg' hr=>⟨hI s A B row hs.1 hg' (walks hr),bk_grown hg' hr hs.2⟩)
  (fun s A B row hs hg' hr => hs.elim fun c hc => ⟨c, hIx c s A B row hc.1 hg' (walks hr), bk_grown hg' hr hc.2⟩) ?_ ⟨hIV, hBV0⟩).mono ?_
 .rintro pre x W ⟨hi,hb⟩ hn
  have hl:W.heap[K+1]? =some (.loop (mk .ready none)):=by rw[hBk]at hb;exact hb.1
  have hy:=run_yield (P:=P) (args:=encs x) hl (by rw[hmk];exact hps x)
  rw[hmk]at hy
  refine⟨fn,_,assign,body,hy,roundIn_of_wpIn hfn (hassign _ pre x W _ hi hn fun b a' W' ha' hko hkp hi' hax=>?_)⟩
  have hb':=bk_same hko hb
  have hl':W'.heap[K+1]? =some (.loop (mk .ready none)):=by rw[hBk]at hb';exact hb'.1
  have hbeg:=run_beginRound (P:=P) hl' (by rw[hmk])
  have hb2:Bk .busy none (W'.putObj (K+1) (.loop (mk .busy none))):=bk_put hb'
  have hbs:{mk .ready none with state:= .busy}=mk .busy none:=by rw[hmk]
  rw[hbs]at hbeg
  refine⟨_,hbeg,wpIn_mono (hbody (K+1) pre x b a' _ ha' (hI.putObj _ hi' (by omega) hl' rfl) ((hAx pre x).putObj _ hax (by omega) hl' rfl)) ?_⟩
  have hkb:Kp W (W'.putObj (K+1) (.loop (mk .busy none))):=hKt hkp (hKb _ _ _ _ (by omega) hl' rfl rfl)
  have fin:∀ (jump:Option Code) (W3:World),KeepsOthers (W'.putObj (K+1) (.loop (mk .busy none))) W3->∃ o,W3.heap[K+1]? =some o∧o.isCells=false∧o.isWalk=false∧
    (Instr.endRound (K+1) jump).run P W3= .ok (.bool jump.isNone) (W3.putObj (K+1) (.loop (mk (if jump.isNone then .ready else .done) jump)))∧Bk (if jump.isNone then .ready else .done) jump (W3.putObj (K+1) (.loop (mk (if jump.isNone then .ready else .done) jump))):=by
   intro jump W3 h3
   have b3:=bk_same h3 hb2
   have l3:W3.heap[K+1]? =some (.loop (mk .busy none)):=by rw[hBk]at b3;exact b3.1
   have e3:=run_endRound (P:=P) jump l3
   rw[hmk]at e3
   refine⟨_,l3,rfl,rfl,?_,bk_put b3⟩
   rw[hmk]
   exact e3
  rintro e a3 W3 hp
  cases e with
  |normal=>
   obtain⟨o,ho,c1,c2,e3,b3⟩:=fin none W3 hp.1
   exact⟨_,_,e3,.inl ⟨rfl,⟨hI.putObj _ hp.2.2 (by omega) ho c1,b3⟩,hKt (hKt hkb hp.2.1) (hKb _ _ _ _ (by omega) ho c1 c2)⟩⟩
  |ret=>
   obtain⟨o,ho,c1,c2,e3,b3⟩:=fin (some .ret) W3 hp.1
   exact⟨_,_,e3,.inr ⟨rfl,_,(hIx _).putObj _ hp.2 (by omega) ho c1,b3⟩⟩
  |exit id=>
   obtain⟨o,ho,c1,c2,e3,b3⟩:=fin (some (.exit id)) W3 hp.1
   exact⟨_,_,e3,.inr ⟨rfl,_,(hIx _).putObj _ hp.2 (by omega) ho c1,b3⟩⟩
  |goto t=>
   obtain⟨o,ho,c1,c2,e3,b3⟩:=fin (some (.goto t)) W3 hp.1
   exact⟨_,_,e3,.inr ⟨rfl,_,(hIx _).putObj _ hp.2 (by omega) ho c1,b3⟩⟩
  |panic ch=>exact hp.elim
  |outgrown=>exact hp.elim
 .have ends:∀ {s p} {W:World},s≠ .busy->Bk s p W->∃ o,W.heap[K+1]? =some o∧o.isCells=false∧∃ W4,(Instr.endLoop (K+1)).run P W= .ok p W4∧(∃ o',W4=W.putObj (K+1) o')∧W4.heap[K]? =some (.deferred (some [])):=by
   intro s p W hs hb
   have hb':=hb
   rw[hBk]at hb'
   have e4:=run_endLoop (P:=P) hb'.1 (by rw[hmk];exact hs)
   rw[hmk]at e4
   exact⟨_,hb'.1,rfl,_,e4,⟨_,rfl⟩,(World.putObj_heap_other (by omega)).trans hb'.2⟩
  rintro e W2 ⟨⟨v,rfl⟩,(⟨xs,hS,hi,hb⟩|⟨pre,hSp,c,hi,hb⟩)⟩
  .obtain⟨o,ho,c1,W4,e4,⟨o',rfl⟩,d4⟩:=ends (by decide) hb
   rw[hK]at d4 ⊢
   exact⟨none,_,by rw[hK]at e4;exact e4,hdone _ xs _ (Nat.le_refl _) hS (hI.putObj _ hi (by omega) (by rw[<- hK];exact ho) c1) d4⟩
  .obtain⟨o,ho,c1,W4,e4,⟨o',rfl⟩,d4⟩:=ends (by decide) hb
   rw[hK]at d4 ⊢
   exact⟨some c,_,by rw[hK]at e4;exact e4,hstop _ c pre _ (Nat.le_refl _) hSp ((hIx c).putObj _ hi (by omega) (by rw[<- hK];exact ho) c1) d4⟩
end
end Go.Proofs.YtooeclfeallkkaaW.PrintWords
end
