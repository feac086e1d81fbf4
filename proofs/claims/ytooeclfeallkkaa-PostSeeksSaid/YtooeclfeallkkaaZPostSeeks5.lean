/- Words and proofs that PostSeeks leans on; put together by wip/tools/shake.py. -/
import Derived.Test.YtooeclfeallkkaaZPostSeeks0
import Derived.Test.YtooeclfeallkkaaZPostSeeks4
import Derived.Laws.Cover1
import Derived.Lib.BitFns
import Derived.Lib.Slices
import Derived.Lib.Small
import Derived.Lib.Strings
import Derived.Lib.Walk
import Derived.ScopeJumps
import Derived.WalkMore
import Derived.WalkSpells
section
namespace Go.Proofs.YtooeclfeallkkaaW.PrintWords
open Go.RowKit
abbrev tT:Bool:=true
abbrev fF:Bool:=false
namespace Kd
section
variable {P : Program} {ops : Array Oper} {rest : List Oper} {o : Oper} {a : Act} {Q : Exit → Act → World → Prop} {α : Type}
theorem R_makecap (d:Kd α) {w0 W:World} (base e:Nat) (hgd:o.guard=none) {N:Tmp} (_hd:o.dst=some N) (t:TypeId) (x y:Operand) (ho:o.op= .makeSlice t x y) (n m:Int) (hx:a.eval x= .int .i64 n) (hy:a.eval y= .int .i64 m)
    (ht:P.underlying t=some (.slice e)) (z:Value) (bytes:Nat) (hinfo:(P.info? e).map (fun i=>(i.zero,i.size,i.bytes))=some (some z,d.sz,bytes)) (hz:z.cells.size=d.sz) (hs0:0 < d.sz) (hb0:0 < bytes)
    (z0:α) {ok okp:Nat->Prop} (hzero:d.M W base okp z0 z.cells.toList) (hok:∀ k,okp k->ok k) (hfresh:ok W.heap.size) (h0:0<=n) (hnm:n<=m) (hl:m.toNat*bytes<=281474976710656) (HB:Below base w0 W) (hbase:base<=W.heap.size)
    (h:∀ v1 w1,d.R e w1 base ok v1 (List.replicate n.toNat z0)->Below base w0 w1->W.grownBy w1 none->(∃ b,v1.ownBlock=some b∧W.heap.size<=b)->wpList P ops Q rest (a.put o.dst v1) w1):wpList P ops Q (o :: rest) a W:=by
  obtain⟨k,rfl⟩:=Int.eq_ofNat_of_zero_le h0
  obtain⟨c,rfl⟩:=Int.eq_ofNat_of_zero_le (Int.le_trans h0 hnm)
  have hkc:k<=c:=by omega
  simp only[Int.toNat_natCast]at hl h
  obtain⟨i0,hi,hzz⟩:=Option.map_eq_some_iff.1 hinfo
  simp only[Prod.mk.injEq]at hzz
  obtain⟨hz0,hz1,hz2⟩:=hzz
  have hm:c<=281474976710656:=Nat.le_trans (Nat.le_mul_of_pos_right _ hb0) hl
  have hr:=run_make (P:=P) W t e i0 z ht hi hz0 .i64 .i64 (k:Int) (c:Int) (by omega) hnm
    (by
      have h3:((i0.bytes*c:Nat):Int)<=281474976710656:=by rw[hz2,Nat.mul_comm];omega
      rwa [Int.natCast_mul] at h3) (by omega)
  simp only[Int.toNat_natCast]at hr
  rw[hz1]at hr
  have hrun:(execOp a.eval o).run P W= .ok (.value (.slice (some ⟨W.heap.size,0,none⟩) k c)) (W.alloc (.cells (madeCells z.cells (c*d.sz)) e)):=by
    simp[execOp,ho,hx,hy,hr]
  have hrep:=reps_made (R:=d.M W base okp) hz hs0 hzero k
  have hmade:((madeCells z.cells (c*d.sz)).toList.take (k*d.sz))=(madeCells z.cells (k*d.sz)).toList:=by
    apply List.ext_getElem
    . simp only[List.length_take,Array.length_toList,size_madeCells]
      exact Nat.min_eq_left (Nat.mul_le_mul_right _ hkc)
    . intro i h1 h2
      simp[madeCells]
  refine event_run hgd hrun (h _ _ ⟨fun q hk=>?_,(madeCells z.cells (k*d.sz)).toList,?_,?_⟩ (HB.alloc hbase _) (World.grownBy_alloc W _ none) ⟨W.heap.size,by simp[Value.ownBlock],Nat.le_refl _⟩)
  . have:W.heap.size=q:=by simpa[Value.ownBlock]using hk
    subst this
    exact hfresh
  . refine⟨by rw[Array.length_toList,size_madeCells,List.length_replicate],.inr ⟨W.heap.size,c,madeCells z.cells (c*d.sz),by rw[List.length_replicate],hbase,by simpa using heap_alloc_new W _,by rw[List.length_replicate];exact hkc,by simp only[maxLen];omega,size_madeCells _ _,?_⟩⟩
    rw[List.length_replicate]
    exact hmade
  . refine hrep.imp_ (fun p c hp=>d.M_mono (fun k hk=>⟨hok k hk.1,fun he=>?_⟩) (M_below (d.M_bound hp) (pbA_ (Below.refl _ _) _)))
    have h3:k=W.heap.size:=by simpa[Value.ownBlock]using he
    have:=hk.2.2.1
    omega
theorem S_makecap (d:Kd α) {w0 W:World} (base e:Nat) (hgd:o.guard=none) {N:Tmp} (hd:o.dst=some N) (t:TypeId) (x y:Operand) (ho:o.op= .makeSlice t x y) (n m:Int) (hx:a.eval x= .int .i64 n) (hy:a.eval y= .int .i64 m)
  (ht:P.underlying t=some (.slice e)) (z:Value) (bytes:Nat) (hinfo:(P.info? e).map (fun i=>(i.zero,i.size,i.bytes))=some (some z,d.sz,bytes)) (hz:z.cells.size=d.sz) (hs0:0 < d.sz) (hb0:0 < bytes)
  (z0:α) {ok okp:Nat->Prop} (hzero:d.M W base (fun _=>False) z0 z.cells.toList) (_hok:∀ k,okp k->ok k) (hfresh:ok W.heap.size) (h0:0<=n) (hnm:n<=m) (hl:m.toNat*bytes<=281474976710656) (HB:Below base w0 W) (hbase:base<=W.heap.size)
  (h:∀ v1 w1,S d e w1 base ok v1 (List.replicate n.toNat z0)->Below base w0 w1->W.grownBy w1 none->(∃ b,v1.ownBlock=some b∧W.heap.size<=b)->wpList P ops Q rest (a.put o.dst v1) w1):wpList P ops Q (o :: rest) a W:=
 R_makecap (bare d) base e hgd hd t x y ho n m hx hy ht z bytes hinfo hz hs0 hb0 z0 (ok:=ok) (okp:=ok) hzero (fun _ hk=>hk) hfresh h0 hnm hl HB hbase (fun v1 w1 hr=>h v1 w1 (S_bare hr))
end
theorem grow_run {P:Program} {α:Type} {enc:α->Value} {h1:∀ x,(enc x).oneCell'=true} {e base:Nat} {W:World} {ok:Nat->Prop} {A:Option Addr} {c:Nat} {xs:List α} (t ti ty:TypeId) (z:Value) (bytes:Nat)
  (ht:P.underlying t=some (.slice e)) {k:IntKind} (hti:P.underlying ti=some (.int k)) (hinfo:(P.info? e).map (fun i=>(i.zero,i.size,i.bytes))=some (some z,1,bytes)) (hz:z.cells= #[z]) (hz1:z.oneCell'=true) (hb0:0 < bytes)
  (HO:(scalar enc h1).R e W base ok (.slice A xs.length c) xs) (kx:IntKind) (m:Nat) (hl:(c+m)*bytes<=140737488355328) (hbase:base<=W.heap.size):
  ∃ A' c' w1,(Builtin.append_ #[t,ti] ty #[.slice A c c,.int kx (m:Int)]).run P W= .ok (.slice A' (c+m) c') w1∧c+m<=c'∧(scalar enc h1).R e w1 base (fun k=>ok k∨W.heap.size<=k) (.slice A' xs.length c') xs∧W.grownBy w1 (Value.slice A xs.length c).ownBlock:=by
 obtain⟨i0,hi,hzz⟩:=Option.map_eq_some_iff.1 hinfo
 simp only[Prod.mk.injEq]at hzz
 obtain⟨hz0,hzs,hzb⟩:=hzz
 have hone:∀ u∈(Builtin.zeroCells z.cells m).toList,u.oneCell'=true:=
  reps_one (reps_zeros (R:=fun (_:Unit) cs=>cs=[z]) (size:=1) (z0:=()) (by rw[hz];rfl) (by omega) (by rw[hz]) m) (by omega) (fun _ _ hp u hu=>by subst hp;rw[List.mem_singleton]at hu;rw[hu];exact hz1)
 have hok:=HO.1
 have hown:=own_of_R HO
 obtain⟨cells,hfull,htake⟩:∃ cells,W.ownsRow base e 1 (.slice A c c) c cells∧(cells.take xs.length=encs enc xs∧xs.length<=c):=by
  obtain⟨hlen,h⟩:=hown
  rcases h with ⟨he,h0⟩|⟨g,cap,cur,he,hb,hh,hnc,hcm,hcs,ht'⟩
  .injection he with ha hn hc
   subst ha;subst hc
   refine⟨[],⟨rfl,.inl ⟨rfl,rfl⟩⟩,?_,by omega⟩
   have:xs=[]:=List.eq_nil_of_length_eq_zero h0
   subst this
   rfl
  .injection he with ha hn hc
   subst ha;subst hc
   rw[Nat.mul_one]at hcs ht'
   exact⟨cur.toList,⟨by rw[Array.length_toList,hcs,Nat.mul_one],.inr ⟨g,c,cur,rfl,hb,hh,Nat.le_refl _,hcm,by rw[hcs,Nat.mul_one],by rw[Nat.mul_one,<- hcs,<- Array.length_toList,List.take_length]⟩⟩,ht',hnc⟩
 obtain⟨v1,w1,hrun,h2,hg,hat⟩:=run_append_zeros (P:=P) W base t ti ty e i0 z 1 bytes ht hti hi hz0 hzs hzb (by rw[hz];rfl) (by omega) hb0 (.slice A c c) c cells hfull kx m hone hl hbase
 obtain⟨A',c',hv1,hcc⟩:∃ A' c',v1= .slice A' (c+m) c'∧c+m<=c':=by
  rcases h2.2 with ⟨he,h0⟩|⟨g,cap,cur,he,_,_,hnc,_⟩
  .exact⟨none,0,by rw[he,h0],by omega⟩
  .exact⟨_,cap,he,hnc⟩
 subst hv1
 have h3:=own_take (m:=xs.length) h2 (by omega)
 have hcl:cells.length=c:=by have:=hfull.1;omega
 rw[Nat.mul_one,List.take_append_of_le_length (by omega),htake.1]at h3
 have hg':W.grownBy w1 (Value.slice A xs.length c).ownBlock:=by
  have:(Value.slice A xs.length c).ownBlock=(Value.slice A c c).ownBlock:=by cases A<;>rfl
  rw[this];exact hg
 refine⟨A',c',w1,hrun,hcc,R_of_own h3 (fun q hq=>?_),hg'⟩
 have e1:(Value.slice A' xs.length c').ownBlock=(Value.slice A' (c+m) c').ownBlock:=by cases A'<;>rfl
 have e2:(Value.slice A xs.length c).ownBlock=(Value.slice A c c).ownBlock:=by cases A<;>rfl
 rw[e1]at hq
 rcases hat with hat|hat
 .rw[hat]at hq
  exact .inl (hok q (by rw[e2];exact hq))
 .rw[hat]at hq
  injection hq with hq
  exact .inr (by omega)
theorem grow_event {P:Program} {ops:Array Oper} {rest:List Oper} {o:Oper} {a:Act} {Q:Exit->Act->World->Prop} {W w1:World} (hgd:o.guard=none) (s x:Operand) (t ti:TypeId)
  (ho:o.op= .call {callee:= .builtin .append,args:= #[s,x],argTypes:= #[t,ti]}) (vs vx v1:Value) (hs:a.eval s=vs) (hx:a.eval x=vx)
  (hr1:(Builtin.append_ #[t,ti] o.type #[vs,vx]).run P W= .ok v1 w1) (h:wpList P ops Q rest (a.put o.dst v1) w1):wpList P ops Q (o :: rest) a W:=by
 refine wpList_plain hgd fun K hK=>?_
 unfold Oper.wp execOp
 simp only[ho,resolve,invoke,builtin,Sem.run_bind,Sem.run_pure,Result.andThen_ok,List.map_toArray,List.map_cons,List.map_nil,hs,hx,hr1]
 exact hK _ _ h
end Kd
def Sp (w:World) (v:Value) (l:List Int):Prop:=∃ (ad:Addr) (c:Nat),v= .slice (some ad) l.length c∧l.length+1<=c∧w.cell? (ad.add l.length)=some (.int .u8 90)
theorem Sp.below {w w2:World} {v:Value} {l:List Int} (h:Sp w v l) (hb:Below w.heap.size w w2):Sp w2 v l:=by
 obtain⟨ad,c,h1,h2,h3⟩:=h
 exact⟨ad,c,h1,h2,(hb.cell (World.block_lt_of_cell? w _ h3)).trans h3⟩
theorem Sp.grown {w w2:World} {v:Value} {l:List Int} {row:Option Nat} (h:Sp w v l) (hg:w.grownBy w2 row) (hne:v.ownBlock≠row):Sp w2 v l:=by
 obtain⟨ad,c,rfl,h2,h3⟩:=h
 exact⟨ad,c,rfl,h2,cell_grown hg h3 (by rw[add_block];exact hne)⟩
end Go.Proofs.YtooeclfeallkkaaW.PrintWords
end
