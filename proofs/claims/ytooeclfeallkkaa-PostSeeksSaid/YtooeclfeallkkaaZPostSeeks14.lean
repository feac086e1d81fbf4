/- Words and proofs that PostSeeks leans on; put together by wip/tools/shake.py. -/
import Derived.Test.YtooeclfeallkkaaZPostSeeks7
import Derived.Test.YtooeclfeallkkaaZPostSeeks13
section
namespace Go.Proofs.Ytooeclfeallkkaa.P
open Go.RowKit Go.Proofs.YtooeclfeallkkaaW.PrintWords Go.Proofs.YtooeclfeallkkaaW.PrintLast Go.Proofs.YtooeclfeallkkaaW.PrintMore
attribute [local go_sem] max2_int min2_int max_two min_two max_three min_three max_four min_four
set_option linter.unusedVariables false
set_option linter.unusedSimpArgs false
section
attribute [local go_sem] Oper.semAt_some
set_option maxHeartbeats 1000000 in
theorem qchunk_in (n:Nat) (A:Option Addr) (len cap:Nat) (w:World):
  CallsIn Fence.wide n Try.prog 25 #[.slice A len cap,.int .i64 32] w fun e w'=>e= .returned (.func (.func 45) #[] #[.pointer (some ⟨w.heap.size,0,none⟩),.pointer (some ⟨w.heap.size+1,0,none⟩)])∧w'=(w.alloc (.cells #[.slice A len cap] 23)).alloc (.cells #[.int .i64 32] 3):=by
 refine callsIn_of_wp Try.func25 rfl trivial ?_ rfl
 simp only[Try.ntmps25,List.size_toArray,List.length_cons,List.length_nil,Nat.reduceAdd,Nat.reduceSub,Array.replicate_succ,Array.replicate_zero,List.push_toArray,List.append_toArray,List.nil_append,List.cons_append]
 gi_wp2
 go_ret
 exact⟨rfl,rfl⟩
abbrev QChunkNo (len:Nat):={j:Nat // 32*j < len}
theorem qchunk_cut (a:Addr) (len cap s m:Nat) (hm:0 < m) (hj:s+m<=len) (hc:len<=cap) (W:World):
  (Instr.slice 23 (.slice (some a) len cap) (some (.int .i64 (s:Int))) (some (.int .i64 ((s:Int)+(m:Int)))) (some (.int .i64 ((s:Int)+(m:Int))))).run Try.prog W= .ok (.slice (some (a.add (s*2))) m m) W:=by
 obtain⟨i0,hi0,_,hsz,_⟩:=info_parts info37
 have hel:Try.prog.elem 23=37:=by simp[Program.elem,Try.underlying23]
 have hu:Try.prog.underlying 23=some (.slice (Try.prog.elem 23)):=by rw[hel];exact Try.underlying23
 rw[run_slice_lhm W 23 (some a) len cap hu .i64 .i64 .i64 _ _ _ (by omega) (by omega) (by omega) (by omega),hel,<- Int.natCast_add,Int.toNat_natCast,Int.toNat_natCast]
 simp[sizeOf,typeInfo,hi0,hsz,sliced,Result.andThen]
 omega
theorem qchunk_tail (a:Addr) (len cap s:Nat) (hj:s < len) (hc:len<=cap) (W:World):
  (Instr.slice 23 (.slice (some a) len cap) (some (.int .i64 (s:Int))) none none).run Try.prog W= .ok (.slice (some (a.add (s*2))) (len - s) (cap - s)) W:=by
 obtain⟨i0,hi0,_,hsz,_⟩:=info_parts info37
 have hel:Try.prog.elem 23=37:=by simp[Program.elem,Try.underlying23]
 have hu:Try.prog.underlying 23=some (.slice (Try.prog.elem 23)):=by rw[hel];exact Try.underlying23
 rw[run_slice_l W 23 (some a) len cap hu .i64 _ (by omega) (by omega),hel,Int.toNat_natCast]
 simp[sizeOf,typeInfo,hi0,hsz,sliced,Result.andThen]
 omega
theorem qgrown_drewN (W:World) (n:Nat):W.grownBy (W.drewN n) none:=⟨rfl,rfl,rfl,Nat.le_refl _,fun k _ _=>rfl⟩
def QKpC (n₀ Bs Bn:Nat) (W W':World):Prop:=Below n₀ W W'∧W'.heap[Bs]? =W.heap[Bs]? ∧W'.heap[Bn]? =W.heap[Bn]?
theorem QKpC.trans {n₀ Bs Bn:Nat} {A B C:World} (h:QKpC n₀ Bs Bn A B) (k:QKpC n₀ Bs Bn B C):QKpC n₀ Bs Bn A C:=⟨h.1.trans k.1,k.2.1.trans h.2.1,k.2.2.trans h.2.2⟩
theorem QKpC.refl (n₀ Bs Bn:Nat) (W:World):QKpC n₀ Bs Bn W W:=⟨Below.refl _ _,rfl,rfl⟩
theorem QKpC.drewN {n₀ Bs Bn:Nat} {A B:World} (h:QKpC n₀ Bs Bn A B) (n:Nat):QKpC n₀ Bs Bn A (B.drewN n):=⟨pbN_ h.1 n,h.2.1,h.2.2⟩
theorem QKpC.cell1 {n₀ Bs Bn:Nat} {A B:World} (h:QKpC n₀ Bs Bn A B) {v:Value} (hc:A.cell? ⟨Bs,0,none⟩=some v):B.cell? ⟨Bs,0,none⟩=some v:=by
 unfold World.cell? at hc ⊢
 simp only[h.2.1]
 exact hc
theorem QKpC.cell2 {n₀ Bs Bn:Nat} {A B:World} (h:QKpC n₀ Bs Bn A B) {v:Value} (hc:A.cell? ⟨Bn,0,none⟩=some v):B.cell? ⟨Bn,0,none⟩=some v:=by
 unfold World.cell? at hc ⊢
 simp only[h.2.2]
 exact hc
theorem qkpC_b {n₀ Bs Bn:Nat} {w:World} (hn:n₀<=w.heap.size) (h1:Bs < w.heap.size) (h2:Bn < w.heap.size) (W:World) (l:Nat) (o o':Obj) (hl:w.heap.size<=l) (h:W.heap[l]? =some o) (hc:o.isCells=false) (hw:o.isWalk=false):QKpC n₀ Bs Bn W (W.putObj l o'):=
 ⟨belowK_b hn W l o o' hl h hc hw,World.putObj_heap_other (by omega),World.putObj_heap_other (by omega)⟩
def qencChunk (a:Option Addr) (len:Nat) (x:QChunkNo len):Array Value:= #[.slice (a.map (·.add (32*x.1*2))) (min 32 (len - 32*x.1)) (min 32 (len - 32*x.1))]
set_option maxRecDepth 100000 in
set_option maxHeartbeats 2000000 in
theorem qchunk1_in (l Bs Bn n₀:Nat) (a:Addr) (len cap:Nat) (hc:len<=cap) (hreach:len<=140737488351200) (J Jx:List (QChunkNo len)->World->Prop)
  (hY : ∀ pre x W, J pre W -> pre.length < len -> YieldAt Fence.wide 7 Try.prog l (qencChunk (some a) len x) W fun e W' =>
   (e = .returned (.bool true) ∧ J (pre ++ [x]) W' ∧ QKpC n₀ Bs Bn W W') ∨ (e = .returned (.bool false) ∧ Jx (pre ++ [x]) W'))
  (B:Nat) (hA:AbidesFrom B J) (W:World) (hBs:W.cell? ⟨Bs,0,none⟩=some (.slice (some a) len cap)) (hBn:W.cell? ⟨Bn,0,none⟩=some (.int .i64 32)) (h0:J [] W):
  CallsIn Fence.wide 8 Try.prog 45 #[.func (.yield l) #[] #[],.pointer (some ⟨Bs,0,none⟩),.pointer (some ⟨Bn,0,none⟩)] W fun e W'=>(∃ v,e= .returned v)∧
   ((∃ ys:List (QChunkNo len),ys.map (·.1)=List.range ((len+31) / 32)∧J ys W')∨(∃ pre,True∧Jx pre W')):=by
 refine callsIn_of_wp Try.func45 rfl trivial ?_ rfl
 simp only[Try.ntmps45,List.size_toArray,List.length_cons,List.length_nil,Nat.reduceAdd,Nat.reduceSub,Array.replicate_succ,Array.replicate_zero,List.push_toArray,List.append_toArray,List.nil_append,List.cons_append]
 gi_wp2
 gi_loopw [4] (fun i wr=>∃ (k s:Nat) (pre:List (QChunkNo len)),Aside0 (s=32*k)∧k<=(len+31) / 32∧i= .int .i64 (s:Int)∧pre.map (·.1)=List.range k∧J pre wr∧QKpC n₀ Bs Bn W wr)
  (fun i _=>len+32 - (intOf i).toNat)
 case atStart=>exact⟨0,0,[],⟨rfl⟩,Nat.zero_le _,rfl,rfl,h0,QKpC.refl _ _ _ _⟩
 case round=>
  obtain⟨k,s,pre,hs,hk,rfl,hpre,hJs,hnx⟩:=hrel
  have hcs:wr.cell? ⟨Bs,0,none⟩=some (.slice (some a) len cap):=hnx.cell1 hBs
  have hcn:wr.cell? ⟨Bn,0,none⟩=some (.int .i64 32):=hnx.cell2 hBn
  by_cases hlt:s < len
  rotate_left
  .gi_wp2
   go_end0
   refine⟨⟨_,rfl⟩,.inl ⟨pre,?_,hJs⟩⟩
   rw[hpre,show k=(len+31) / 32 by have:=hs.out;omega]
  have hlt':32*k < len:=by have:=hs.out;omega
  obtain⟨m,hm⟩:∃ m:Nat,Aside0 (m=min 32 (len - s)):=⟨_,⟨rfl⟩⟩
  have hpl:Aside0 (pre.length=k):=⟨by have:=congrArg List.length hpre;simpa using this⟩
  have hPre:=Aside0.mk hpre
  clear hpre
  have hcut:=qchunk_cut a len cap s m (by have:=hm.out;omega) (by have:=hm.out;omega) hc
  obtain⟨q,hq⟩:∃ q:Nat,Aside0 (q=len - s):=⟨_,⟨rfl⟩⟩
  have htail:=qchunk_tail a len cap s hlt hc
  rw[<- hq.out]at htail
  have hm0:0 < m:=by have:=hm.out;omega
  have hm1:s+m<=len:=by have:=hm.out;omega
  have hmn:min 32 (q:Int)=(m:Int):=by have:=hm.out;have:=hq.out;omega
  have hmi:(if(q:Int) < 32 then(q:Int)else 32)=(m:Int):=by have:=hm.out;have:=hq.out;split<;>omega
  gi_wp2
  gi_quiet (fail)
  have hJ2:J pre (wr.drewN nq):=hA pre wr _ none hJs (qgrown_drewN wr nq) (fun r e=>by cases e)
  obtain⟨fn,tmps,assign,body,hy,hR⟩:=hY pre ⟨k,hlt'⟩ (wr.drewN nq) hJ2 (by have:=hpl.out;omega)
  have hy2:(Instr.yield l #[.slice (some (a.add (s*2))) m m]).run Try.prog (wr.drewN nq)= .ok (.round l fn tmps assign body) (wr.drewN nq):=by
   have e1:=hs.out
   have e2:=hm.out
   rw[e1]at e2
   rw[e1,e2]
   exact hy
  clear hy
  gi_wp2
  refine hR.mono ?_
  rintro e W3 (⟨rfl,hJ3,hk3⟩|⟨rfl,hJx3⟩)
  .have hnx3:QKpC n₀ Bs Bn W W3:=(hnx.drewN nq).trans hk3
   have hcn3:W3.cell? ⟨Bn,0,none⟩=some (.int .i64 32):=hnx3.cell2 hBn
   gi_wp2
   go_roundw
   case rel=>exact⟨k+1,s+32,pre++[⟨k,hlt'⟩],⟨by have:=hs.out;omega⟩,by omega,by simp,by rw[List.map_append,hPre.out,List.range_succ];rfl,hJ3,hnx3⟩
   case measure=>simp[intOf];omega
  .gi_wp2
   refine bodyPost_ret (results_none rfl _ _ _) rfl ?_
   exact⟨⟨_,rfl⟩,.inr ⟨_,trivial,hJx3⟩⟩
set_option maxRecDepth 100000 in
set_option maxHeartbeats 1000000 in
theorem qchunk1_nil_in (l Bs Bn cap:Nat) {α:Type} (J:List α->World->Prop) (W:World) (hBs:W.cell? ⟨Bs,0,none⟩=some (.slice none 0 cap)) (h0:J [] W):
  CallsIn Fence.wide 8 Try.prog 45 #[.func (.yield l) #[] #[],.pointer (some ⟨Bs,0,none⟩),.pointer (some ⟨Bn,0,none⟩)] W fun e W'=>(∃ v,e= .returned v)∧J [] W':=by
 refine callsIn_of_wp Try.func45 rfl trivial ?_ rfl
 simp only[Try.ntmps45,List.size_toArray,List.length_cons,List.length_nil,Nat.reduceAdd,Nat.reduceSub,Array.replicate_succ,Array.replicate_zero,List.push_toArray,List.append_toArray,List.nil_append,List.cons_append]
 gi_wp2
 gi_loopw [4] (fun i wr=>i= .int .i64 0∧wr.cell? ⟨Bs,0,none⟩=some (.slice none 0 cap)∧J [] wr) (fun _ _=>0)
 case atStart=>exact⟨rfl,hBs,h0⟩
 case round=>
  obtain⟨rfl,hc,hJs⟩:=hrel
  gi_wp2
  go_end0
  exact⟨⟨_,rfl⟩,hJs⟩
theorem qchunk_stops (Bs Bn n₀:Nat) (a:Option Addr) (len cap:Nat) (ha:a=none->len=0) (hc:len<=cap) (hreach:len<=140737488351200) (w:World) (hB:Bs < w.heap.size) (hB2:Bn < w.heap.size)
  (hBs:w.cell? ⟨Bs,0,none⟩=some (.slice a len cap)) (hBn:w.cell? ⟨Bn,0,none⟩=some (.int .i64 32)):
  SeqStopsK Fence.wide 8 Try.prog 45 #[.pointer (some ⟨Bs,0,none⟩),.pointer (some ⟨Bn,0,none⟩)] (qencChunk a len) (QKpC n₀ Bs Bn) (fun ys=>ys.map (·.1)=List.range ((len+31) / 32)) (fun _=>True) len w:=fun l J Jx W hW hJ _ hY h0=>by
 have h1:=(hW.cell (p:=⟨Bs,0,none⟩) hB).trans hBs
 cases a with
 |none=>
  obtain rfl:=ha rfl
  exact(qchunk1_nil_in l Bs Bn cap J W h1 h0).mono fun e W' ⟨he,hj⟩=>⟨he,.inl ⟨[],rfl,hj⟩⟩
 |some a=>exact qchunk1_in l Bs Bn n₀ a len cap hc hreach J Jx hY W.heap.size hJ W h1 ((hW.cell (p:=⟨Bn,0,none⟩) hB2).trans hBn) h0
def post_Put.inner (a:Int×List Int) (x:Int):Int×List Int:=(x,a.2++[IntKind.u64.wrap (wrap64 (wrap64 (x - a.1) - 1))])
def post_Put.outer (s:Int×List Int×List Int×List Int) (p:S37):Int×List Int×List Int×List Int:=
 (p.f0,s.2.1++[IntKind.u64.wrap (wrap64 (wrap64 (p.f0 - s.1) - 1))],s.2.2.1++[IntKind.u64.wrap (wrap64 ((p.f1.length:Int) - 1))],(p.f1.foldl post_Put.inner (-1,s.2.2.2)).2)
def post_Put.packed (ch:List S37) (at_:Int):Int×List Int×List Int×List Int:=ch.foldl post_Put.outer (at_,[],[],[])
def post_Put.chunk (l:List S37) (j:Nat):List S37:=(l.drop (32*j)).take 32
noncomputable def post_Put.step (k:Nat) (out:List Int) (at_:Int) (ch:List S37):Option (List Int×Int):=
 (pfor_PutBlock.f k [] (post_Put.packed ch at_).2.1).bind fun x=>if x.2=0 then(pfor_PutBlock.f k x.1 (post_Put.packed ch at_).2.2.1).bind fun y=>if y.2=0 then
  (num_Put.f k out (IntKind.u64.wrap (post_Put.packed ch at_).1)).bind fun o1=>(pfor_PutList.f k y.1 (post_Put.packed ch at_).2.2.2).bind fun bd=>(num_PutRow.f k o1 bd).bind fun o2=>some (o2,(post_Put.packed ch at_).1)
  else none else none
noncomputable def post_Put.l0:Nat->List Int->Int->List S37->Option (List Int)
 |0,_,_,_=>none
 |k+1,out,at_,rest=>if rest.length=0 then some out else(post_Put.step k out at_ (rest.take 32)).bind fun r=>post_Put.l0 k r.1 r.2 (rest.drop 32)
def post_Put.Ok (l0:List Int) (l1:List S37):Prop:=l1.length<=4096∧(∀ p∈l1,p.f1.length<=4096)∧
 ∀ (acc:List Int) (at_:Int),(∀ x∈acc,0<=x∧x<=255)->acc.length<=l0.length+1000+200000000*l1.length->∀ j,32*j < l1.length->
  ∃ k y,post_Put.step k acc at_ (post_Put.chunk l1 j)=some y∧(∀ x∈y.1,0<=x∧x<=255)∧y.1.length<=acc.length+200000000
noncomputable def post_Put.f (k:Nat) (l0:List Int) (l1:List S37):Option (List Int×Int):=
 (post_Formed.f k l1).bind fun ok=>if ok=true then @ite _ (post_Put.Ok l0 l1) (Classical.propDecidable _) ((num_Put.f k l0 (l1.length:Int)).bind fun t=> @ite _ ((∀ x∈t,0<=x∧x<=255)∧t.length<=l0.length+1000) (Classical.propDecidable _) ((post_Put.l0 k t (-1) l1).bind fun r=>some (r,0)) none) none else some ([],1)
theorem post_Put.step_mono (k:Nat) (out:List Int) (at_:Int) (ch:List S37):LeO (post_Put.step k out at_ ch) (post_Put.step (k+1) out at_ ch):=by
 unfold post_Put.step
 exact LeO.bind (pfor_PutBlock.mono _ _ _) fun _=>LeO.ite (LeO.bind (pfor_PutBlock.mono _ _ _) fun _=>LeO.ite (LeO.bind (num_Put.mono _ _ _) fun _=>LeO.bind (pfor_PutList.mono _ _ _) fun _=>LeO.bind (num_PutRow.mono _ _ _) fun _=>LeO.refl _) (LeO.none _)) (LeO.none _)
theorem post_Put.mono_l:∀ k a0 a1 a2,LeO (post_Put.l0 k a0 a1 a2) (post_Put.l0 (k+1) a0 a1 a2)
 |0,_,_,_=>LeO.none _
 |k+1,a0,a1,a2=>by
  rw[post_Put.l0,post_Put.l0]
  exact LeO.ite (LeO.refl _) (LeO.bind (post_Put.step_mono _ _ _ _) (fun _=>post_Put.mono_l k _ _ _))
theorem post_Put.mono:∀ a0 a1 k,LeO (post_Put.f k a0 a1) (post_Put.f (k+1) a0 a1):=by
 intro a0 a1 k
 unfold post_Put.f
 refine LeO.bind (post_Formed.mono _ _) fun _=>LeO.ite ?_ (LeO.refl _)
 by_cases h:post_Put.Ok a0 a1
 rotate_left
 .rw[if_neg h];exact LeO.none _
 rw[if_pos h,if_pos h]
 refine LeO.bind (num_Put.mono _ _ _) fun t=>?_
 by_cases h2:(∀ x∈t,0<=x∧x<=255)∧t.length<=a0.length+1000
 rotate_left
 .rw[if_neg h2];exact LeO.none _
 rw[if_pos h2,if_pos h2]
 exact LeO.bind (post_Put.mono_l _ _ _ _) fun _=>LeO.refl _
theorem post_Put.next {l1:List S37} {acc r:List Int} {at_:Int} {pl:Nat} (hl:32*pl < l1.length) (h:∃ kq,post_Put.l0 kq acc at_ (l1.drop (32*pl))=some r) {k':Nat} {y:List Int×Int} (hy:post_Put.step k' acc at_ ((l1.drop (32*pl)).take 32)=some y):
  ∃ kq,post_Put.l0 kq y.1 y.2 (l1.drop (32*(pl+1)))=some r:=by
 obtain⟨kq,h⟩:=h
 cases kq with
 |zero=>cases h
 |succ kq=>
  rw[post_Put.l0,if_neg (by rw[List.length_drop];omega)]at h
  obtain⟨bt,h1,h2⟩:=Option.bind_eq_some_iff.1 h
  have e1:bt=y:=by
   have a1:∀ n,post_Put.step (kq+n) acc at_ ((l1.drop (32*pl)).take 32)=some bt:=by
    intro n
    induction n with
    |zero=>exact h1
    |succ n ih=>exact post_Put.step_mono _ _ _ _ _ ih
   have a2:∀ n,post_Put.step (k'+n) acc at_ ((l1.drop (32*pl)).take 32)=some y:=by
    intro n
    induction n with
    |zero=>exact hy
    |succ n ih=>exact post_Put.step_mono _ _ _ _ _ ih
   have:=(a1 k').symm.trans ((Nat.add_comm kq k') ▸ a2 kq)
   exact Option.some.inj this
  subst e1
  refine⟨kq,?_⟩
  rw[List.drop_drop]at h2
  exact h2
theorem post_Put.last {l1:List S37} {acc r:List Int} {at_:Int} {pl:Nat} (hl:l1.length<=32*pl) (h:∃ kq,post_Put.l0 kq acc at_ (l1.drop (32*pl))=some r):acc=r:=by
 obtain⟨kq,h⟩:=h
 cases kq with
 |zero=>cases h
 |succ kq=>
  rw[post_Put.l0,if_pos (by rw[List.length_drop];omega)]at h
  exact Option.some.inj h
theorem qchunk_reads {W:World} {a:Option Addr} {c1:Nat} {l1:List S37} (h:Kd.C k37 W a l1.length l1) (hc:l1.length<=c1) (j:Nat) (hj:32*j < l1.length):Kd.C k37 W (a.map (·.add (32*j*2))) (post_Put.chunk l1 j).length (post_Put.chunk l1 j):=by
 unfold post_Put.chunk
 have h1:=Kd.C_drop (c:=l1.length) h (show 32*j<=l1.length by omega) (Nat.le_refl _)
 rw[if_neg (by omega),show k37.sz=2 from rfl]at h1
 by_cases h2:32<=(l1.drop (32*j)).length
 .exact Kd.C_take h1 h2
 .rw[List.take_of_length_le (by omega)]
  exact h1
def post_Put.Held (w:World) (l0:List Int) (l1:List S37) (r:List Int) (B:Nat) (pre:List (QChunkNo l1.length)) (W:World):Prop:=
 (∃ (acc:List Int) (at_:Int) (v:Value),Aside0 ((∀ x∈acc,0<=x∧x<=255)∧acc.length<=l0.length+1000+200000000*pre.length∧(pre.map (·.1)=List.range pre.length->∃ kq,post_Put.l0 kq acc at_ (l1.drop (32*pre.length))=some r))∧Boxed W B 22 v∧Kd.R (Kd.int .u8) 5 W w.heap.size (fun _=>True) v acc∧Boxed W (B+1) 3 (.int .i64 at_)∧B+4<=W.heap.size)∧Below w.heap.size w W
theorem post_Put.held_own (w:World) (l0:List Int) (l1:List S37) (r:List Int) (B:Nat) (B0:Nat) (h:w.heap.size<=B0):OwnFrom B0 (post_Put.Held w l0 l1 r B):=by
 refine OwnFrom.and (Own.from ?_ _) (ownFrom_below (Nat.le_refl _) h)
 rintro s X Y row ⟨acc,at_,v,hp,hv,hR,hz,hs⟩ hg hrow
 obtain⟨v',hv',hr',rfl⟩:=holdsRow_own (β:=Unit) w.heap.size B 22 5 1 (fun _=>acc.length) (fun _=>encs (Value.int .u8) acc) (fun _ u=>u=v) () X Y row ⟨v,hv,Kd.own_of_R hR,rfl⟩ hg hrow
 exact⟨acc,at_,_,hp,hv',Kd.R_of_own hr' (fun _ _=>trivial),boxed_own (B+1) 3 (fun _=> .int .i64 at_) s X Y row hz hg hrow,Nat.le_trans hs hg.size⟩
theorem qrange_snoc {l:List Nat} {x:Nat} (h:l++[x]=List.range (l.length+1)):l=List.range l.length∧x=l.length:=by
 rw[List.range_succ]at h
 have:=List.append_inj h (by simp)
 exact⟨this.1,(List.cons.inj this.2).1⟩
theorem qappend_in {F:Fence} {n:Nat} {P:Program} (w:World) {ops:Array Oper} {rest:List Oper} {o:Oper} {a:Act} {Q:Exit->Act->World->Prop}
  (hg:o.guard=none) (s x:Operand) (t:TypeId) (hop:o.op=Op.call {callee:=Callee.builtin Builtin.append,args:= #[s,x],argTypes:= #[t,t]})
  (base:Nat) (e:TypeId) (z:Value) (size bytes:Nat) (h1:P.underlying t=some (.slice e)) (hinfo:(P.info? e).map (fun i=>(i.zero,i.size,i.bytes))=some (some z,size,bytes)) (h6:z.cells.size=size) (h7:0 < size)
  (v:Value) (k:Nat) (xs:List Value) (hs:a.eval s=v) (hown:w.ownsRow base e size v k xs) (u:Value) (hx:a.eval x= .slice (some ⟨w.heap.size,0,none⟩) 1 1) (hsz1:size=1)
  (h1c:u.oneCell'=true) (b1:k+1<=maxLen) (b2:(k+1)*bytes<=140737488355328) (b3:base<=w.heap.size)
  (hK:∀ v' w',w'.ownsRow base e size v' (k+1) (xs++[u])->w.grownBy w' v.ownBlock->(v'.ownBlock=v.ownBlock∨∃ b,v'.ownBlock=some b∧w.heap.size<=b)->wpListIn F n P ops Q rest (a.put o.dst v') w'):
  wpListIn F n P ops Q (o :: rest) a (w.alloc (.cells #[u] e)):=by
 obtain⟨i0,hi,hzz⟩:=Option.map_eq_some_iff.1 hinfo
 simp only[Prod.mk.injEq]at hzz
 obtain⟨hz0,hz1,hz2⟩:=hzz
 subst hsz1
 refine wpListIn_plain hg fun K hK'=>?_
 have hnews:∀ j u',[u][j]? =some u'->(w.alloc (.cells #[u] e)).cell? ((⟨w.heap.size,0,none⟩:Addr).add j)=some u':=by
  have h_:=World.news_of_block (cs:= #[u]) (t:=e) (fr:=(0,0)) (heap_alloc_new w (.cells #[u] e))
  simpa using h_
 obtain⟨v',w',hrun,r1,r2,_,r4⟩:=run_append_own_at (P:=P) (w.alloc (.cells #[u] e)) base t o.type e i0 z 1 bytes h1 hi hz0 hz1 hz2 h6 h7 v k xs (hown.alloc _) ⟨w.heap.size,0,none⟩ 1 1 [u] rfl hnews (by simpa using h1c) b1 b2 (by simp;omega)
 unfold Oper.wpIn
 refine⟨?_,?_⟩
 .simp[Oper.about,hop,resolve,Target.leads,Sem.run_pure]
 .rw[Oper.semAt_plain F _ _ (by rw[hop];intro c hc';cases hc')]
  simp[execOp,hop,resolve,invoke,builtin,hs,hx,hrun,Result.andThen]
  exact hK' _ _ (hK v' w' r1 (World.grownBy.trans (World.grownBy_alloc w _ _) r2) (r4.imp id fun e_=>⟨_,e_,by simp⟩))
def QApart (v u:Value):Prop:=∀ k,v.ownBlock=some k->u.ownBlock=some k->False
theorem QApart.symm {v u:Value} (h:QApart v u):QApart u v:=fun k a b=>h k b a
theorem QApart.ne {v u:Value} (h:QApart v u):v.ownBlock=none∨v.ownBlock≠u.ownBlock:=by
 cases e:v.ownBlock with
 |none=>exact .inl rfl
 |some k=>exact .inr fun e2=>h k e e2.symm
theorem QApart.grown {W:World} {base size n:Nat} {e:TypeId} {v v' u:Value} {xs:List Value} (h:QApart v u) (hu:W.ownsRow base e size u n xs) (hat:v'.ownBlock=v.ownBlock∨∃ b,v'.ownBlock=some b∧W.heap.size<=b):QApart v' u:=by
 intro k h1 h2
 rcases hat with h3|⟨b,h3,h4⟩
 .exact h k (h3.symm.trans h1) h2
 .have:=(hu.lt k h2).2
  rw[h3]at h1
  cases h1
  omega
structure QRows (M:Nat) (W:World) (vD vC vP:Value) (D C P:List Int):Prop where
 d:W.ownsRow M 48 1 vD D.length (encs (Value.int .u64) D)
 c:W.ownsRow M 48 1 vC C.length (encs (Value.int .u64) C)
 p:W.ownsRow M 48 1 vP P.length (encs (Value.int .u64) P)
 dc:QApart vD vC
 dp:QApart vD vP
 cp:QApart vC vP
theorem QRows.over {M:Nat} {W W':World} {vD vC vP:Value} {D C P:List Int} (h:QRows M W vD vC vP D C P) (hg:W.grownBy W' none):QRows M W' vD vC vP D C P:=by
  have ne : ∀ {v : Value} {xs : List Value} {n : Nat}, W.ownsRow M 48 1 v n xs -> W'.ownsRow M 48 1 v n xs := fun {v} _ _ h => h.kept hg (by cases e : v.ownBlock with
    |none=>exact .inl rfl
    | some k => exact .inr (by simp))
  exact⟨ne h.d,ne h.c,ne h.p,h.dc,h.dp,h.cp⟩
theorem QRows.growD {M:Nat} {W W':World} {vD vC vP v':Value} {D C P:List Int} {x:Int} (h:QRows M W vD vC vP D C P) (hg:W.grownBy W' vD.ownBlock) (hr:W'.ownsRow M 48 1 v' (D.length+1) (encs (Value.int .u64) D++[.int .u64 x])) (hat:v'.ownBlock=vD.ownBlock∨∃ b,v'.ownBlock=some b∧W.heap.size<=b):QRows M W' v' vC vP (D++[x]) C P:=
 ⟨by rw[List.length_append,encs_append];exact hr,h.c.kept hg h.dc.symm.ne,h.p.kept hg h.dp.symm.ne,h.dc.grown h.c hat,h.dp.grown h.p hat,h.cp⟩
theorem QRows.growC {M:Nat} {W W':World} {vD vC vP v':Value} {D C P:List Int} {x:Int} (h:QRows M W vD vC vP D C P) (hg:W.grownBy W' vC.ownBlock) (hr:W'.ownsRow M 48 1 v' (C.length+1) (encs (Value.int .u64) C++[.int .u64 x])) (hat:v'.ownBlock=vC.ownBlock∨∃ b,v'.ownBlock=some b∧W.heap.size<=b):QRows M W' vD v' vP D (C++[x]) P:=
 ⟨h.d.kept hg h.dc.ne,by rw[List.length_append,encs_append];exact hr,h.p.kept hg h.cp.symm.ne,(h.dc.symm.grown h.d hat).symm,h.dp,h.cp.grown h.p hat⟩
theorem QRows.growP {M:Nat} {W W':World} {vD vC vP v':Value} {D C P:List Int} {x:Int} (h:QRows M W vD vC vP D C P) (hg:W.grownBy W' vP.ownBlock) (hr:W'.ownsRow M 48 1 v' (P.length+1) (encs (Value.int .u64) P++[.int .u64 x])) (hat:v'.ownBlock=vP.ownBlock∨∃ b,v'.ownBlock=some b∧W.heap.size<=b):QRows M W' vD vC v' D C (P++[x]):=
 ⟨h.d.kept hg h.dp.ne,h.c.kept hg h.cp.ne,by rw[List.length_append,encs_append];exact hr,h.dc,(h.dp.symm.grown h.d hat).symm,(h.cp.symm.grown h.c hat).symm⟩
structure QEnv (w W wr:World) (n0 M nb:Nat) (at_:Int):Prop where
 bel:Below n0 w wr
 old:∀ k,k < M->k≠nb->wr.heap[k]? =W.heap[k]?
 box:Boxed wr nb 3 (.int .i64 at_)
 size:M<=wr.heap.size
theorem QEnv.grown {w W wr w':World} {n0 M nb:Nat} {at_:Int} {row:Option Nat} (h:QEnv w W wr n0 M nb at_) (h0:n0<=M) (hnb:nb < M) (hg:wr.grownBy w' row) (hr:∀ k,row=some k->M<=k):QEnv w W w' n0 M nb at_:=
 ⟨h.bel.grown hg (Nat.le_trans h0 h.size) (fun k e=>Nat.le_trans h0 (hr k e)),fun k hk hn=>(hg.block k (Nat.lt_of_lt_of_le hk h.size) (fun e=>by have:=hr k e.symm;omega)).trans (h.old k hk hn),h.box.kept hg (fun e=>by have:=hr nb e.symm;omega),Nat.le_trans h.size hg.size⟩
theorem QEnv.alloc {w W wr:World} {n0 M nb:Nat} {at_:Int} (h:QEnv w W wr n0 M nb at_) (h0:n0<=M) (hnb:nb < M) (o:Obj):QEnv w W (wr.alloc o) n0 M nb at_:=h.grown h0 hnb (World.grownBy_alloc wr o none) (fun k e=>by cases e)
theorem QEnv.below {w W wr w':World} {n0 M nb:Nat} {at_:Int} (h:QEnv w W wr n0 M nb at_) (h0:n0<=M) (hnb:nb < M) (hb:Below wr.heap.size wr w'):QEnv w W w' n0 M nb at_:=
 ⟨h.bel.trans (hb.mono (Nat.le_trans h0 h.size)),fun k hk hn=>(hb.block k (Nat.lt_of_lt_of_le hk h.size)).trans (h.old k hk hn),(hb.block nb (Nat.lt_of_lt_of_le hnb h.size)).trans h.box,Nat.le_trans h.size hb.size⟩
theorem QEnv.set {w W wr:World} {n0 M nb:Nat} {at_:Int} (h:QEnv w W wr n0 M nb at_) (hn0:n0<=nb) (x:Int):QEnv w W (wr.setCell ⟨nb,0,none⟩ (.int .i64 x)) n0 M nb x:=
 ⟨h.bel.setCell (p:=⟨nb,0,none⟩) hn0 _,fun k hk hn=>(Below.heap_setCell _ _ _ _ (by simpa using hn)).trans (h.old k hk hn),h.box.set _,by simpa using h.size⟩
theorem QRows.set {M:Nat} {W:World} {vD vC vP:Value} {D C P:List Int} (h:QRows M W vD vC vP D C P) {nb:Nat} (hnb:nb < M) (u:Value):QRows M (W.setCell ⟨nb,0,none⟩ u) vD vC vP D C P:=by
  have hg:=grownBy_setCell' W nb u
  have ne : ∀ {v : Value} {xs : List Value} {n : Nat}, W.ownsRow M 48 1 v n xs -> (W.setCell ⟨nb, 0, none⟩ u).ownsRow M 48 1 v n xs := fun {v} _ _ h => h.kept hg (by
    cases e:v.ownBlock with
    |none=>exact .inl rfl
    | some k => exact .inr fun e2 => by have := (h.lt k e).1; cases e2; omega)
  exact⟨ne h.d,ne h.c,ne h.p,h.dc,h.dp,h.cp⟩
theorem QEnv.keeps {w W wr:World} {n0 M nb:Nat} {at_:Int} (h:QEnv w W wr n0 M nb at_) (hM:M=W.heap.size) {x:Int} (hb:Boxed W nb 3 (.int .i64 x)):KeepsOthers W wr:=
 ⟨by rw[<- hM];exact h.size,fun k o hk ho=>(h.old k (by rw[hM];exact(Array.getElem?_eq_some_iff.1 hk).1) (by rintro rfl;rw[show W.heap[k]? =_ from hb]at hk;cases hk;cases ho)).trans hk⟩
theorem QEnv.inW {w W wr:World} {n0 M nb:Nat} {at_:Int} (h:QEnv w W wr n0 M nb at_) (hM:M=W.heap.size) (hb:Below n0 w W):Below n0 W wr:=
 ⟨h.bel.os.trans hb.os.symm,h.bel.tape.trans hb.tape.symm,h.bel.output.trans hb.output.symm,by rw[<- hM];exact h.size,fun k hk=>(h.bel.block k hk).trans (hb.block k hk).symm⟩
def QBox (W:World) (B:Nat) (d:Int) (v:Value):Prop:=W.heap[B]? =some (.cells #[.int .i64 d,v] 37 (0,0))
theorem QBox.lt {W:World} {B:Nat} {d:Int} {v:Value} (h:QBox W B d v):B < W.heap.size:=(Array.getElem?_eq_some_iff.1 h).1
theorem QBox.c0 {W:World} {B:Nat} {d:Int} {v:Value} (h:QBox W B d v):W.cell? ⟨B,0,none⟩=some (.int .i64 d):=by simp only[World.cell?,show W.heap[B]? =_ from h];rfl
theorem QBox.c1 {W:World} {B:Nat} {d:Int} {v:Value} (h:QBox W B d v):W.cell? ⟨B,1,none⟩=some v:=by simp only[World.cell?,show W.heap[B]? =_ from h];rfl
theorem QBox.new (W:World) (d:Int) (v:Value):QBox (W.alloc (.cells #[.int .i64 d,v] 37)) W.heap.size d v:=World.alloc_heap_new W _
theorem QBox.grown {W W':World} {row:Option Nat} {B:Nat} {d:Int} {v:Value} (h:QBox W B d v) (hg:W.grownBy W' row) (hne:some B≠row):QBox W' B d v:=(hg.block B h.lt hne).trans h
theorem QBox.alloc {W:World} {B:Nat} {d:Int} {v:Value} (h:QBox W B d v) (o:Obj):QBox (W.alloc o) B d v:=h.grown (World.grownBy_alloc W o none) (by simp)
theorem qrow_ne {W:World} {base n size:Nat} {e:TypeId} {v:Value} {xs:List Value} (h:W.ownsRow base e size v n xs):some W.heap.size≠v.ownBlock:=fun e_=>by have:=(h.lt _ e_.symm).2;omega
theorem post_Put.inner_len (l:List Int):∀ (s:Int×List Int),(l.foldl post_Put.inner s).2.length=s.2.length+l.length:=by
 induction l with
 |nil=>intro s;rfl
 |cons x l ih=>intro s;rw[List.foldl_cons,ih];simp[post_Put.inner];omega
theorem post_Put.packed_len (l:List S37) (hl:∀ p∈l,p.f1.length<=4096) (at_:Int):(post_Put.packed l at_).2.1.length=l.length∧(post_Put.packed l at_).2.2.1.length=l.length∧(post_Put.packed l at_).2.2.2.length<=4096*l.length:=by
 have key:∀ (l:List S37) (s:Int×List Int×List Int×List Int),(∀ p∈l,p.f1.length<=4096)->(l.foldl post_Put.outer s).2.1.length=s.2.1.length+l.length∧(l.foldl post_Put.outer s).2.2.1.length=s.2.2.1.length+l.length∧(l.foldl post_Put.outer s).2.2.2.length<=s.2.2.2.length+4096*l.length:=by
  intro l
  induction l with
  |nil=>intro s _;exact⟨rfl,rfl,Nat.le_refl _⟩
  |cons x l ih=>
   intro s h
   have h1:=h x (by simp)
   obtain⟨i1,i2,i3⟩:=ih (post_Put.outer s x) (fun p hp=>h p (by simp[hp]))
   rw[List.foldl_cons]
   have h2:=post_Put.inner_len x.f1 (-1,s.2.2.2)
   dsimp only at h2
   simp only[post_Put.outer,List.length_append,List.length_singleton]at i1 i2 i3 ⊢
   simp only[List.length_cons]
   omega
 have:=key l (at_,[],[],[]) hl
 simpa[post_Put.packed]using this
theorem QBox.not_row {W:World} {B:Nat} {d:Int} {v:Value} (h:QBox W B d v) {base size k:Nat} {u:Value} {xs:List Value} (hr:W.ownsRow base 48 size u k xs):some B≠u.ownBlock:=by
 rcases hr.2 with ⟨rfl,_⟩|⟨g,cap,cur,rfl,_,hh,_⟩
 .simp[Value.ownBlock]
 .intro e
  have e2:B=g:=by simpa[Value.ownBlock]using e
  subst e2
  rw[show W.heap[B]? =_ from h]at hh
  simp at hh
theorem qinc {i:Nat} (h:i < 9223372036854775807):wrap64 ((i:Int)+1)=((i+1:Nat):Int):=by unfold wrap64;omega
theorem qarith {a b c p:Nat} (h1:a<=c+200000000*p) (h2:b<=a+200000000):b<=c+200000000*(p+1):=by
 rw[Nat.mul_add,Nat.mul_one,<- Nat.add_assoc]
 exact Nat.le_trans h2 (Nat.add_le_add_right h1 _)
set_option maxRecDepth 100000 in
set_option maxHeartbeats 8000000 in
theorem post_Put.calls (k:Nat) (A0:Option Addr) (c0:Nat) (l0:List Int) (A1:Option Addr) (c1:Nat) (l1:List S37) (r1:List Int) (r2:Int) (w:World) (hr0:Kd.C (Kd.int .u8) w A0 l0.length l0) (hc0:l0.length<=c0) (hr1:Kd.C k37 w A1 l1.length l1) (hc1:l1.length<=c1) (h:post_Put.f k l0 l1=some (r1,r2)):
    Calls Try.prog 13 #[.slice A0 l0.length c0,.slice A1 l1.length c1] w fun e w'=>∃ v0_:Value,e= .returned (.tuple #[v0_,.int .i64 r2])∧Kd.R (Kd.int .u8) 5 w' w.heap.size (fun _=>True) v0_ r1∧Below w.heap.size w w':=by
  unfold post_Put.f at h
  obtain⟨ok,hf,h⟩:=Option.bind_eq_some_iff.1 h
  have HR0:=Aside0.mk hr0
  have HR1:=Aside0.mk hr1
  have HC0:=Aside0.mk hc0
  have HC1:=Aside0.mk hc1
  have HF:=Aside0.mk hf
  clear hr0 hr1 hc0 hc1 hf
  cases ok with
  |false=>
    rw[if_neg (by decide)]at h
    cases h
    go_enter Try.func13,Try.ntmps13
    go_wp2_with (first|(go_at_call 16;(with_reducible refine(post_Formed.calls k A1 c1 l1 false _ ?side1 HC1.out HF.out).mono ?_);(case side1=>exact Kd.cA_ (Kd.cA_ HR1.out _) _);rintro e w1 ⟨rfl,hb⟩;have hq1:Boxed w1 w.heap.size 22 (.slice none 0 0):=(hb.block _ (by simp;omega)).trans ((Boxed.new w 22 _).alloc _);have hq2:Boxed w1 (w.heap.size+1) 28 (.int .i64 0):=(hb.block _ (by simp)).trans (by have h_:=Boxed.new (w.alloc (.cells #[.slice none 0 0] 22)) 28 (.int .i64 0);rw[World.size_alloc]at h_;exact h_);have hq1c:=hq1.cell;have hq1f:=hq1.frozen;have hq2c:=hq2.cell;have hq2f:=hq2.frozen;have HB1:=Aside0.mk hb;clear hb)|fail)
    have f1:=(hq1.set (.slice none 0 0)).cell
    have f2:=((hq2.other (show w.heap.size+1≠w.heap.size by omega) (.slice none 0 0)).set (.int .i64 1)).cell
    refine bodyPost_ret (v:= .tuple #[.slice none 0 0,.int .i64 1]) (by simp[results,Try.results13,go_sem,f1,f2]) rfl ?_
    refine⟨_,rfl,Kd.R_nil _ _ _ _ _,?_⟩
    have hb:=below_step (pbA_ (pbA_ (Below.refl _ _) _) _) HB1.out
    exact(hb.setCell (p:=⟨w.heap.size,0,none⟩) (Nat.le_refl _) _).setCell (p:=⟨w.heap.size+1,0,none⟩) (by simp) _
  |true=>
    rw[if_pos rfl]at h
    by_cases hok:post_Put.Ok l0 l1
    case neg=>rw[if_neg hok]at h;cases h
    rw[if_pos hok]at h
    obtain⟨t,ht,h⟩:=Option.bind_eq_some_iff.1 h
    by_cases hb8:(∀ x∈t,0<=x∧x<=255)∧t.length<=l0.length+1000
    case neg=>rw[if_neg hb8]at h;cases h
    rw[if_pos hb8]at h
    obtain⟨r,hr,h⟩:=Option.bind_eq_some_iff.1 h
    cases h
    have HT:=Aside0.mk ht
    have HH:=Aside0.mk hr
    have HB8:=Aside0.mk hb8
    have HOK:=Aside0.mk hok
    have hln:l1.length<=4096:=hok.1
    have hnone:A1=none->l1.length=0:=by
      rintro rfl
      rcases Nat.eq_zero_or_pos l1.length with h_|h_
      . exact h_
      . obtain⟨ad,e,_⟩:=HR1.out.2.2 h_
        cases e
    clear ht hr hb8 hok
    refine(callsIn_wide (n:=9)).1 ?_
    refine callsIn_of_wp_marks Try.func13 rfl trivial ?_ rfl
    simp only[Try.ntmps13,List.size_toArray,List.length_cons,List.length_nil,Nat.reduceAdd,Nat.reduceSub,Array.replicate_succ,Array.replicate_zero,List.push_toArray,List.append_toArray,List.nil_append,List.cons_append]
    gi_wp2_with (first|(refine⟨trivial,?_⟩;gi_at_call 16;(with_reducible refine(callsIn_wide.2 (post_Formed.calls k A1 c1 l1 true _ ?side1 HC1.out HF.out)).mono ?_);(case side1=>exact Kd.cA_ (Kd.cA_ HR1.out _) _);rintro e w1 ⟨rfl,hb⟩;have HB1:=Aside0.mk hb;clear hb)|(refine⟨trivial,?_⟩;gi_at_call 24;(with_reducible refine(callsIn_wide.2 (num_Put.calls k A0 c0 l0 (l1.length:Int) t _ ?side1 HC0.out HT.out)).mono ?_);(case side1=>exact Kd.C_below (Kd.cA_ (Kd.cA_ HR0.out _) _) HB1.out);rintro e w2 ⟨v0,rfl,hR,hB⟩;obtain⟨At,ct,rfl⟩:=Kd.R_slice hR;have HRt:=Aside0.mk hR;have HBt:=Aside0.mk hB;clear hR hB)|(refine⟨trivial,?_⟩;gi_at_call 25;(with_reducible refine(qchunk_in _ A1 l1.length c1 _).mono ?_);rintro e w3 ⟨rfl,rfl⟩)|fail)
    obtain⟨wA,hwA⟩:∃ wA,Aside0 (wA=(w.alloc (Obj.cells #[Value.slice none 0 0] 22)).alloc (Obj.cells #[Value.int IntKind.i64 0] 28)):=⟨_,⟨rfl⟩⟩
    rw[<- hwA.out]at HB1
    have HRA:Aside0 (Kd.C k37 wA A1 l1.length l1):=⟨by rw[hwA.out];exact Kd.cA_ (Kd.cA_ HR1.out _) _⟩
    have hwAs:Aside0 (wA.heap.size=w.heap.size+2):=⟨by rw[hwA.out];simp⟩
    obtain⟨n1,hn1⟩:∃ n1:Nat,Aside0 (n1=w2.heap.size):=⟨_,⟨rfl⟩⟩
    have hsz:Aside0 (wA.heap.size<=n1):=⟨by rw[hn1.out];exact Nat.le_trans HB1.out.size HBt.out.size⟩
    obtain⟨W0,hW0⟩:∃ W0,Aside0 (W0=(((w2.alloc (Obj.cells #[Value.slice At t.length ct] 22)).alloc (Obj.cells #[Value.int IntKind.i64 (-1)] 3)).alloc (Obj.cells #[Value.slice A1 l1.length c1] 23)).alloc (Obj.cells #[Value.int IntKind.i64 32] 3)):=⟨_,⟨rfl⟩⟩
    have hW0s:W0.heap.size=n1+4:=by rw[hW0.out,hn1.out];simp
    have hBel:Below wA.heap.size wA W0:=by rw[hW0.out];exact pbA_ (pbA_ (pbA_ (pbA_ (below_step HB1.out HBt.out) _) _) _) _
    have hb0:Boxed W0 n1 22 (.slice At t.length ct):=by rw[hW0.out,hn1.out];exact(((Boxed.new w2 22 _).alloc _).alloc _).alloc _
    have hb1:Boxed W0 (n1+1) 3 (.int .i64 (-1)):=by
      have h_:=((Boxed.new (w2.alloc (Obj.cells #[Value.slice At t.length ct] 22)) 3 (.int .i64 (-1))).alloc (Obj.cells #[Value.slice A1 l1.length c1] 23)).alloc (Obj.cells #[Value.int IntKind.i64 32] 3)
      rw[World.size_alloc]at h_
      rw[hW0.out,hn1.out]
      exact h_
    have hb2:W0.cell? ⟨n1+2,0,none⟩=some (.slice A1 l1.length c1):=by
      have h_:=((Boxed.new ((w2.alloc (Obj.cells #[Value.slice At t.length ct] 22)).alloc (Obj.cells #[Value.int IntKind.i64 (-1)] 3)) 23 (.slice A1 l1.length c1)).alloc (Obj.cells #[Value.int IntKind.i64 32] 3)).cell
      rw[World.size_alloc,World.size_alloc]at h_
      rw[hW0.out,hn1.out]
      exact h_
    have hb3:W0.cell? ⟨n1+3,0,none⟩=some (.int .i64 32):=by
      have h_:=(Boxed.new (((w2.alloc (Obj.cells #[Value.slice At t.length ct] 22)).alloc (Obj.cells #[Value.int IntKind.i64 (-1)] 3)).alloc (Obj.cells #[Value.slice A1 l1.length c1] 23)) 3 (.int .i64 32)).cell
      rw[World.size_alloc,World.size_alloc,World.size_alloc]at h_
      rw[hW0.out,hn1.out]
      exact h_
    have hR0:Kd.R (Kd.int .u8) 5 W0 wA.heap.size (fun _=>True) (.slice At t.length ct) t:=by rw[hW0.out];exact Kd.rA_ (Kd.rA_ (Kd.rA_ (Kd.rA_ (Kd.R_lower HRt.out HB1.out.size) _) _) _) _
    rw[<- hW0.out,<- hn1.out]
    have hszn:=hsz.out
    refine wpIn_rangeFunc_ownF (F:=Fence.wide) rfl (by decide) (gf:=45) (lb:= #[.pointer (some ⟨n1+1+1,0,none⟩),.pointer (some ⟨n1+1+1+1,0,none⟩)]) rfl trivial (enters_of Try.func45 (by kernel_rfl) rfl)
      (qchunk_stops (n1+2) (n1+3) wA.heap.size A1 l1.length c1 hnone HC1.out (by omega) W0 (by omega) (by omega) hb2 hb3) (fun h k=>QKpC.trans h k) (qkpC_b (by omega) (by omega) (by omega)) (Below.refl _ _) (fun _=>rfl)
      (post_Put.Held wA l0 l1 r1 n1) (fun _ _ _=>False) (post_Put.held_own wA l0 l1 r1 n1 W0.heap.size (by omega)) (fun _ _ _ _ _ hs _ _=>hs)
      ⟨⟨t, -1,_,⟨HB8.out.1,by have:=HB8.out.2;simp;omega,fun _=>⟨k,HH.out⟩⟩,hb0,hR0,hb1,by omega⟩,hBel⟩
      (fun x => { tmps := #[Value.slice A0 l0.length c0, Value.slice A1 l1.length c1, undef, undef, Value.pointer (some { block := w.heap.size, off := 0 }),
          Value.pointer (some {block:=w.heap.size+1,off:=0}),Value.pointer (some {block:=n1,off:=0}),
          Value.pointer (some {block:=n1+1,off:=0}),.slice (A1.map (·.add (32*x.1*2))) (min 32 (l1.length - 32*x.1)) (min 32 (l1.length - 32*x.1)),undef,undef,undef,undef,undef,undef,undef,undef,undef,undef,Value.slice A1 l1.length c1,Value.bool true,Value.bool false,
          Value.slice A0 l0.length c0,Value.slice A1 l1.length c1,Value.int IntKind.i64 ↑l1.length,
          Value.int IntKind.u64 ↑l1.length,Value.slice At t.length ct,Value.slice A1 l1.length c1,
          Value.func (Fn.func 45) #[] #[Value.pointer (some {block:=n1+1+1,off:=0}),Value.pointer (some {block:=n1+1+1+1,off:=0})],
          .slice (A1.map (·.add (32 * x.1 * 2))) (min 32 (l1.length - 32 * x.1)) (min 32 (l1.length - 32 * x.1)), undef, undef, undef, undef, undef, undef, undef, undef, undef, undef, undef, undef, undef, undef, undef, undef, undef, undef, undef, undef, undef, undef, undef, undef, undef, undef, undef, undef, undef, undef, undef, undef, undef, undef, undef, undef, undef, undef, undef, undef, undef, undef, undef, undef, undef, undef, undef, undef, undef, undef, undef, undef, undef, undef, undef, undef, undef, undef, undef, undef, undef, undef, undef, undef, undef, undef, undef, undef, undef], defers := [] }) ?assign ?body ?done ?stop
    case assign=>
      intro l x W K hK
      dsimp only[qencChunk]
      gi_wp2
      exact hK
    case stop=>
      intro D c pre W _ _ h _
      exact h.elim
    case body=>
      rintro l pre x W ⟨⟨acc,at_,v,hp,hv,hR,hat,hz⟩,hB⟩ hlen
      obtain⟨A,cc,rfl⟩:=Kd.R_slice hR
      obtain⟨-,hcap,hCa⟩:=Kd.R_reads' hR
      have hpl:pre.length<=l1.length:=Nat.le_of_lt hlen
      obtain⟨k',y,hy,hy8,hyl⟩:=HOK.out.2.2 acc at_ hp.out.1 (by have:=hp.out.2.1;have h_:=Nat.mul_le_mul_left 200000000 hpl;omega) x.1 x.2
      have hch:=qchunk_reads HRA.out HC1.out x.1 x.2
      have hcl:(post_Put.chunk l1 x.1).length=min 32 (l1.length - 32*x.1):=by simp[post_Put.chunk]
      have hpls:∀ p∈post_Put.chunk l1 x.1,p.f1.length<=4096:=fun p hp_=>HOK.out.2.1 p (List.mem_of_mem_drop (List.mem_of_mem_take hp_))
      obtain⟨m,hm⟩:∃ m,min 32 (l1.length - 32*x.1)=m:=⟨_,rfl⟩
      obtain⟨A2,hA2⟩:∃ A2,A1.map (·.add (32*x.1*2))=A2:=⟨_,rfl⟩
      obtain⟨ch,hchd⟩:∃ ch,post_Put.chunk l1 x.1=ch:=⟨_,rfl⟩
      rw[hm,hchd]at hcl
      rw[hA2,hchd,hcl]at hch
      rw[hchd]at hy hpls
      rw[hm,hA2]
      have HY:=Aside0.mk hy
      unfold post_Put.step at hy
      obtain⟨X1,e1,hy⟩:=Option.bind_eq_some_iff.1 hy
      by_cases e2:X1.2=0
      case neg=>rw[if_neg e2]at hy;cases hy
      rw[if_pos e2]at hy
      obtain⟨X2,e3,hy⟩:=Option.bind_eq_some_iff.1 hy
      by_cases e4:X2.2=0
      case neg=>rw[if_neg e4]at hy;cases hy
      rw[if_pos e4]at hy
      obtain⟨o1,e5,hy⟩:=Option.bind_eq_some_iff.1 hy
      obtain⟨bd,e6,hy⟩:=Option.bind_eq_some_iff.1 hy
      obtain⟨o2,e7,hy⟩:=Option.bind_eq_some_iff.1 hy
      cases hy
      obtain⟨X1,x1e⟩:=X1
      obtain⟨X2,x2e⟩:=X2
      dsimp only at e1 e2 e3 e4 e6
      subst e2
      subst e4
      have E1:=Aside0.mk e1
      have E3:=Aside0.mk e3
      have E5:=Aside0.mk e5
      have E6:=Aside0.mk e6
      have E7:=Aside0.mk e7
      have HCH:=Aside0.mk hch
      have HCL:=Aside0.mk hcl
      have HPL:=Aside0.mk hpls
      have HM:=Aside0.mk (show m<=32 by omega)
      have HV:=Aside0.mk hv
      have HRR:=Aside0.mk hR
      have HCA:=Aside0.mk hCa
      have HCAP:=Aside0.mk hcap
      have HAT:=Aside0.mk hat
      have HB:=Aside0.mk hB
      have HP:=Aside0.mk hp
      have HZ:=Aside0.mk hz
      have HY8:=Aside0.mk hy8
      have HYL:=Aside0.mk hyl
      clear e1 e3 e5 e6 e7 hch hcl hpls hm hv hR hCa hcap hat hB hp hz hy8 hyl hb0 hb1 hb2 hb3 hR0 hBel hpl
      obtain⟨M,hM⟩:∃ M:Nat,Aside0 (M=W.heap.size):=⟨_,⟨rfl⟩⟩
      have hn0M:Aside0 (wA.heap.size<=M∧n1+1 < M):=⟨by have:=HB.out.size;have:=HZ.out;rw[hM.out];omega⟩
      have hNE:Aside0 (QEnv wA W W wA.heap.size M (n1+1) at_):=⟨⟨HB.out,fun _ _ _=>rfl,HAT.out,by rw[hM.out];exact Nat.le_refl _⟩⟩
      gi_wp2
      gi_loopw [9,10,11,32] (fun v9 v10 v11 v32 wr=>∃ (i:Nat) (D C P:List Int) (a_:Int),v32= .int .i64 (i:Int)∧Aside0 (i<=m)∧Aside0 ((a_,D,C,P)=post_Put.packed (ch.take i) at_)∧Aside0 (QRows M wr v9 v10 v11 D C P)∧Aside0 (QEnv wA W wr wA.heap.size M (n1+1) a_)) (fun _ _ _ i _=>m - (intOf i).toNat)
      case atStart=>exact⟨0,[],[],[],at_,rfl,⟨Nat.zero_le _⟩,⟨rfl⟩,⟨⟨World.ownsRow_nil _ _ _ _,World.ownsRow_nil _ _ _ _,World.ownsRow_nil _ _ _ _,fun _ h_=>by simp[Value.ownBlock]at h_,fun _ h_=>by simp[Value.ownBlock]at h_,fun _ h_=>by simp[Value.ownBlock]at h_⟩⟩,hNE⟩
      case round=>
        obtain⟨i,D,C,P,a_,rfl,hi,hs,hr,hE⟩:=hrel
        by_cases hlt:i < m
        rotate_left
        . have g:decide ((i:Int) < (m:Int))=false:=decide_eq_false (by omega)
          have him:i=m:=by have:=hi.out;omega
          subst him
          have hpk:post_Put.packed ch at_=(a_,D,C,P):=by rw[hs.out,List.take_of_length_le (by rw[HCL.out];exact Nat.le_refl _)]
          rw[hpk]at E1 E3 E5 E6 HY
          dsimp only at E1 E3 E5 E6 HY
          have RD:Kd.R (Kd.int .u64) 48 wr M (fun _=>True) u9 D:=Kd.R_of_own hr.out.d (fun _ _=>trivial)
          have RC:Kd.R (Kd.int .u64) 48 wr M (fun _=>True) u10 C:=Kd.R_of_own hr.out.c (fun _ _=>trivial)
          have RP:Kd.R (Kd.int .u64) 48 wr M (fun _=>True) u11 P:=Kd.R_of_own hr.out.p (fun _ _=>trivial)
          obtain⟨AD,cD,rfl⟩:=Kd.R_slice RD
          obtain⟨AC,cC,rfl⟩:=Kd.R_slice RC
          obtain⟨AP,cP,rfl⟩:=Kd.R_slice RP
          have HRD:=Aside0.mk RD
          have HRC:=Aside0.mk RC
          have HRP:=Aside0.mk RP
          have HHS:=Aside0.mk hs.out
          have HHR:=Aside0.mk hr.out
          have HHE:=Aside0.mk hE.out
          clear RD RC RP hs hr hE hpk
          have hMs:=hM.out
          have hn0:=hn0M.out
          have hv1:Boxed wr n1 22 (.slice A acc.length cc):=(HHE.out.old n1 (by omega) (by omega)).trans HV.out
          have hRW:Kd.R (Kd.int .u8) 5 wr wA.heap.size (fun k=>k≠n1+1) (.slice A acc.length cc) acc:=Kd.R_step (Kd.R_of_own (Kd.own_of_R HRR.out) (fun k hk e=>HAT.out.not_row (by decide) (Kd.own_of_R HRR.out) (by rw[hk,e]))) (fun k hk hlt=>HHE.out.old k (by omega) hk)
          have HRW:=Aside0.mk hRW
          clear hRW
          have HCall1:=Aside0.mk (show Calls Try.prog 26 #[.slice none 0 0,.slice AD D.length cD] wr _ from pfor_PutBlock.calls k' none 0 [] AD cD D X1 0 wr (Kd.C_nil _ _) (Nat.le_refl _) (Kd.R_reads' HRD.out).2.2 (Kd.R_reads' HRD.out).2.1 E1.out)
          gi_wp2_with (first|(refine⟨trivial,?_⟩;gi_at_call 26;(with_reducible refine(CallsIn.inRound l (callsIn_wide.2 HCall1.out)).mono ?_);rintro e w3 ⟨v3,rfl,hR3,hB3⟩;obtain⟨A3,c3,rfl⟩:=Kd.R_slice hR3;have HR3:=Aside0.mk hR3;have HB3:=Aside0.mk hB3;clear hR3 hB3)|fail)
          gi_wp2_with (first|(refine⟨trivial,?_⟩;gi_at_call 26;(with_reducible refine(CallsIn.inRound l (callsIn_wide.2 (pfor_PutBlock.calls k' A3 c3 X1 AC cC C X2 0 w3 (Kd.R_reads' HR3.out).2.2 (Kd.R_reads' HR3.out).2.1 (Kd.R_reads' (Kd.R_below HRC.out HB3.out)).2.2 (Kd.R_reads' HRC.out).2.1 E3.out))).mono ?_);rintro e w4 ⟨v4,rfl,hR4,hB4⟩;obtain⟨A4,c4,rfl⟩:=Kd.R_slice hR4;have HR4:=Aside0.mk hR4;have HB4:=Aside0.mk (below_step HB3.out hB4);have hv4:Boxed w4 n1 22 (.slice A acc.length cc):=(HB4.out.block n1 hv1.lt).trans hv1;have hv4c:=hv4.cell;have ha4:=(HHE.out.below hn0.1 hn0.2 HB4.out).box.cell;clear hR4 hB4)|fail)
          gi_wp2_with (first|(refine⟨trivial,?_⟩;gi_at_call 24;(with_reducible refine(CallsIn.inRound l (callsIn_wide.2 (num_Put.calls k' A cc acc (IntKind.u64.wrap a_) o1 w4 (Kd.R_reads' (Kd.R_below HRW.out HB4.out)).2.2 HCAP.out E5.out))).mono ?_);rintro e w5 ⟨v5,rfl,hR5,hB5⟩;obtain⟨A5,c5,rfl⟩:=Kd.R_slice hR5;have HR5:=Aside0.mk hR5;have HB5:=Aside0.mk hB5;clear hR5 hB5)|fail)
          gi_wp2_with (first|(refine⟨trivial,?_⟩;gi_at_call 28;(with_reducible refine(CallsIn.inRound l (callsIn_wide.2 (pfor_PutList.calls k' A4 c4 X2 AP cP P bd w5 (Kd.R_reads' (Kd.R_below HR4.out HB5.out)).2.2 (Kd.R_reads' HR4.out).2.1 (Kd.R_reads' (Kd.R_below (Kd.R_below HRP.out HB4.out) HB5.out)).2.2 (Kd.R_reads' HRP.out).2.1 E6.out))).mono ?_);rintro e w6 ⟨v6,rfl,hR6,hB6⟩;obtain⟨A6,c6,rfl⟩:=Kd.R_slice hR6;have HR6:=Aside0.mk hR6;have HB6:=Aside0.mk hB6;clear hR6 hB6)|fail)
          gi_wp2_with (first|(refine⟨trivial,?_⟩;gi_at_call 27;(with_reducible refine(CallsIn.inRound l (callsIn_wide.2 (num_PutRow.calls k' A5 c5 o1 A6 c6 bd o2 w6 (Kd.R_reads' (Kd.R_below HR5.out HB6.out)).2.2 (Kd.R_reads' HR5.out).2.1 (Kd.R_reads' HR6.out).2.2 (Kd.R_reads' HR6.out).2.1 E7.out))).mono ?_);rintro e w7 ⟨v7,rfl,hR7,hB7⟩;obtain⟨A7,c7,rfl⟩:=Kd.R_slice hR7;have HR7:=Aside0.mk hR7;have HB7:=Aside0.mk (below_step (below_step (below_step HB4.out HB5.out) HB6.out) hB7);have hv7:Boxed w7 n1 22 (.slice A acc.length cc):=(HB7.out.block n1 hv1.lt).trans hv1;have hv7c:=hv7.cell;have hv7f:=hv7.frozen;clear hR7 hB7)|fail)
          have hE7:=HHE.out.below hn0.1 hn0.2 HB7.out
          have hs6:wA.heap.size<=w6.heap.size:=by
            have a1:=HHE.out.size
            have a2:=HB4.out.size
            have a3:=HB5.out.size
            have a4:=HB6.out.size
            omega
          have hown:=Kd.own_of_R (Kd.R_lower HR7.out hs6)
          have hz4:=HZ.out
          refine⟨(hE7.keeps hMs HAT.out).trans (KeepsOthers.setCell _ _ _),⟨(hE7.inW hMs HB.out).setCell (p:=⟨n1,0,none⟩) hszn _,?_,?_⟩,⟨o2,a_,_,⟨HY8.out,?_,?_⟩,hv7.set _,Kd.R_of_own (hown.kept (grownBy_setCell' w7 n1 _) (.inr (hv7.not_row (by decide) hown).symm)) (fun _ _=>trivial),hE7.box.other (by omega) _,?_⟩,hE7.bel.setCell (p:=⟨n1,0,none⟩) hszn _⟩
          . exact(Below.heap_setCell _ _ _ _ (by simp)).trans (hE7.old (n1+2) (by omega) (by omega))
          . exact(Below.heap_setCell _ _ _ _ (by simp)).trans (hE7.old (n1+3) (by omega) (by omega))
          . rw[List.length_append,List.length_singleton]
            exact qarith HP.out.out.2.1 HYL.out
          . intro he
            rw[List.map_append,List.length_append,List.length_singleton,List.map_cons,List.map_nil]at he
            have h3:=qrange_snoc (l:=pre.map (·.1)) (by rw[List.length_map];exact he)
            rw[List.length_map]at h3
            rw[List.length_append,List.length_singleton]
            have hx:=x.2
            refine post_Put.next (by have:=h3.2;omega) (HP.out.out.2.2 h3.1) (k':=k') (y:=(o2,a_)) ?_
            rw[<- h3.2]
            show post_Put.step k' acc at_ (post_Put.chunk l1 x.1)=_
            rw[hchd]
            exact HY.out
          . have:=hE7.size
            simp
            omega
        have g:decide ((i:Int) < (m:Int))=true:=decide_eq_true (by omega)
        obtain⟨ad,A3,c3,e,hx0,hx1,hl3,hi3⟩:=at_T37 HCH.out (i:Int) (by omega) (by omega)
        subst e
        rw[Int.toNat_natCast]at hx0 hx1
        have hx0:=(hE.out.bel.cell (World.block_lt_of_cell? wA _ hx0)).trans hx0
        have hx1:=(hE.out.bel.cell (World.block_lt_of_cell? wA _ hx1)).trans hx1
        have hlm:i < ch.length:=by rw[HCL.out];exact hlt
        have hrd:rd_T37 ch (i:Int)=ch[i]:=by simp[rd_T37,hlm]
        have hcl4:=HPL.out ch[i] (List.getElem_mem hlm)
        have htk:ch.take (i+1)=ch.take i++[ch[i]]:=List.take_succ_eq_append_getElem hlm
        rw[hrd]at hx0 hx1 hl3 hi3
        obtain⟨c,hc⟩:∃ c,ch[i]=c:=⟨_,rfl⟩
        rw[hc]at hx0 hx1 hl3 hi3 hcl4 htk
        obtain⟨d0,pl⟩:=c
        dsimp only at hx0 hx1 hl3 hi3 hcl4
        have HTK:=Aside0.mk htk
        have HL4:=Aside0.mk hcl4
        have HI3:=Aside0.mk hi3
        have p:=eq_true (show(0:Int)<=(i:Int) by omega)
        have q:=eq_true (show(i:Int) < (m:Int) by omega)
        have q':=eq_true hlt
        have hn0:=hn0M.out
        have hat1:∀ o,(wr.alloc o).cell? ⟨n1+1,0,none⟩=some (.int .i64 a_):=fun o=>(hE.out.alloc hn0.1 hn0.2 o).box.cell
        have hat2:∀ o o',((wr.alloc o).alloc o').cell? ⟨n1+1,0,none⟩=some (.int .i64 a_):=fun o o'=>((hE.out.alloc hn0.1 hn0.2 o).alloc hn0.1 hn0.2 o').box.cell
        have hpk:=post_Put.packed_len (ch.take i) (fun p hp=>HPL.out p (List.mem_of_mem_take hp)) at_
        rw[<- hs.out,List.length_take,Nat.min_eq_left (Nat.le_of_lt hlm)]at hpk
        dsimp only at hpk
        obtain⟨hD,hC,hP⟩:=hpk
        have hi32:i < 32:=by have:=HM.out;omega
        have hPle:P.length<=131072:=by omega
        have hszM:=hE.out.size
        have HS:=Aside0.mk hs.out
        have HR:=Aside0.mk hr.out
        have HE:=Aside0.mk hE.out
        clear htk hcl4 hi3 hl3 hrd hc hs hr hE hP
        gi_wp2_with (first|(gi_at_builtin;refine qappend_in _ rfl _ _ 52 rfl M 48 (.int .u64 0) 1 8 Try.underlying52 info48 rfl (by decide) u9 D.length (encs (Value.int .u64) D) rfl (HR.out.over (World.grownBy_alloc wr _ none)).d _ (by first|rfl|(simp only[World.size_alloc];rfl)|simp) rfl rfl (by unfold maxLen;omega) (by omega) ?sM ?_;(case sM=>simp;omega);intro v9 w3 ho3 hg3 hat3;have HQ3:=Aside0.mk ((HR.out.over (World.grownBy_alloc wr _ none)).growD hg3 ho3 hat3);have HE3:=Aside0.mk ((HE.out.alloc hn0.1 hn0.2 _).grown hn0.1 hn0.2 hg3 (fun k e=>(HR.out.d.lt k e).1));have hb3:=(QBox.new wr d0 (.slice A3 pl.length c3)).grown hg3 (qrow_ne HR.out.d);have hb3c0:=hb3.c0;have hb3c1:=hb3.c1;have HX3:=Aside0.mk hb3;have hszM3:=HE3.out.size;clear ho3 hg3 hat3 hb3)|(gi_at_builtin;refine qappend_in _ rfl _ _ 52 rfl M 48 (.int .u64 0) 1 8 Try.underlying52 info48 rfl (by decide) u10 C.length (encs (Value.int .u64) C) rfl HQ3.out.c _ (by first|rfl|(simp only[World.size_alloc];rfl)|simp) rfl rfl (by unfold maxLen;omega) (by omega) ?sM ?_;(case sM=>omega);intro v10 w4 ho4 hg4 hat4;have HQ4:=Aside0.mk (HQ3.out.growC hg4 ho4 hat4);have HE4:=Aside0.mk (HE3.out.grown hn0.1 hn0.2 hg4 (fun k e=>(HQ3.out.c.lt k e).1));have hb4:=HX3.out.grown hg4 (qrow_ne HR.out.c);have hb4c0:=hb4.c0;have hb4c1:=hb4.c1;have HX4:=Aside0.mk hb4;have hszM4:=HE4.out.size;clear ho4 hg4 hat4 hb4)|fail)
        obtain⟨pb,hpb⟩:∃ pb:Nat,Aside0 (pb=wr.heap.size):=⟨_,⟨rfl⟩⟩
        have hpM:Aside0 (M<=pb):=⟨by rw[hpb.out];exact hszM⟩
        rw[<- hpb.out]at HX4 hb4c0 hb4c1 ⊢
        clear HX3 HQ3 HE3 hb3c0 hb3c1 hszM3
        obtain⟨G1,hG1⟩:∃ G,D++[IntKind.u64.wrap (wrap64 (wrap64 (d0 - a_) - 1))]=G:=⟨_,rfl⟩
        obtain⟨G2,hG2⟩:∃ G,C++[IntKind.u64.wrap (wrap64 ((pl.length:Int) - 1))]=G:=⟨_,rfl⟩
        rw[hG1,hG2]at HQ4
        have HG1:=Aside0.mk hG1
        have HG2:=Aside0.mk hG2
        clear hG1 hG2
        gi_loopw [11,14,56] (fun v11 v14 v56 wi=>∃ (j:Nat) (P':List Int) (pv:Int),v56= .int .i64 (j:Int)∧v14= .int .i64 pv∧Aside0 (j<=pl.length)∧Aside0 ((pv,P')=(pl.take j).foldl post_Put.inner (-1,P))∧Aside0 (QRows M wi v9 v10 v11 G1 G2 P')∧Aside0 (QEnv wA W wi wA.heap.size M (n1+1) a_)∧Aside0 (QBox wi pb d0 (.slice A3 pl.length c3))) (fun _ _ j _=>pl.length - (intOf j).toNat)
        case atStart=>exact⟨0,P, -1,rfl,rfl,⟨Nat.zero_le _⟩,⟨rfl⟩,HQ4,HE4,HX4⟩
        case round=>
          obtain⟨j,P',pv,rfl,rfl,hj,hs2,hr2,hE2,hX2⟩:=hrel
          have hpl4:pl.length<=4096:=HL4.out
          by_cases hlt2:j < pl.length
          rotate_left
          . have g2:decide ((j:Int) < (pl.length:Int))=false:=decide_eq_false (by omega)
            have hjl:j=pl.length:=by have:=hj.out;omega
            have hs3:=hs2.out
            rw[hjl,List.take_length]at hs3
            have HS3:=Aside0.mk hs3
            have hx20:=hX2.out.c0
            have hb20:=hE2.out.box.cell
            have hb21:=hE2.out.box.frozen
            have HJL:=Aside0.mk hjl
            clear hs3 hjl
            gi_wp2
            go_roundw
            case rel=>exact⟨i+1,G1,G2,P',d0,by first|rfl|(rw[qinc (by omega)]),⟨hlt⟩,⟨by rw[HTK.out];unfold post_Put.packed;rw[List.foldl_append];show _=post_Put.outer (post_Put.packed (ch.take i) at_) _;rw[<- HS.out];unfold post_Put.outer;dsimp only;rw[<- HS3.out,HG1.out,HG2.out]⟩,⟨hr2.out.set hn0.2 _⟩,⟨hE2.out.set (by omega) d0⟩⟩
            case measure=>(try rw[qinc (by omega)]);simp[intOf];omega
          have g2:decide ((j:Int) < (pl.length:Int))=true:=decide_eq_true (by omega)
          obtain⟨ad2,e,hy0⟩:=Kd.at_int (Kd.C_below HI3.out hE2.out.bel) (j:Int) (by omega) (by omega)
          subst e
          rw[Int.toNat_natCast]at hy0
          have p2:=eq_true (show(0:Int)<=(j:Int) by omega)
          have q2:=eq_true (show(j:Int) < (pl.length:Int) by omega)
          have q2':=eq_true hlt2
          have hrd2:rd pl (j:Int)=pl[j]:=by simp[rd,hlt2]
          have htk2:pl.take (j+1)=pl.take j++[pl[j]]:=List.take_succ_eq_append_getElem hlt2
          rw[hrd2]at hy0
          obtain⟨x_,hx_⟩:∃ x_,pl[j]=x_:=⟨_,rfl⟩
          rw[hx_]at hy0 htk2
          have hP2:P'.length<=131072+4096:=by
            have h_:=congrArg (fun z=>z.2.length) hs2.out
            rw[post_Put.inner_len]at h_
            dsimp only at h_
            rw[List.length_take,Nat.min_eq_left (Nat.le_of_lt hlt2)]at h_
            have:=HL4.out
            omega
          have HTK2:=Aside0.mk htk2
          have hszM2:=hE2.out.size
          clear hrd2 hx_ htk2
          gi_wp2_with (first|(gi_at_builtin;refine qappend_in _ rfl _ _ 52 rfl M 48 (.int .u64 0) 1 8 Try.underlying52 info48 rfl (by decide) u11 P'.length (encs (Value.int .u64) P') rfl hr2.out.p _ (by first|rfl|(simp only[World.size_alloc];rfl)|simp) rfl rfl (by unfold maxLen;omega) (by omega) ?sM ?_;(case sM=>omega);intro v11 w5 ho5 hg5 hat5;have HQ5:=Aside0.mk (hr2.out.growP hg5 ho5 hat5);have HE5:=Aside0.mk (hE2.out.grown hn0.1 hn0.2 hg5 (fun k e=>(hr2.out.p.lt k e).1));have HX5:=Aside0.mk (hX2.out.grown hg5 (hX2.out.not_row hr2.out.p));clear ho5 hat5 hg5)|fail)
          go_roundw
          case rel=>exact⟨j+1,P'++[IntKind.u64.wrap (wrap64 (wrap64 (x_ - pv) - 1))],x_,by first|rfl|(rw[qinc (by omega)]),rfl,⟨hlt2⟩,⟨by rw[HTK2.out,List.foldl_append,<- hs2.out];rfl⟩,HQ5,HE5,HX5⟩
          case measure=>(try rw[qinc (by omega)]);simp[intOf];omega
    case done=>
      rintro D ys W hD hS ⟨⟨acc,at_,v,hp,hv,hR,hat,hz⟩,hB⟩ hK
      have hyl:ys.length=(l1.length+31) / 32:=by have:=congrArg List.length hS;simpa using this
      have hacc:=post_Put.last (by omega) (hp.out.2.2 (by rw[hyl];exact hS))
      subst hacc
      obtain⟨A,c,rfl⟩:=Kd.R_slice hR
      have hcv:=hv.cell
      have hq1:Boxed W w.heap.size 22 (.slice none 0 0):=(hB.block _ (by rw[hwAs.out];omega)).trans (by rw[hwA.out];exact(Boxed.new w 22 _).alloc _)
      have hq2 : Boxed W (w.heap.size + 1) 28 (.int .i64 0) := (hB.block _ (by rw [hwAs.out]; omega)).trans (by
        have h_:=Boxed.new (w.alloc (.cells #[.slice none 0 0] 22)) 28 (.int .i64 0)
        rw[World.size_alloc]at h_
        rw[hwA.out]
        exact h_)
      have hq1c:=hq1.cell
      have hq1f:=hq1.frozen
      have hq2c:=hq2.cell
      have hq2f:=hq2.frozen
      have HRa:=Aside0.mk hR
      have HBa:=Aside0.mk hB
      clear hR hB
      gi_wp2
      have hDn:W0.heap.size<=D:=hD
      have hwn:=hwAs.out
      have hK2:((W.setCell ⟨w.heap.size,0,none⟩ (Value.slice A acc.length c)).setCell ⟨w.heap.size+1,0,none⟩ (Value.int IntKind.i64 0)).heap[D]? =some (.deferred (some [])):=(Below.heap_setCell _ _ _ _ (show D≠w.heap.size+1 by omega)).trans ((Below.heap_setCell _ _ _ _ (show D≠w.heap.size by omega)).trans hK)
      have hb1:Boxed ((W.setCell ⟨w.heap.size,0,none⟩ (Value.slice A acc.length c)).setCell ⟨w.heap.size+1,0,none⟩ (Value.int IntKind.i64 0)) w.heap.size 22 (.slice A acc.length c):=(hq1.set _).other (by omega) _
      have hb2:Boxed ((W.setCell ⟨w.heap.size,0,none⟩ (Value.slice A acc.length c)).setCell ⟨w.heap.size+1,0,none⟩ (Value.int IntKind.i64 0)) (w.heap.size+1) 28 (.int .i64 0):=(hq2.other (by omega) _).set _
      have hown:=Kd.own_of_R HRa.out
      have hge:∀ k,(Value.slice A acc.length c).ownBlock=some k->wA.heap.size<=k:=fun k e_=>(hown.lt k e_).1
      have hown2 := (hown.kept (grownBy_setCell' W w.heap.size (Value.slice A acc.length c)) (by
        cases e_:(Value.slice A acc.length c).ownBlock with
        |none=>exact .inl rfl
        | some k => exact .inr fun e2 => by have := hge k e_; cases e2; omega)).kept (grownBy_setCell' _ (w.heap.size + 1) (Value.int IntKind.i64 0)) (by
        cases e_:(Value.slice A acc.length c).ownBlock with
        |none=>exact .inl rfl
        | some k => exact .inr fun e2 => by have := hge k e_; cases e2; omega)
      have hBf:Below w.heap.size w ((W.setCell ⟨w.heap.size,0,none⟩ (Value.slice A acc.length c)).setCell ⟨w.heap.size+1,0,none⟩ (Value.int IntKind.i64 0)):=by
        have h1:Below w.heap.size w wA:=by rw[hwA.out];exact pbA_ (pbA_ (Below.refl _ _) _) _
        exact((below_step h1 HBa.out).setCell (p:=⟨w.heap.size,0,none⟩) (Nat.le_refl _) _).setCell (p:=⟨w.heap.size+1,0,none⟩) (Nat.le_succ _) _
      generalize ((W.setCell ⟨w.heap.size,0,none⟩ (Value.slice A acc.length c)).setCell ⟨w.heap.size+1,0,none⟩ (Value.int IntKind.i64 0))=W2 at hK2 hb1 hb2 hown2 hBf ⊢
      refine⟨by simp,.inl ⟨_,_,rfl,run_takeDeferred hK2,?_⟩⟩
      have f1:∀ o,(W2.putObj D o).cell? ⟨w.heap.size,0,none⟩=some (.slice A acc.length c):=fun o=>Boxed.cell (t:=22) ((World.putObj_heap_other (by omega)).trans hb1)
      have f2:∀ o,(W2.putObj D o).cell? ⟨w.heap.size+1,0,none⟩=some (.int .i64 0):=fun o=>Boxed.cell (t:=28) ((World.putObj_heap_other (by omega)).trans hb2)
      refine⟨.tuple #[.slice A acc.length c,.int .i64 0],by simp[results,Try.results13,go_sem,f1,f2],_,rfl,?_,?_⟩
      . exact Kd.R_lower (Kd.R_of_own (ownsRow_putObj hown2 _ hK2 rfl) (fun _ _=>trivial)) (by omega)
      . exact hBf.trans (belowK_b (w:=w) (Nat.le_refl _) W2 D _ _ (by omega) hK2 rfl rfl)
end
end Go.Proofs.Ytooeclfeallkkaa.P
end
section
namespace Go.Proofs.Ytooeclfeallkkaa.P
open Go.RowKit Go.Proofs.YtooeclfeallkkaaW.PrintWords Go.Proofs.YtooeclfeallkkaaW.PrintLast Go.Proofs.YtooeclfeallkkaaW.PrintMore
attribute [local go_sem] max2_int min2_int max_two min_two max_three min_three max_four min_four
set_option linter.unusedVariables false
set_option linter.unusedSimpArgs false
def num_Take.l0:Nat->Int->Int->List Int->Int->Int->Option (Int×Int×Int)
 |0,_,_,_,_,_=>none
 |k+1,x2,x5,x34,x35,x36=>if x36 < x35 then(if 0<=x36 then(if x36 < (x34.length:Int)then(if 0<=(wrap64 (8*x36))then(num_Take.l0 k (Go.bits .or .u64 x2 (shl .u64 (IntKind.u64.wrap (rd x34 x36)) (wrap64 (8*x36)))) x5 x34 x35 (wrap64 (x36+1)))else(none))else(none))else(none))else(if x2<=247 then(some (0,0,2))else((num_size.f x2).bind fun t209=>(if t209 < x5 then(some (0,0,2))else(some (x2,wrap64 (1+x5),0)))))
def num_Take.f (k:Nat) (l0:List Int):Option (Int×Int×Int):=if(l0.length:Int)=0 then(some (0,0,3))else(if 0 < (l0.length:Int)then(if(rd l0 0)<=247 then(some (IntKind.u64.wrap (rd l0 0),1,0))else(if(wrap64 ((wrap64 (rd l0 0)) - 247)) > (wrap64 ((l0.length:Int) - 1))then(some (0,0,3))else(if 1<=(wrap64 (1+(wrap64 ((wrap64 (rd l0 0)) - 247))))then(if(wrap64 (1+(wrap64 ((wrap64 (rd l0 0)) - 247))))<=(l0.length:Int)then((some ((l0.take ((wrap64 (1+(wrap64 ((wrap64 (rd l0 0)) - 247)))):Int).toNat).drop 1:List Int)).bind fun y204=>(num_Take.l0 k 0 (wrap64 ((wrap64 (rd l0 0)) - 247)) y204 (y204.length:Int) 0))else(none))else(none))))else(none))
theorem num_Take.mono_l:∀ k,(∀ y0 y1 y2 y3 y4,LeO (num_Take.l0 k y0 y1 y2 y3 y4) (num_Take.l0 (k+1) y0 y1 y2 y3 y4))
 |0=>fun _ _ _ _ _ r h=>by simp[num_Take.l0]at h
 |k+1=>by
  have ih0:=num_Take.mono_l k
  .intro y0 y1 y2 y3 y4
   unfold num_Take.l0
   repeat' first
   |(with_reducible exact ih0 _ _ _ _ _)
   |(with_reducible exact LeO.refl _)
   |(with_reducible exact LeO.none _)
   |(with_reducible refine LeO.ite ?_ ?_)
   |(with_reducible refine LeO.bind ?_ (fun _=>?_))
theorem num_Take.mono:∀ a0 k,LeO (num_Take.f k a0) (num_Take.f (k+1) a0):=by
 intro a0 k
 have ih0:=num_Take.mono_l k
 unfold num_Take.f
 repeat' first
   |(with_reducible exact ih0 _ _ _ _ _)
   |(with_reducible exact LeO.refl _)
   |(with_reducible exact LeO.none _)
   |(with_reducible refine LeO.ite ?_ ?_)
   |(with_reducible refine LeO.bind ?_ (fun _=>?_))
set_option maxHeartbeats 8000000 in
set_option maxRecDepth 100000 in
theorem num_Take.calls (k:Nat) (A0:Option Addr) (c0:Nat) (l0:List Int) (r1:Int) (r2:Int) (r3:Int) (w:World) (hr0:Kd.C (Kd.int .u8) w A0 l0.length l0) (hc0:l0.length<=c0) (h:num_Take.f k l0=some (r1,r2,r3)):
  Calls Try.prog 55 #[.slice A0 l0.length c0] w fun e w'=>e= .returned (.tuple #[.int .u64 r1,.int .i64 r2,.int .i64 r3])∧Drawn0 w w':=by
 have HR0:=Aside0.mk hr0
 have HC0:=Aside0.mk hc0
 clear hr0 hc0
 have H:(if(l0.length:Int)=0 then(some (0,0,3))else(if 0 < (l0.length:Int)then(if(rd l0 0)<=247 then(some (IntKind.u64.wrap (rd l0 0),1,0))else(if(wrap64 ((wrap64 (rd l0 0)) - 247)) > (wrap64 ((l0.length:Int) - 1))then(some (0,0,3))else(if 1<=(wrap64 (1+(wrap64 ((wrap64 (rd l0 0)) - 247))))then(if(wrap64 (1+(wrap64 ((wrap64 (rd l0 0)) - 247))))<=(l0.length:Int)then((some ((l0.take ((wrap64 (1+(wrap64 ((wrap64 (rd l0 0)) - 247)))):Int).toNat).drop 1:List Int)).bind fun y204=>(num_Take.l0 k 0 (wrap64 ((wrap64 (rd l0 0)) - 247)) y204 (y204.length:Int) 0))else(none))else(none))))else(none)))=some (r1,r2,r3):=h
 clear h
 by_cases c2:(l0.length:Int)=0
 .rw[if_pos c2]at H
  have c2b0:=beq_iff_eq.mpr c2
  have c2b1:=bne_eq_false_iff_eq.mpr c2
  clear c2
  simp only[Option.some.injEq,Prod.mk.injEq]at H
  obtain⟨rfl,rfl,rfl⟩:=H
  go_enter Try.func55,Try.ntmps55
  go_wp2
  go_ret3
  exact⟨by first|rfl|(simp;done)|(simp[*];done),by repeat(first|exact Drawn0.refl _|apply Drawn0.step)⟩
 .rw[if_neg c2]at H
  have c2b0:=beq_eq_false_iff_ne.mpr c2
  have c2b1:=bne_iff_ne.mpr c2
  have c2b2: ¬ (l0=[]):=fun h_=>c2 (by rw[h_];rfl)
  by_cases c3:0 < (l0.length:Int)
  rotate_left
  .rw[if_neg c3]at H
   cases H
  rw[if_pos c3]at H
  have c3b0:=decide_eq_true c3
  have c3b1:decide (0 < l0.length)=true:=decide_eq_true (by omega)
  clear c3
  by_cases c4:(rd l0 0)<=247
  .rw[if_pos c4]at H
   have c4b0:=decide_eq_true c4
   clear c4
   simp only[Option.some.injEq,Prod.mk.injEq]at H
   obtain⟨rfl,rfl,rfl⟩:=H
   have p201:0<=(0:Int):=(by omega)
   have q201:0 < (l0.length:Int):=od_
   obtain⟨ad201,e201,hx201_0⟩:=Kd.at_int HR0.out 0 p201 q201
   cases e201
   have qi201:(0 < l0.length)=True:=eq_true (by omega)
   rw[show((0:Int)).toNat=0 from rfl]at hx201_0
   rw[Addr.add_zero']at hx201_0
   replace p201:=eq_true p201
   replace q201:=eq_true q201
   have p202:0<=(0:Int):=(by omega)
   have q202:0 < (l0.length:Int):=od_
   obtain⟨ad202,e202,hx202_0⟩:=Kd.at_int HR0.out 0 p202 q202
   obtain rfl:ad201=ad202:=(by injection e202)
   have qi202:(0 < l0.length)=True:=eq_true (by omega)
   rw[show((0:Int)).toNat=0 from rfl]at hx202_0
   rw[Addr.add_zero']at hx202_0
   replace p202:=eq_true p202
   replace q202:=eq_true q202
   go_enter Try.func55,Try.ntmps55
   go_wp2
   go_ret3
   exact⟨by first|rfl|(simp;done)|(simp[*];done),by repeat(first|exact Drawn0.refl _|apply Drawn0.step)⟩
  .rw[if_neg c4]at H
   have c4b0:=decide_eq_false c4
   clear c4
   by_cases c5:(wrap64 ((wrap64 (rd l0 0)) - 247)) > (wrap64 ((l0.length:Int) - 1))
   .rw[if_pos c5]at H
    have c5b0:=decide_eq_true c5
    clear c5
    simp only[Option.some.injEq,Prod.mk.injEq]at H
    obtain⟨rfl,rfl,rfl⟩:=H
    have p201:0<=(0:Int):=(by omega)
    have q201:0 < (l0.length:Int):=od_
    obtain⟨ad201,e201,hx201_0⟩:=Kd.at_int HR0.out 0 p201 q201
    cases e201
    have qi201:(0 < l0.length)=True:=eq_true (by omega)
    rw[show((0:Int)).toNat=0 from rfl]at hx201_0
    rw[Addr.add_zero']at hx201_0
    replace p201:=eq_true p201
    replace q201:=eq_true q201
    have p203:0<=(0:Int):=(by omega)
    have q203:0 < (l0.length:Int):=od_
    obtain⟨ad203,e203,hx203_0⟩:=Kd.at_int HR0.out 0 p203 q203
    obtain rfl:ad201=ad203:=(by injection e203)
    have qi203:(0 < l0.length)=True:=eq_true (by omega)
    rw[show((0:Int)).toNat=0 from rfl]at hx203_0
    rw[Addr.add_zero']at hx203_0
    replace p203:=eq_true p203
    replace q203:=eq_true q203
    go_enter Try.func55,Try.ntmps55
    go_wp2
    go_ret3
    exact⟨by first|rfl|(simp;done)|(simp[*];done),by repeat(first|exact Drawn0.refl _|apply Drawn0.step)⟩
   .rw[if_neg c5]at H
    have c5b0:=decide_eq_false c5
    clear c5
    by_cases c6:1<=(wrap64 (1+(wrap64 ((wrap64 (rd l0 0)) - 247))))
    rotate_left
    .rw[if_neg c6]at H
     cases H
    rw[if_pos c6]at H
    have c6b0:=eq_true c6
    have c6b1:=decide_eq_true c6
    by_cases c7:(wrap64 (1+(wrap64 ((wrap64 (rd l0 0)) - 247))))<=(l0.length:Int)
    rotate_left
    .rw[if_neg c7]at H
     cases H
    rw[if_pos c7]at H
    have c7b0:=eq_true c7
    have c7b1:=decide_eq_true c7
    obtain⟨y204,hy204⟩:∃ y_:List Int,y_=((l0.take ((wrap64 (1+(wrap64 ((wrap64 (rd l0 0)) - 247)))):Int).toNat).drop 1):=⟨_,rfl⟩
    replace H:(num_Take.l0 k 0 (wrap64 ((wrap64 (rd l0 0)) - 247)) y204 (y204.length:Int) 0)=some (r1,r2,r3):=hx_ hy204 H
    have Ny204:=Aside0.mk hy204
    clear hy204
    have H':=Aside0.mk H
    clear H
    have p201:0<=(0:Int):=(by omega)
    have q201:0 < (l0.length:Int):=od_
    obtain⟨ad201,e201,hx201_0⟩:=Kd.at_int HR0.out 0 p201 q201
    cases e201
    have qi201:(0 < l0.length)=True:=eq_true (by omega)
    rw[show((0:Int)).toNat=0 from rfl]at hx201_0
    rw[Addr.add_zero']at hx201_0
    replace p201:=eq_true p201
    replace q201:=eq_true q201
    have p203:0<=(0:Int):=(by omega)
    have q203:0 < (l0.length:Int):=od_
    obtain⟨ad203,e203,hx203_0⟩:=Kd.at_int HR0.out 0 p203 q203
    obtain rfl:ad201=ad203:=(by injection e203)
    have qi203:(0 < l0.length)=True:=eq_true (by omega)
    rw[show((0:Int)).toNat=0 from rfl]at hx203_0
    rw[Addr.add_zero']at hx203_0
    replace p203:=eq_true p203
    replace q203:=eq_true q203
    have q8:((wrap64 (1+(wrap64 ((wrap64 (rd l0 0)) - 247)))):Int)<=((l0.length:Int):Int):=od_
    obtain⟨i08,hi08,_,hsz8,_⟩:=info_parts info5
    have hroom8:l0.length<=c0:=HC0.out
    have hC8:Kd.C (Kd.int .u8) _ (some ad201) l0.length l0:=HR0.out
    have ql8:(1:Int)<=((wrap64 (1+(wrap64 ((wrap64 (rd l0 0)) - 247)))):Int):=od_
    have hcut8:=cut_mid (P:=Try.prog) 22 5 .i64 .i64 Try.underlying22 hi08 1 hsz8 (some ad201) l0.length c0 1 (wrap64 (1+(wrap64 ((wrap64 (rd l0 0)) - 247)))) (by omega) ql8 q8 hroom8
    have hr8:=Kd.C_mid (lo:=(1:Int).toNat) (hi:=((wrap64 (1+(wrap64 ((wrap64 (rd l0 0)) - 247)))):Int).toNat) (c:=c0) hC8 (by omega) (by omega) hroom8
    obtain⟨A8,hA8⟩:∃ A1,A1=(if c0=(1:Int).toNat then(some ad201)else((some ad201):Option Addr).map (·.add ((1:Int).toNat*1))):=⟨_,rfl⟩
    obtain⟨c8,hc8⟩:∃ c1,c1=c0 - (1:Int).toNat:=⟨_,rfl⟩
    have hy8:y204.length=((wrap64 (1+(wrap64 ((wrap64 (rd l0 0)) - 247)))):Int).toNat - (1:Int).toNat:=(by rw[Ny204.out,List.length_drop,List.length_take]<;>omega)
    rw[show((l0).take ((wrap64 (1+(wrap64 ((wrap64 (rd l0 0)) - 247)))):Int).toNat).drop (1:Int).toNat=y204 from Ny204.out.symm]at hr8
    replace hr8:Kd.C (Kd.int .u8) _ A8 y204.length y204:=(by rw[hA8];exact hr8)
    rw[<- hy8,<- hA8,<- hc8]at hcut8
    have HR207:=Aside0.mk hr8
    have HC207:=Aside0.mk (show y204.length<=c8 from by rw[hy8,hc8];exact Nat.sub_le_sub_right (Nat.le_trans (by omega) hroom8) _)
    clear hr8 hC8 hroom8 hi08 hsz8 hc8
    have KY8:=Aside0.mk hy8
    have KA8:=Aside0.mk hA8
    clear hy8 hA8
    replace q8:=eq_true q8
    go_enter Try.func55,Try.ntmps55
    go_wp2
    go_loopg [2,36] k (fun kq v2 v36 w'=>∃ (x2_1:Int) (x36_1:Int),v2= .int .u64 x2_1∧v36= .int .i64 x36_1∧Aside0 (num_Take.l0 kq x2_1 (wrap64 ((wrap64 (rd l0 0)) - 247)) y204 (y204.length:Int) x36_1=some (r1,r2,r3))∧Aside0 (kq<=k)∧Drawn0 w w')
    case atStart=>exact⟨(0),(0),rs_,rs_,H',⟨Nat.le_refl _⟩,by repeat(first|exact Drawn0.refl _|apply Drawn0.step)⟩
    case round=>
     clear H'
     clear c2 c2b0 c2b1 c2b2
     clear c3b0 c3b1
     clear c4b0
     clear c5b0 c6 c6b0 c6b1
     clear c7 c7b0 c7b1
     clear q8 hx201_0
     clear hx203_0 p201
     clear p203 q201
     clear q203
     obtain⟨x2_1,x36_1,rfl,rfl,HA,HK1,⟨m1,rfl⟩⟩:=hrel
     cases gk with
     |zero=>exact absurd HA.out (by simp[num_Take.l0])
     |succ k1=>
      have H:=HA.out
      clear HA
      simp only[num_Take.l0]at H
      by_cases c9:x36_1 < (y204.length:Int)
      rotate_left
      .rw[if_neg c9]at H
       have c9b0:=decide_eq_false c9
       clear c9
       by_cases c15:x2_1<=247
       .rw[if_pos c15]at H
        have c15b0:=decide_eq_true c15
        clear c15
        simp only[Option.some.injEq,Prod.mk.injEq]at H
        obtain⟨rfl,rfl,rfl⟩:=H
        go_wp2
        go_ret3
        exact⟨by first|rfl|(simp;done)|(simp[*];done),by repeat(first|exact Drawn0.refl _|apply Drawn0.step)⟩
       .rw[if_neg c15]at H
        have c15b0:=decide_eq_false c15
        clear c15
        replace H:=Option.bind_eq_some_iff.mp H
        obtain⟨t209,A160,H⟩:=H
        try dsimp only at H
        have A16:=Aside0.mk A160
        clear A160
        by_cases c17:t209 < (wrap64 ((wrap64 (rd l0 0)) - 247))
        rotate_left
        .rw[if_neg c17]at H
         have c17b0:=decide_eq_false c17
         clear c17
         simp only[Option.some.injEq,Prod.mk.injEq]at H
         obtain⟨rfl,rfl,rfl⟩:=H
         go_wp2_with (first|(go_at_call 44;(with_reducible refine(num_size.calls x2_1 t209 _ A16.out).mono ?_);rintro e w' ⟨rfl,⟨nd,rfl⟩⟩))
         go_ret3
         exact⟨by first|rfl|(simp;done)|(simp[*];done),by repeat(first|exact Drawn0.refl _|apply Drawn0.step)⟩
        rw[if_pos c17]at H
        have c17b0:=decide_eq_true c17
        clear c17
        simp only[Option.some.injEq,Prod.mk.injEq]at H
        obtain⟨rfl,rfl,rfl⟩:=H
        go_wp2_with (first|(go_at_call 44;(with_reducible refine(num_size.calls x2_1 t209 _ A16.out).mono ?_);rintro e w' ⟨rfl,⟨nd,rfl⟩⟩))
        go_ret3
        exact⟨by first|rfl|(simp;done)|(simp[*];done),by repeat(first|exact Drawn0.refl _|apply Drawn0.step)⟩
      rw[if_pos c9]at H
      have c9b0:=decide_eq_true c9
      clear c9
      by_cases c10:0<=x36_1
      rotate_left
      .rw[if_neg c10]at H
       cases H
      rw[if_pos c10]at H
      have c10b0:=decide_eq_true c10
      clear c10
      by_cases c11:x36_1 < (y204.length:Int)
      rotate_left
      .rw[if_neg c11]at H
       cases H
      rw[if_pos c11]at H
      have c11b0:=decide_eq_true c11
      clear c11
      obtain⟨ji12,hji12⟩:∃ j_:Int,(wrap64 (8*x36_1))=j_:=⟨_,rfl⟩
      replace H:(if 0<=(ji12)then(num_Take.l0 k1 (Go.bits .or .u64 x2_1 (shl .u64 (IntKind.u64.wrap (rd y204 x36_1)) (ji12))) (wrap64 ((wrap64 (rd l0 0)) - 247)) y204 (y204.length:Int) (wrap64 (x36_1+1)))else(none))=some (r1,r2,r3):=hj_ hji12 H
      have hji12w:(IntKind.i64.wrap (8*x36_1))=ji12:=(i64_w _).trans hji12
      by_cases c13:0<=(ji12)
      rotate_left
      .rw[if_neg c13]at H
       cases H
      rw[if_pos c13]at H
      have c13b0:=eq_true c13
      have c13b1:=decide_eq_true c13
      clear c13
      obtain⟨ji14,hji14⟩:∃ j_:Int,(shl .u64 (IntKind.u64.wrap (rd y204 x36_1)) (ji12))=j_:=⟨_,rfl⟩
      replace H:(num_Take.l0 k1 (Go.bits .or .u64 x2_1 (ji14)) (wrap64 ((wrap64 (rd l0 0)) - 247)) y204 (y204.length:Int) (wrap64 (x36_1+1)))=some (r1,r2,r3):=hj_ hji14 H
      have hji14_:(IntKind.u64.wrap ((IntKind.u64.wrap (rd y204 x36_1))*2 ^ min (ji12).toNat 64))=ji14:=hji14
      have hji14z:(ji12)<=64->(IntKind.u64.wrap ((IntKind.u64.wrap (rd y204 x36_1))*2 ^ (ji12).toNat))=ji14:=shl_small hji14
      have H':=Aside0.mk H
      clear H
      have p208:0<=(x36_1:Int):=od_
      have q208:x36_1 < (y204.length:Int):=od_
      obtain⟨ad208,e208,hx208_0⟩:=Kd.at_int HR207.out x36_1 p208 q208
      cases e208
      replace p208:=eq_true p208
      replace q208:=eq_true q208
      go_wp2
      subst hji14 hji12
      go_roundg k1
      case measure=>have:=HK1.out;omega
      case rel=>exact⟨(Go.bits .or .u64 x2_1 ((shl .u64 (IntKind.u64.wrap (rd y204 x36_1)) ((wrap64 (8*x36_1)))))),(wrap64 (x36_1+1)),(by first|rfl|(simp;done)|(simp only[<- hji14]<;>(first|rfl|simp))|(simp[*];done)),rs_,H',⟨by have:=HK1.out;omega⟩,by repeat(first|exact Drawn0.refl _|apply Drawn0.step)⟩
mutual
def bits_Unpack.j0:Nat->List Int->Int->Int->Bool->Option (List Int×Int)
 |0,_,_,_,_=>none
 |k+1,x0,x1,x2,x28=>if x28=true then(some (([]:List Int),1))else(if(x0.length:Int) < (wrap64 (Int.tdiv (wrap64 ((wrap64 (x1*x2))+7)) 8))then(some (([]:List Int),3))else(if(x0.length:Int) > (wrap64 (Int.tdiv (wrap64 ((wrap64 (x1*x2))+7)) 8))then(some (([]:List Int),2))else(if(Int.tmod (wrap64 (x1*x2)) 8) > 0 then(if 0<=(wrap64 ((wrap64 (Int.tdiv (wrap64 ((wrap64 (x1*x2))+7)) 8)) - 1))then(if(wrap64 ((wrap64 (Int.tdiv (wrap64 ((wrap64 (x1*x2))+7)) 8)) - 1)) < (x0.length:Int)then(if 0<=(Int.tmod (wrap64 (x1*x2)) 8)then(bits_Unpack.j1 k x0 x1 x2 ((shr .u8 (rd x0 (wrap64 ((wrap64 (Int.tdiv (wrap64 ((wrap64 (x1*x2))+7)) 8)) - 1))) (Int.tmod (wrap64 (x1*x2)) 8)) != 0))else(none))else(none))else(none))else(bits_Unpack.j1 k x0 x1 x2 false))))
def bits_Unpack.j1:Nat->List Int->Int->Int->Bool->Option (List Int×Int)
 |0,_,_,_,_=>none
 |k+1,x0,x1,x2,x59=>if x59=true then(some (([]:List Int),2))else(if 0<=x1 then(if(x1:Int).toNat<=35184372088832 then((some (List.replicate (x1:Int).toNat 0:List Int)).bind fun y211=>(bits_Unpack.l0 k x0 x2 y211 0 (y211.length:Int) 0))else(none))else(none))
def bits_Unpack.l0:Nat->List Int->Int->List Int->Int->Int->Int->Option (List Int×Int)
 |0,_,_,_,_,_,_=>none
 |k+1,x0,x2,x10,x11,x63,x64=>if x64 < x63 then(bits_Unpack.l1 k x0 x2 x10 x11 x64 0 x63 x64)else(some (x10,0))
def bits_Unpack.l1:Nat->List Int->Int->List Int->Int->Int->Int->Int->Int->Option (List Int×Int)
 |0,_,_,_,_,_,_,_,_=>none
 |k+1,x0,x2,x10,x11,x12,x13,x63,x64=>if x13 < x2 then(if 0<=x12 then(if x12 < (x10.length:Int)then(if 0<=(wrap64 (Int.tdiv x11 8))then(if(wrap64 (Int.tdiv x11 8)) < (x0.length:Int)then(if 0<=(Int.tmod x11 8)then(if 0<=(mn (wrap64 (x2 - x13)) (wrap64 (8 - (Int.tmod x11 8))))then(if 0<=x13 then(bits_Unpack.l1 k x0 x2 (x10.set (x12:Int).toNat (Go.bits .or .u64 (rd x10 x12) (shl .u64 (IntKind.u64.wrap (Go.bits .and .u8 (shr .u8 (rd x0 (wrap64 (Int.tdiv x11 8))) (Int.tmod x11 8)) (((shl .u8 1 (mn (wrap64 (x2 - x13)) (wrap64 (8 - (Int.tmod x11 8))))) - 1) % 256))) x13))) (wrap64 (x11+(mn (wrap64 (x2 - x13)) (wrap64 (8 - (Int.tmod x11 8)))))) x12 (wrap64 (x13+(mn (wrap64 (x2 - x13)) (wrap64 (8 - (Int.tmod x11 8)))))) x63 x64)else(none))else(none))else(none))else(none))else(none))else(none))else(none))else(bits_Unpack.l0 k x0 x2 x10 x11 x63 (wrap64 (x64+1)))
end
def bits_Unpack.f (k:Nat) (l0:List Int) (a1:Int) (a2:Int):Option (List Int×Int):=if a2 < 0 then(bits_Unpack.j0 k l0 a1 a2 true)else(if a2 > 64 then(bits_Unpack.j0 k l0 a1 a2 true)else(if a1 < 0 then(bits_Unpack.j0 k l0 a1 a2 true)else(bits_Unpack.j0 k l0 a1 a2 (decide (a1 > 4096)))))
theorem bits_Unpack.mono_l:∀ k,(∀ y0 y1 y2 y3,LeO (bits_Unpack.j0 k y0 y1 y2 y3) (bits_Unpack.j0 (k+1) y0 y1 y2 y3))∧(∀ y0 y1 y2 y3,LeO (bits_Unpack.j1 k y0 y1 y2 y3) (bits_Unpack.j1 (k+1) y0 y1 y2 y3))∧(∀ y0 y1 y2 y3 y4 y5,LeO (bits_Unpack.l0 k y0 y1 y2 y3 y4 y5) (bits_Unpack.l0 (k+1) y0 y1 y2 y3 y4 y5))∧(∀ y0 y1 y2 y3 y4 y5 y6 y7,LeO (bits_Unpack.l1 k y0 y1 y2 y3 y4 y5 y6 y7) (bits_Unpack.l1 (k+1) y0 y1 y2 y3 y4 y5 y6 y7))
 |0=>⟨fun _ _ _ _ r h=>by simp[bits_Unpack.j0]at h,fun _ _ _ _ r h=>by simp[bits_Unpack.j1]at h,fun _ _ _ _ _ _ r h=>by simp[bits_Unpack.l0]at h,fun _ _ _ _ _ _ _ _ r h=>by simp[bits_Unpack.l1]at h⟩
 |k+1=>by
  obtain⟨ih0,ih1,ih2,ih3⟩:=bits_Unpack.mono_l k
  refine⟨?_,?_,?_,?_⟩
  .intro y0 y1 y2 y3
   unfold bits_Unpack.j0
   repeat' first
   |(with_reducible exact ih0 _ _ _ _)
   |(with_reducible exact ih1 _ _ _ _)
   |(with_reducible exact ih2 _ _ _ _ _ _)
   |(with_reducible exact ih3 _ _ _ _ _ _ _ _)
   |(with_reducible exact LeO.refl _)
   |(with_reducible exact LeO.none _)
   |(with_reducible refine LeO.ite ?_ ?_)
   |(with_reducible refine LeO.bind ?_ (fun _=>?_))
  .intro y0 y1 y2 y3
   unfold bits_Unpack.j1
   repeat' first
   |(with_reducible exact ih0 _ _ _ _)
   |(with_reducible exact ih1 _ _ _ _)
   |(with_reducible exact ih2 _ _ _ _ _ _)
   |(with_reducible exact ih3 _ _ _ _ _ _ _ _)
   |(with_reducible exact LeO.refl _)
   |(with_reducible exact LeO.none _)
   |(with_reducible refine LeO.ite ?_ ?_)
   |(with_reducible refine LeO.bind ?_ (fun _=>?_))
  .intro y0 y1 y2 y3 y4 y5
   unfold bits_Unpack.l0
   repeat' first
   |(with_reducible exact ih0 _ _ _ _)
   |(with_reducible exact ih1 _ _ _ _)
   |(with_reducible exact ih2 _ _ _ _ _ _)
   |(with_reducible exact ih3 _ _ _ _ _ _ _ _)
   |(with_reducible exact LeO.refl _)
   |(with_reducible exact LeO.none _)
   |(with_reducible refine LeO.ite ?_ ?_)
   |(with_reducible refine LeO.bind ?_ (fun _=>?_))
  .intro y0 y1 y2 y3 y4 y5 y6 y7
   unfold bits_Unpack.l1
   repeat' first
   |(with_reducible exact ih0 _ _ _ _)
   |(with_reducible exact ih1 _ _ _ _)
   |(with_reducible exact ih2 _ _ _ _ _ _)
   |(with_reducible exact ih3 _ _ _ _ _ _ _ _)
   |(with_reducible exact LeO.refl _)
   |(with_reducible exact LeO.none _)
   |(with_reducible refine LeO.ite ?_ ?_)
   |(with_reducible refine LeO.bind ?_ (fun _=>?_))
theorem bits_Unpack.mono:∀ a0 a1 a2 k,LeO (bits_Unpack.f k a0 a1 a2) (bits_Unpack.f (k+1) a0 a1 a2):=by
 intro a0 a1 a2 k
 obtain⟨ih0,ih1,ih2,ih3⟩:=bits_Unpack.mono_l k
 unfold bits_Unpack.f
 repeat' first
   |(with_reducible exact ih0 _ _ _ _)
   |(with_reducible exact ih1 _ _ _ _)
   |(with_reducible exact ih2 _ _ _ _ _ _)
   |(with_reducible exact ih3 _ _ _ _ _ _ _ _)
   |(with_reducible exact LeO.refl _)
   |(with_reducible exact LeO.none _)
   |(with_reducible refine LeO.ite ?_ ?_)
   |(with_reducible refine LeO.bind ?_ (fun _=>?_))
def bits_Unpack.T19:Bool×List (List Nat×List Nat):=(true,[([],[]),([],[]),([0,1],[0,1]),([2],[2]),([],[]),([],[]),([5],[5]),([4,6],[4,6]),([7],[7]),([],[]),([9],[9]),([8,10],[8,10]),([],[]),([12],[12]),([13],[13]),([11,14],[11,14]),([15],[15]),([],[]),([16,17],[16,17]),([3,18],[3,18]),([0,1,0,1,2,3,4,5,6,7,8,9,10,11,12,13,14,15,16,17,18,19],[0,1]),([20,19,0,1,2,3,4,5,6,7,8,9,10,11,12,13,14,15,16,17,18,19],[19,20])])
def bits_Unpack.B19:List Nat:=[0,0,3,7,0,0,32,112,240,0,512,2032,0,4096,12288,32752,65520,0,262128,524287,1048575,2097151]
theorem bits_Unpack.tab19:rtab .any (opsOf Try.f76 19)=bits_Unpack.T19:=by kernel_rfl
theorem bits_Unpack.bits19:waitsOk bits_Unpack.T19.2 bits_Unpack.B19=true:=by kernel_rfl
set_option maxHeartbeats 8000000 in
set_option maxRecDepth 100000 in
theorem bits_Unpack.calls (k:Nat) (A0:Option Addr) (c0:Nat) (l0:List Int) (a1:Int) (a2:Int) (r1:List Int) (r2:Int) (w:World) (hr0:Kd.C (Kd.int .u8) w A0 l0.length l0) (hc0:l0.length<=c0) (h:bits_Unpack.f k l0 a1 a2=some (r1,r2)):
  Calls Try.prog 76 #[.slice A0 l0.length c0,.int .i64 a1,.int .i64 a2] w fun e w'=>∃ v0_:Value,e= .returned (.tuple #[v0_,.int .i64 r2])∧Kd.R (Kd.int .u64) 48 w' w.heap.size (fun _=>True) v0_ r1∧Below w.heap.size w w':=by
 have HR0:=Aside0.mk hr0
 have HC0:=Aside0.mk hc0
 clear hr0 hc0
 have HB:=Aside0.mk (Below.refl w.heap.size w)
 have H:(if a2 < 0 then(bits_Unpack.j0 k l0 a1 a2 true)else(if a2 > 64 then(bits_Unpack.j0 k l0 a1 a2 true)else(if a1 < 0 then(bits_Unpack.j0 k l0 a1 a2 true)else(bits_Unpack.j0 k l0 a1 a2 (decide (a1 > 4096))))))=some (r1,r2):=h
 clear h
 have HC4:=Aside0.mk H
 clear H
 go_enter Try.func76,Try.ntmps76
 go_upto_region 1 with (fail)
 go_cut [28] (fun v28 wc=>∃ (kq:Nat) (x28_3:Bool),v28= .bool x28_3∧Aside0 (bits_Unpack.j0 kq l0 a1 a2 x28_3=some (r1,r2))∧Aside0 (kq<=k)∧Aside0 (Below w.heap.size w wc))
 case first=>
  have H:=HC4.out
  clear HC4
  by_cases c5:a2 < 0
  .rw[if_pos c5]at H
   have c5b0:=decide_eq_true c5
   clear c5
   (first|rw[c5b0]|(simp only[i64_w,i32_w];rw[c5b0])|skip)
   have H':=Aside0.mk H
   clear H
   go_wp2
   go_meet
   case rel=>exact⟨_,(true),rs_,H',⟨by first|omega|exact Nat.le_refl _⟩,⟨bw_⟩⟩
  .rw[if_neg c5]at H
   have c5b0:=decide_eq_false c5
   clear c5
   (first|rw[c5b0]|(simp only[i64_w,i32_w];rw[c5b0])|skip)
   by_cases c6:a2 > 64
   .rw[if_pos c6]at H
    have c6b0:=decide_eq_true c6
    clear c6
    have H':=Aside0.mk H
    clear H
    go_wp2
    go_meet
    case rel=>exact⟨_,(true),rs_,H',⟨by first|omega|exact Nat.le_refl _⟩,⟨bw_⟩⟩
   .rw[if_neg c6]at H
    have c6b0:=decide_eq_false c6
    clear c6
    by_cases c7:a1 < 0
    rotate_left
    .rw[if_neg c7]at H
     have c7b0:=decide_eq_false c7
     clear c7
     have H':=Aside0.mk H
     clear H
     go_wp2
     go_meet
     case rel=>exact⟨_,(decide (a1 > 4096)),rs_,H',⟨by first|omega|exact Nat.le_refl _⟩,⟨bw_⟩⟩
    rw[if_pos c7]at H
    have c7b0:=decide_eq_true c7
    clear c7
    have H':=Aside0.mk H
    clear H
    go_wp2
    go_meet
    case rel=>exact⟨_,(true),rs_,H',⟨by first|omega|exact Nat.le_refl _⟩,⟨bw_⟩⟩
 case rest=>
  clear HC4
  obtain⟨kq,x28_3,rfl,HA,HJ3,HB⟩:=hcut
  cases kq with
  |zero=>exact absurd HA.out (by simp[bits_Unpack.j0])
  |succ kj3=>
   have H:=HA.out
   clear HA
   simp only[bits_Unpack.j0]at H
   by_cases c8:x28_3=true
   .subst c8
    rw[if_pos rfl]at H
    simp only[Option.some.injEq,Prod.mk.injEq]at H
    obtain⟨rfl,rfl⟩:=H
    go_wp2
    go_ret2
    exact⟨_,rf_,ni_,bw_⟩
   .replace c8:=Bool.eq_false_iff.mpr c8
    subst c8
    rw[if_neg (show ¬ (false=true) by decide)]at H
    by_cases c9:(l0.length:Int) < (wrap64 (Int.tdiv (wrap64 ((wrap64 (a1*a2))+7)) 8))
    .rw[if_pos c9]at H
     have c9b0:=decide_eq_true c9
     clear c9
     simp only[Option.some.injEq,Prod.mk.injEq]at H
     obtain⟨rfl,rfl⟩:=H
     go_wp2
     go_ret2
     exact⟨_,rf_,ni_,bw_⟩
    .rw[if_neg c9]at H
     have c9b0:=decide_eq_false c9
     clear c9
     by_cases c10:(l0.length:Int) > (wrap64 (Int.tdiv (wrap64 ((wrap64 (a1*a2))+7)) 8))
     .rw[if_pos c10]at H
      have c10b0:=decide_eq_true c10
      clear c10
      simp only[Option.some.injEq,Prod.mk.injEq]at H
      obtain⟨rfl,rfl⟩:=H
      go_wp2
      go_ret2
      exact⟨_,rf_,ni_,bw_⟩
     .rw[if_neg c10]at H
      have c10b0:=decide_eq_false c10
      clear c10
      have HC11:=Aside0.mk H
      clear H
      go_upto_region 9 with (fail)
      go_cut [59] (fun v59 wc=>∃ (kq:Nat) (x59_10:Bool),v59= .bool x59_10∧Aside0 (bits_Unpack.j1 kq l0 a1 a2 x59_10=some (r1,r2))∧Aside0 (kq<=kj3)∧Aside0 (Below w.heap.size w wc))
      case first=>
       have H:=HC11.out
       clear HC11
       by_cases c12:(Int.tmod (wrap64 (a1*a2)) 8) > 0
       rotate_left
       .rw[if_neg c12]at H
        have c12b0:=decide_eq_false c12
        clear c12
        (first|rw[c12b0]|(simp only[i64_w,i32_w];rw[c12b0])|skip)
        have H':=Aside0.mk H
        clear H
        go_wp2
        go_meet
        case rel=>exact⟨_,(false),rs_,H',⟨by have:=HJ3.out;first|omega|exact Nat.le_refl _⟩,⟨bw_⟩⟩
       rw[if_pos c12]at H
       have c12b0:=decide_eq_true c12
       clear c12
       (first|rw[c12b0]|(simp only[i64_w,i32_w];rw[c12b0])|skip)
       obtain⟨ji13,hji13⟩:∃ j_:Int,(wrap64 ((wrap64 (Int.tdiv (wrap64 ((wrap64 (a1*a2))+7)) 8)) - 1))=j_:=⟨_,rfl⟩
       replace H:(if 0<=(ji13)then(if(ji13) < (l0.length:Int)then(if 0<=(Int.tmod (wrap64 (a1*a2)) 8)then(bits_Unpack.j1 kj3 l0 a1 a2 ((shr .u8 (rd l0 (ji13)) (Int.tmod (wrap64 (a1*a2)) 8)) != 0))else(none))else(none))else(none))=some (r1,r2):=hj_ hji13 H
       have hji13w:(IntKind.i64.wrap ((wrap64 (Int.tdiv (wrap64 ((wrap64 (a1*a2))+7)) 8)) - 1))=ji13:=(i64_w _).trans hji13
       by_cases c14:0<=(ji13)
       rotate_left
       .rw[if_neg c14]at H
        cases H
       rw[if_pos c14]at H
       have c14b0:=decide_eq_true c14
       clear c14
       by_cases c15:(ji13) < (l0.length:Int)
       rotate_left
       .rw[if_neg c15]at H
        cases H
       rw[if_pos c15]at H
       have c15b0:=decide_eq_true c15
       clear c15
       obtain⟨ji16,hji16⟩:∃ j_:Int,(Int.tmod (wrap64 (a1*a2)) 8)=j_:=⟨_,rfl⟩
       replace H:(if 0<=(ji16)then(bits_Unpack.j1 kj3 l0 a1 a2 ((shr .u8 (rd l0 (ji13)) (ji16)) != 0))else(none))=some (r1,r2):=hj_ hji16 H
       rw[hji16]at c12b0
       by_cases c17:0<=(ji16)
       rotate_left
       .rw[if_neg c17]at H
        cases H
       rw[if_pos c17]at H
       have c17b0:=eq_true c17
       have c17b1:=decide_eq_true c17
       clear c17
       obtain⟨ji18,hji18⟩:∃ j_:Int,(shr .u8 (rd l0 (ji13)) (ji16))=j_:=⟨_,rfl⟩
       replace H:(bits_Unpack.j1 kj3 l0 a1 a2 ((ji18) != 0))=some (r1,r2):=hj_ hji18 H
       have hji18_:((rd l0 (ji13)) / 2 ^ min (ji16).toNat 8)=ji18:=hji18
       have hji18z:(ji16)<=8->((rd l0 (ji13)) / 2 ^ (ji16).toNat)=ji18:=shr_small hji18
       have H':=Aside0.mk H
       clear H
       have p210:0<=((ji13):Int):=od_
       have q210:(ji13) < (l0.length:Int):=od_
       obtain⟨ad210,e210,hx210_0⟩:=Kd.at_int HR0.out (ji13) p210 q210
       cases e210
       replace hx210_0:=cx_ HB.out rfl hx210_0
       replace p210:=eq_true p210
       replace q210:=eq_true q210
       go_wp2
       subst hji18 hji16 hji13
       go_meet
       case rel=>exact⟨_,((((shr .u8 (rd l0 ((wrap64 ((wrap64 (Int.tdiv (wrap64 ((wrap64 (a1*a2))+7)) 8)) - 1)))) ((Int.tmod (wrap64 (a1*a2)) 8)))) != 0)),(by first|rfl|(simp;done)|(simp only[<- hji18]<;>(first|rfl|simp))|(simp[*];done)),H',⟨by have:=HJ3.out;first|omega|exact Nat.le_refl _⟩,⟨bw_⟩⟩
      case rest=>
       clear HC11
       clear c9b0
       clear c10b0
       obtain⟨kq,x59_10,rfl,HA,HJ10,HB⟩:=hcut
       cases kq with
       |zero=>exact absurd HA.out (by simp[bits_Unpack.j1])
       |succ kj10=>
        have H:=HA.out
        clear HA
        simp only[bits_Unpack.j1]at H
        by_cases c19:x59_10=true
        .subst c19
         rw[if_pos rfl]at H
         simp only[Option.some.injEq,Prod.mk.injEq]at H
         obtain⟨rfl,rfl⟩:=H
         go_wp2
         go_ret2
         exact⟨_,rf_,ni_,bw_⟩
        .replace c19:=Bool.eq_false_iff.mpr c19
         subst c19
         rw[if_neg (show ¬ (false=true) by decide)]at H
         by_cases c20:0<=a1
         rotate_left
         .rw[if_neg c20]at H
          cases H
         rw[if_pos c20]at H
         have c20b0:=eq_true c20
         have c20b1:=decide_eq_true c20
         clear c20
         by_cases c21:(a1:Int).toNat<=35184372088832
         rotate_left
         .rw[if_neg c21]at H
          cases H
         rw[if_pos c21]at H
         have c21b0:=eq_true c21
         have c21b1:=decide_eq_true c21
         clear c21
         obtain⟨y211,hy211⟩:∃ y_:List Int,y_=(List.replicate (a1:Int).toNat 0):=⟨_,rfl⟩
         replace H:(bits_Unpack.l0 kj10 l0 a2 y211 0 (y211.length:Int) 0)=some (r1,r2):=hx_ hy211 H
         have Ny211:=Aside0.mk hy211
         clear hy211
         have H':=Aside0.mk H
         clear H
         go_wp2_with (first|((with_reducible refine gate_dst (N:=61) rfl ?_);refine Kd.R_make (Kd.int .u64) _ 48 rfl (N:=61) rfl 52 _ _ rfl a1 rfl rfl Try.underlying52 (.int .u64 0) 8 info48 rfl (by decide) (by omega) 0 (ok:=fun _=>True) (okp:=fun _=>True) rfl (fun _ hk=>hk) trivial od_ (Nat.le_trans (Nat.mul_le_mul_right _ (od_:a1.toNat<=35184372088832)) (by omega)) (Below.refl _ _) (Nat.le_refl _) ?_;intro v212 w22 ho23 hb hg_ hnew_;clear hg_ hnew_;(first|rw[<- Ny211.out]at ho23|(simp only[Int.reduceToNat]at ho23;rw[<- Ny211.out]at ho23));have HO213:=Aside0.mk (Kd.R_lower ho23 (pbS_ bw_));replace HB:=Aside0.mk (below_step bw_ hb);clear hb ho23;obtain⟨Ao24,co24,eo24⟩:=Kd.R_slice HO213.out;subst eo24))
         go_loopg [11,64] kj10 (fun kq v11 v64 w'=>∃ (x10_3:List Int) (x11_3:Int) (x64_3:Int),v11= .int .i64 x11_3∧v64= .int .i64 x64_3∧Aside0 (bits_Unpack.l0 kq l0 a2 x10_3 x11_3 (y211.length:Int) x64_3=some (r1,r2))∧Aside0 (kq<=kj10)∧Aside0 (Kd.R (Kd.int .u64) 48 w' w.heap.size (fun _=>True) (.slice Ao24 y211.length co24) x10_3)∧Aside0 (Below w.heap.size w w'))
         case atStart=>exact⟨(y211),(0),(0),rs_,rs_,H',⟨Nat.le_refl _⟩,⟨Kd.ru_ HO213.out⟩,⟨bw_⟩⟩
         case round=>
          clear H'
          clear c20b0 c20b1
          clear c21b0 c21b1
          obtain⟨x10_3,x11_3,x64_3,rfl,rfl,HA,HK3,HO_10,HB⟩:=hrel
          have hl10_3:=(Kd.R_reads' HO_10.out).1
          rw[hl10_3]at HO_10
          simp only[hl10_3]
          cases gk with
          |zero=>exact absurd HA.out (by simp[bits_Unpack.l0])
          |succ k3=>
           have H:=HA.out
           clear HA
           simp only[bits_Unpack.l0]at H
           by_cases c25:x64_3 < (y211.length:Int)
           rotate_left
           .rw[if_neg c25]at H
            have c25b0:=decide_eq_false c25
            ((have c25b0h:=c25b0;simp only[hl10_3]at c25b0h))
            clear c25
            simp only[Option.some.injEq,Prod.mk.injEq]at H
            obtain⟨rfl,rfl⟩:=H
            go_wp2
            go_ret2
            exact⟨_,rf_,by(with_reducible repeat(first|apply Kd.rA_|apply Kd.rN_|apply Kd.rD_));exact HO_10.out,bw_⟩
           rw[if_pos c25]at H
           have c25b0:=decide_eq_true c25
           ((have c25b0h:=c25b0;simp only[hl10_3]at c25b0h))
           clear c25
           have H':=Aside0.mk H
           clear H
           go_wp2
           go_loopg [11,13] k3 (fun kq v11 v13 w'=>∃ (x10_4:List Int) (x11_4:Int) (x13_4:Int),v11= .int .i64 x11_4∧v13= .int .i64 x13_4∧Aside0 (bits_Unpack.l1 kq l0 a2 x10_4 x11_4 x64_3 x13_4 (y211.length:Int) x64_3=some (r1,r2))∧Aside0 (kq<=k3)∧Aside0 (Kd.R (Kd.int .u64) 48 w' w.heap.size (fun _=>True) (.slice Ao24 x10_3.length co24) x10_4)∧Aside0 (Below w.heap.size w w'))
           case atStart=>exact⟨(x10_3),(x11_3),(0),rs_,rs_,H',⟨Nat.le_refl _⟩,⟨by(try simp only[hl10_3]);(with_reducible repeat(first|apply Kd.rA_|apply Kd.rN_|apply Kd.rD_));exact HO_10.out⟩,⟨bw_⟩⟩
           case round=>
            clear H'
            clear c25b0
            obtain⟨x10_4,x11_4,x13_4,rfl,rfl,HA,HK4,HO_10,HB⟩:=hrel
            have hl10_4:=(Kd.R_reads' HO_10.out).1
            rw[hl10_4]at HO_10
            simp only[hl10_4]
            cases gk with
            |zero=>exact absurd HA.out (by simp[bits_Unpack.l1])
            |succ k4=>
             have H:=HA.out
             clear HA
             simp only[bits_Unpack.l1]at H
             by_cases c26:x13_4 < a2
             rotate_left
             .rw[if_neg c26]at H
              have c26b0:=decide_eq_false c26
              clear c26
              have H':=Aside0.mk H
              clear H
              go_wp2
              simp only[<- hl10_3,<- hl10_4]
              go_roundg k4
              case measure=>have:=HJ3.out;have:=HJ10.out;have:=HK3.out;have:=HK4.out;omega
              case rel=>exact⟨(x10_4),(x11_4),(wrap64 (x64_3+1)),rs_,rs_,H',⟨by have:=HJ3.out;have:=HJ10.out;have:=HK3.out;have:=HK4.out;omega⟩,⟨by(try simp only[hl10_3]);(try simp only[hl10_4]);(with_reducible repeat(first|apply Kd.rA_|apply Kd.rN_|apply Kd.rD_));exact HO_10.out⟩,⟨bw_⟩⟩
             rw[if_pos c26]at H
             have c26b0:=decide_eq_true c26
             clear c26
             obtain⟨ji27,hji27⟩:∃ j_:Int,(mn (wrap64 (a2 - x13_4)) (wrap64 (8 - (Int.tmod x11_4 8))))=j_:=⟨_,rfl⟩
             replace H:(if 0<=x64_3 then(if x64_3 < (x10_4.length:Int)then(if 0<=(wrap64 (Int.tdiv x11_4 8))then(if(wrap64 (Int.tdiv x11_4 8)) < (l0.length:Int)then(if 0<=(Int.tmod x11_4 8)then(if 0<=(ji27)then(if 0<=x13_4 then(bits_Unpack.l1 k4 l0 a2 (x10_4.set (x64_3:Int).toNat (Go.bits .or .u64 (rd x10_4 x64_3) (shl .u64 (IntKind.u64.wrap (Go.bits .and .u8 (shr .u8 (rd l0 (wrap64 (Int.tdiv x11_4 8))) (Int.tmod x11_4 8)) (((shl .u8 1 (ji27)) - 1) % 256))) x13_4))) (wrap64 (x11_4+(ji27))) x64_3 (wrap64 (x13_4+(ji27))) (y211.length:Int) x64_3)else(none))else(none))else(none))else(none))else(none))else(none))else(none))=some (r1,r2):=hj_ hji27 H
             have hji27_:(if(wrap64 (8 - (Int.tmod x11_4 8))) < (wrap64 (a2 - x13_4))then(wrap64 (8 - (Int.tmod x11_4 8)))else(wrap64 (a2 - x13_4)))=ji27:=hji27
             by_cases c28:0<=x64_3
             rotate_left
             .rw[if_neg c28]at H
              cases H
             rw[if_pos c28]at H
             have c28b0:=decide_eq_true c28
             clear c28
             by_cases c29:x64_3 < (x10_4.length:Int)
             rotate_left
             .rw[if_neg c29]at H
              cases H
             rw[if_pos c29]at H
             have c29b0:=decide_eq_true c29
             clear c29
             obtain⟨ji30,hji30⟩:∃ j_:Int,(wrap64 (Int.tdiv x11_4 8))=j_:=⟨_,rfl⟩
             replace H:(if 0<=(ji30)then(if(ji30) < (l0.length:Int)then(if 0<=(Int.tmod x11_4 8)then(if 0<=(ji27)then(if 0<=x13_4 then(bits_Unpack.l1 k4 l0 a2 (x10_4.set (x64_3:Int).toNat (Go.bits .or .u64 (rd x10_4 x64_3) (shl .u64 (IntKind.u64.wrap (Go.bits .and .u8 (shr .u8 (rd l0 (ji30)) (Int.tmod x11_4 8)) (((shl .u8 1 (ji27)) - 1) % 256))) x13_4))) (wrap64 (x11_4+(ji27))) x64_3 (wrap64 (x13_4+(ji27))) (y211.length:Int) x64_3)else(none))else(none))else(none))else(none))else(none))=some (r1,r2):=hj_ hji30 H
             have hji30w:(IntKind.i64.wrap (Int.tdiv x11_4 8))=ji30:=(i64_w _).trans hji30
             by_cases c31:0<=(ji30)
             rotate_left
             .rw[if_neg c31]at H
              cases H
             rw[if_pos c31]at H
             have c31b0:=decide_eq_true c31
             clear c31
             by_cases c32:(ji30) < (l0.length:Int)
             rotate_left
             .rw[if_neg c32]at H
              cases H
             rw[if_pos c32]at H
             have c32b0:=decide_eq_true c32
             clear c32
             obtain⟨ji33,hji33⟩:∃ j_:Int,(Int.tmod x11_4 8)=j_:=⟨_,rfl⟩
             replace H:(if 0<=(ji33)then(if 0<=(ji27)then(if 0<=x13_4 then(bits_Unpack.l1 k4 l0 a2 (x10_4.set (x64_3:Int).toNat (Go.bits .or .u64 (rd x10_4 x64_3) (shl .u64 (IntKind.u64.wrap (Go.bits .and .u8 (shr .u8 (rd l0 (ji30)) (ji33)) (((shl .u8 1 (ji27)) - 1) % 256))) x13_4))) (wrap64 (x11_4+(ji27))) x64_3 (wrap64 (x13_4+(ji27))) (y211.length:Int) x64_3)else(none))else(none))else(none))=some (r1,r2):=hj_ hji33 H
             ((have hji27_ji33:=hji27;rw[hji33]at hji27_ji33))
             ((have hji27__ji33:=hji27_;rw[hji33]at hji27__ji33))
             by_cases c34:0<=(ji33)
             rotate_left
             .rw[if_neg c34]at H
              cases H
             rw[if_pos c34]at H
             have c34b0:=eq_true c34
             have c34b1:=decide_eq_true c34
             clear c34
             obtain⟨ji35,hji35⟩:∃ j_:Int,(shr .u8 (rd l0 (ji30)) (ji33))=j_:=⟨_,rfl⟩
             replace H:(if 0<=(ji27)then(if 0<=x13_4 then(bits_Unpack.l1 k4 l0 a2 (x10_4.set (x64_3:Int).toNat (Go.bits .or .u64 (rd x10_4 x64_3) (shl .u64 (IntKind.u64.wrap (Go.bits .and .u8 (ji35) (((shl .u8 1 (ji27)) - 1) % 256))) x13_4))) (wrap64 (x11_4+(ji27))) x64_3 (wrap64 (x13_4+(ji27))) (y211.length:Int) x64_3)else(none))else(none))=some (r1,r2):=hj_ hji35 H
             have hji35_:((rd l0 (ji30)) / 2 ^ min (ji33).toNat 8)=ji35:=hji35
             have hji35z:(ji33)<=8->((rd l0 (ji30)) / 2 ^ (ji33).toNat)=ji35:=shr_small hji35
             by_cases c36:0<=(ji27)
             rotate_left
             .rw[if_neg c36]at H
              cases H
             rw[if_pos c36]at H
             have c36b0:=eq_true c36
             have c36b1:=decide_eq_true c36
             clear c36
             obtain⟨ji37,hji37⟩:∃ j_:Int,(shl .u8 1 (ji27))=j_:=⟨_,rfl⟩
             replace H:(if 0<=x13_4 then(bits_Unpack.l1 k4 l0 a2 (x10_4.set (x64_3:Int).toNat (Go.bits .or .u64 (rd x10_4 x64_3) (shl .u64 (IntKind.u64.wrap (Go.bits .and .u8 (ji35) (((ji37) - 1) % 256))) x13_4))) (wrap64 (x11_4+(ji27))) x64_3 (wrap64 (x13_4+(ji27))) (y211.length:Int) x64_3)else(none))=some (r1,r2):=hj_ hji37 H
             have hji37_:(IntKind.u8.wrap (1*2 ^ min (ji27).toNat 8))=ji37:=hji37
             have hji37z:(ji27)<=8->(IntKind.u8.wrap (1*2 ^ (ji27).toNat))=ji37:=shl_small hji37
             have hji37u:(IntKind.u8.wrap (2 ^ min (ji27).toNat 8))=ji37:=by have h_:=hji37_;rw[Int.one_mul]at h_;exact h_
             have hji37v:(ji27)<=8->(IntKind.u8.wrap (2 ^ (ji27).toNat))=ji37:=fun hle_=>by have h_:=hji37z hle_;rw[Int.one_mul]at h_;exact h_
             by_cases c38:0<=x13_4
             rotate_left
             .rw[if_neg c38]at H
              cases H
             rw[if_pos c38]at H
             have c38b0:=eq_true c38
             have c38b1:=decide_eq_true c38
             clear c38
             obtain⟨ji39,hji39⟩:∃ j_:Int,(shl .u64 (IntKind.u64.wrap (Go.bits .and .u8 (ji35) (((ji37) - 1) % 256))) x13_4)=j_:=⟨_,rfl⟩
             replace H:(bits_Unpack.l1 k4 l0 a2 (x10_4.set (x64_3:Int).toNat (Go.bits .or .u64 (rd x10_4 x64_3) (ji39))) (wrap64 (x11_4+(ji27))) x64_3 (wrap64 (x13_4+(ji27))) (y211.length:Int) x64_3)=some (r1,r2):=hj_ hji39 H
             have hji39_:(IntKind.u64.wrap ((IntKind.u64.wrap (Go.bits .and .u8 (ji35) (((ji37) - 1) % 256)))*2 ^ min x13_4.toNat 64))=ji39:=hji39
             have hji39z:x13_4<=64->(IntKind.u64.wrap ((IntKind.u64.wrap (Go.bits .and .u8 (ji35) (((ji37) - 1) % 256)))*2 ^ x13_4.toNat))=ji39:=shl_small hji39
             obtain⟨y216,hy216⟩:∃ y_:List Int,y_=(x10_4.set (x64_3:Int).toNat (Go.bits .or .u64 (rd x10_4 x64_3) (ji39))):=⟨_,rfl⟩
             replace H:(bits_Unpack.l1 k4 l0 a2 y216 (wrap64 (x11_4+(ji27))) x64_3 (wrap64 (x13_4+(ji27))) (y211.length:Int) x64_3)=some (r1,r2):=hx_ hy216 H
             have Ny216:=Aside0.mk hy216
             clear hy216
             have H':=Aside0.mk H
             clear H
             try go_wp2
             have n0_:=Aside0.mk (Kd.rD_ HO_10.out)
             have n1_:=Aside0.mk (pb1_ HB.out)
             clear HO_10
             clear HB
             have HO_10:=n0_
             have HB:=n1_
             clear n0_ n1_
             have p214:0<=(x64_3:Int):=od_
             have q214:x64_3 < (x10_4.length:Int):=od_
             obtain⟨ad214,e214,hx214_0⟩:=Kd.at_int (Kd.R_reads' HO_10.out).2.2 x64_3 p214 q214
             cases e214
             replace p214:=eq_true p214
             replace q214:=eq_true q214
             have p215:0<=((ji30):Int):=od_
             have q215:(ji30) < (l0.length:Int):=od_
             obtain⟨ad215,e215,hx215_0⟩:=Kd.at_int HR0.out (ji30) p215 q215
             have hw215_0:=hx215_0
             cases e215
             replace hx215_0:=cx_ HB.out rfl hx215_0
             replace p215:=eq_true p215
             replace q215:=eq_true q215
             have p40:0<=(x64_3:Int):=od_
             have q40:(x64_3:Int) < ((x10_4.length:Int):Int):=od_
             obtain⟨go40,co40,eo40,gb40,gl40,cl40,HG40⟩:=Kd.R_form HO_10.out (by omega)
             (first|cases eo40|(injection eo40 with ea_ en_ ec_;(first|subst ea_|(injection ea_ with ea_;subst ea_));subst ec_;clear en_))
             have GB40:=Aside0.mk gb40
             have GG40:=Aside0.mk HG40
             clear gb40 gl40 HG40
             (first|simp only[add_plain]at hx214_0|skip)
             obtain⟨hx40_0,hf40_0⟩:=Kd.R_celln 0 HO_10.out (x64_3:Int) p40 q40
             replace p40:=eq_true p40
             replace q40:=eq_true q40
             have HP42:=Kd.R_putn HO_10.out (x64_3:Int) (Go.bits .or .u64 (rd x10_4 x64_3) (ji39))
             rw[<- Ny216.out]at HP42
             have HQ42:=Aside0.mk HP42
             clear HP42
             refine start_ (n:=22) (S:=fun w'=>w'.cell? ⟨go40,(x64_3).toNat,none⟩=some (.int .u64 (rd x10_4 x64_3))∧w'.cell? (ad215.add ((ji30)).toNat)=some (.int .u8 (rd l0 (ji30)))) (ds:=[21]) #[false,false,false,false,false,false,false,false,false,false,false,false,false,false,false,false,false,false,false,false,false,false] (by kernel_rfl) rfl rfl ⟨hx214_0,(cx_ HB.out rfl hw215_0)⟩ (fun hHeld=>?_);refine with_tabW bits_Unpack.tab19 bits_Unpack.bits19 (fun HT_ HW_=>?_)
             generalize wr.drew=w41 at HO_10 HB GG40 HQ42 hf40_0 hx214_0 hx215_0 hx40_0 hHeld ⊢
             refine pv_ (i:=0) (N:=some 77) HT_ ?_
             refine pv_ (i:=1) (N:=some 78) HT_ ?_
             refine pv_ (i:=2) (N:=some 79) HT_ ?_
             refine pv_ (i:=4) (N:=some 81) HT_ ?_
             refine pv_ (i:=5) (N:=some 82) HT_ ?_
             refine pv_ (i:=6) (N:=some 83) HT_ ?_
             refine pv_ (i:=7) (N:=some 84) HT_ ?_
             refine pv_ (i:=9) (N:=some 86) HT_ ?_
             refine pv_ (i:=10) (N:=some 87) HT_ ?_
             refine pv_ (i:=12) (N:=some 89) HT_ ?_
             refine pv_ (i:=13) (N:=some 90) HT_ ?_
             refine pv_ (i:=14) (N:=some 91) HT_ ?_
             refine pv_ (i:=17) (N:=some 94) HT_ ?_
             refine tv_ (i:=3) (N:=some 80) HT_ HW_ hHeld ?_
             refine tv_ (i:=8) (N:=some 85) HT_ HW_ hHeld ?_
             refine pv_ (i:=11) (N:=some 88) HT_ ?_
             refine pv_ (i:=15) (N:=some 92) HT_ ?_
             refine pv_ (i:=16) (N:=some 93) HT_ ?_
             refine pv_ (i:=18) (N:=some 95) HT_ ?_
             refine pv_ (i:=19) (N:=some 96) HT_ ?_
             refine pv_ (i:=20) (N:=some 97) HT_ ?_
             refine last_ (i:=21) (N:=none) #[tT,tT,tT,tT,tT,tT,tT,tT,tT,tT,tT,tT,tT,tT,tT,tT,tT,tT,tT,tT,tT,tT] rfl rfl (one_of HT_.out (by kernel_rfl)) (by decide) (fun K hK=>?_)
             refine skip_ (w1:=?_) (by rfl) rfl ?_ ?_
             rotate_left
             .go_simp
              rfl
             refine hK.out _ _ ?_
             clear hK K
             refine done_ (done_of HT_.out (by kernel_rfl)) ?_
             try go_wp2
             simp only[<- hl10_4]
             subst hji39 hji37 hji35 hji33 hji30 hji27
             go_roundg k4
             case measure=>have:=HJ3.out;have:=HJ10.out;have:=HK3.out;have:=HK4.out;omega
             case rel=>exact⟨(y216),(wrap64 (x11_4+((mn (wrap64 (a2 - x13_4)) (wrap64 (8 - (Int.tmod x11_4 8))))))),(wrap64 (x13_4+((mn (wrap64 (a2 - x13_4)) (wrap64 (8 - (Int.tmod x11_4 8))))))),(by first|rfl|(simp;done)|(simp only[<- hji27]<;>(first|rfl|simp))|(simp[*];done)),(by first|rfl|(simp;done)|(simp only[<- hji27]<;>(first|rfl|simp))|(simp[*];done)),H',⟨by have:=HJ3.out;have:=HJ10.out;have:=HK3.out;have:=HK4.out;omega⟩,⟨by(try simp only[hl10_3]);(try simp only[hl10_4]);(with_reducible repeat(first|apply Kd.rA_|apply Kd.rN_|apply Kd.rD_));exact HQ42.out⟩,⟨by repeat(first|(with_reducible first|exact HB.out|apply pbA_|apply pbN_|apply pb1_|refine below_set ?_ GB40.out)|exact HB.out)⟩⟩
mutual
def pfor_read.j0:Nat->List Int->Bool->Option (List Int×Int×Bool)
 |0,_,_=>none
 |k+1,x0,x33=>if x33=true then(some (([]:List Int),0,false))else(if 0 < (x0.length:Int)then(if 1<=(x0.length:Int)then((num_Take.f k (x0.drop 1)).bind fun bt221=>(if bt221.2.2=0 then(if(x0.length:Int) < (wrap64 ((wrap64 (1+bt221.2.1))+2))then(pfor_read.j1 k x0 (wrap64 (rd x0 0)) bt221.1 (wrap64 (1+bt221.2.1)) true)else(if 0<=(wrap64 (1+bt221.2.1))then(if(wrap64 (1+bt221.2.1)) < (x0.length:Int)then(if(rd x0 (wrap64 (1+bt221.2.1))) > 64 then(pfor_read.j1 k x0 (wrap64 (rd x0 0)) bt221.1 (wrap64 (1+bt221.2.1)) true)else(if 0<=(wrap64 ((wrap64 (1+bt221.2.1))+1))then(if(wrap64 ((wrap64 (1+bt221.2.1))+1)) < (x0.length:Int)then(pfor_read.j1 k x0 (wrap64 (rd x0 0)) bt221.1 (wrap64 (1+bt221.2.1)) (decide ((wrap64 (rd x0 (wrap64 ((wrap64 (1+bt221.2.1))+1)))) > (wrap64 (rd x0 0)))))else(none))else(none)))else(none))else(none)))else(pfor_read.j1 k x0 (wrap64 (rd x0 0)) bt221.1 (wrap64 (1+bt221.2.1)) true)))else(none))else(none))
def pfor_read.j1:Nat->List Int->Int->Int->Int->Bool->Option (List Int×Int×Bool)
 |0,_,_,_,_,_=>none
 |k+1,x0,x5,x6,x9,x72=>if x72=true then(some (([]:List Int),0,false))else(if 0<=x9 then(if x9 < (x0.length:Int)then(if 0<=(wrap64 (x9+1))then(if(wrap64 (x9+1)) < (x0.length:Int)then(if(wrap64 ((wrap64 (x9+2))+(wrap64 (Int.tdiv (wrap64 ((wrap64 (x5*(wrap64 (rd x0 x9))))+7)) 8)))) > (x0.length:Int)then(some (([]:List Int),0,false))else(if 0<=(wrap64 (x9+2))then(if(wrap64 (x9+2))<=(wrap64 ((wrap64 (x9+2))+(wrap64 (Int.tdiv (wrap64 ((wrap64 (x5*(wrap64 (rd x0 x9))))+7)) 8))))then(if(wrap64 ((wrap64 (x9+2))+(wrap64 (Int.tdiv (wrap64 ((wrap64 (x5*(wrap64 (rd x0 x9))))+7)) 8))))<=(x0.length:Int)then((bits_Unpack.f k ((x0.take ((wrap64 ((wrap64 (x9+2))+(wrap64 (Int.tdiv (wrap64 ((wrap64 (x5*(wrap64 (rd x0 x9))))+7)) 8)))):Int).toNat).drop ((wrap64 (x9+2)):Int).toNat) x5 (wrap64 (rd x0 x9))).bind fun bt229=>(if bt229.2=0 then(pfor_read.l0 k x0 x5 x6 (wrap64 ((wrap64 (x9+2))+(wrap64 (Int.tdiv (wrap64 ((wrap64 (x5*(wrap64 (rd x0 x9))))+7)) 8)))) (wrap64 (rd x0 x9)) (wrap64 (rd x0 (wrap64 (x9+1)))) bt229.1)else(some (([]:List Int),0,false))))else(none))else(none))else(none)))else(none))else(none))else(none))else(none))
def pfor_read.l0:Nat->List Int->Int->Int->Int->Int->Int->List Int->Option (List Int×Int×Bool)
 |0,_,_,_,_,_,_,_=>none
 |k+1,x0,x5,x6,x9,x10,x11,x13=>if x11 > 0 then(if x9≥(x0.length:Int)then(pfor_read.j3 k x0 x5 x6 x9 x10 x11 x13 true)else(if 0<=x9 then(if x9 < (x0.length:Int)then(if(wrap64 (rd x0 x9))≥x5 then(pfor_read.j3 k x0 x5 x6 x9 x10 x11 x13 true)else(pfor_read.j3 k x0 x5 x6 x9 x10 x11 x13 (x10==64)))else(none))else(none)))else(pfor_read.l1 k x6 x9 x13 (x13.length:Int) 0)
def pfor_read.j3:Nat->List Int->Int->Int->Int->Int->Int->List Int->Bool->Option (List Int×Int×Bool)
 |0,_,_,_,_,_,_,_,_=>none
 |k+1,x0,x5,x6,x9,x10,x11,x13,x130=>if x130=true then(some (([]:List Int),0,false))else(if 0<=x9 then(if x9 < (x0.length:Int)then(if 0<=(wrap64 (x9+1))then(if(wrap64 (x9+1))<=(x0.length:Int)then((num_Take.f k (x0.drop ((wrap64 (x9+1)):Int).toNat)).bind fun bt236=>(if bt236.2.2=0 then(if 0<=(wrap64 (rd x0 x9))then(if(wrap64 (rd x0 x9)) < (x13.length:Int)then(if 0<=x10 then(pfor_read.l0 k x0 x5 x6 (wrap64 (x9+(wrap64 (1+bt236.2.1)))) x10 (wrap64 (x11 - 1)) (x13.set ((wrap64 (rd x0 x9)):Int).toNat (IntKind.u64.wrap ((rd x13 (wrap64 (rd x0 x9)))+(shl .u64 bt236.1 x10)))))else(none))else(none))else(none))else(some (([]:List Int),0,false))))else(none))else(none))else(none))else(none))
def pfor_read.l1:Nat->Int->Int->List Int->Int->Int->Option (List Int×Int×Bool)
 |0,_,_,_,_,_=>none
 |k+1,x6,x9,x13,x161,x162=>if x162 < x161 then(if 0<=x162 then(if x162 < (x13.length:Int)then(pfor_read.l1 k x6 x9 (x13.set (x162:Int).toNat (IntKind.u64.wrap ((rd x13 x162)+x6))) x161 (wrap64 (x162+1)))else(none))else(none))else(some (x13,x9,true))
end
def pfor_read.f (k:Nat) (l0:List Int):Option (List Int×Int×Bool):=if(l0.length:Int) < 1 then(pfor_read.j0 k l0 true)else(if 0 < (l0.length:Int)then(if(rd l0 0) < 1 then(pfor_read.j0 k l0 true)else(pfor_read.j0 k l0 (decide ((rd l0 0) > 32))))else(none))
theorem pfor_read.mono_l:∀ k,(∀ y0 y1,LeO (pfor_read.j0 k y0 y1) (pfor_read.j0 (k+1) y0 y1))∧(∀ y0 y1 y2 y3 y4,LeO (pfor_read.j1 k y0 y1 y2 y3 y4) (pfor_read.j1 (k+1) y0 y1 y2 y3 y4))∧(∀ y0 y1 y2 y3 y4 y5 y6,LeO (pfor_read.l0 k y0 y1 y2 y3 y4 y5 y6) (pfor_read.l0 (k+1) y0 y1 y2 y3 y4 y5 y6))∧(∀ y0 y1 y2 y3 y4 y5 y6 y7,LeO (pfor_read.j3 k y0 y1 y2 y3 y4 y5 y6 y7) (pfor_read.j3 (k+1) y0 y1 y2 y3 y4 y5 y6 y7))∧(∀ y0 y1 y2 y3 y4,LeO (pfor_read.l1 k y0 y1 y2 y3 y4) (pfor_read.l1 (k+1) y0 y1 y2 y3 y4))
 |0=>⟨fun _ _ r h=>by simp[pfor_read.j0]at h,fun _ _ _ _ _ r h=>by simp[pfor_read.j1]at h,fun _ _ _ _ _ _ _ r h=>by simp[pfor_read.l0]at h,fun _ _ _ _ _ _ _ _ r h=>by simp[pfor_read.j3]at h,fun _ _ _ _ _ r h=>by simp[pfor_read.l1]at h⟩
 |k+1=>by
  obtain⟨ih0,ih1,ih2,ih3,ih4⟩:=pfor_read.mono_l k
  refine⟨?_,?_,?_,?_,?_⟩
  .intro y0 y1
   unfold pfor_read.j0
   repeat' first
   |(with_reducible exact ih0 _ _)
   |(with_reducible exact ih1 _ _ _ _ _)
   |(with_reducible exact ih2 _ _ _ _ _ _ _)
   |(with_reducible exact ih3 _ _ _ _ _ _ _ _)
   |(with_reducible exact ih4 _ _ _ _ _)
   |(with_reducible exact bits_Unpack.mono _ _ _ _)
   |(with_reducible exact num_Take.mono _ _)
   |(with_reducible exact LeO.refl _)
   |(with_reducible exact LeO.none _)
   |(with_reducible refine LeO.ite ?_ ?_)
   |(with_reducible refine LeO.bind ?_ (fun _=>?_))
  .intro y0 y1 y2 y3 y4
   unfold pfor_read.j1
   repeat' first
   |(with_reducible exact ih0 _ _)
   |(with_reducible exact ih1 _ _ _ _ _)
   |(with_reducible exact ih2 _ _ _ _ _ _ _)
   |(with_reducible exact ih3 _ _ _ _ _ _ _ _)
   |(with_reducible exact ih4 _ _ _ _ _)
   |(with_reducible exact bits_Unpack.mono _ _ _ _)
   |(with_reducible exact num_Take.mono _ _)
   |(with_reducible exact LeO.refl _)
   |(with_reducible exact LeO.none _)
   |(with_reducible refine LeO.ite ?_ ?_)
   |(with_reducible refine LeO.bind ?_ (fun _=>?_))
  .intro y0 y1 y2 y3 y4 y5 y6
   unfold pfor_read.l0
   repeat' first
   |(with_reducible exact ih0 _ _)
   |(with_reducible exact ih1 _ _ _ _ _)
   |(with_reducible exact ih2 _ _ _ _ _ _ _)
   |(with_reducible exact ih3 _ _ _ _ _ _ _ _)
   |(with_reducible exact ih4 _ _ _ _ _)
   |(with_reducible exact bits_Unpack.mono _ _ _ _)
   |(with_reducible exact num_Take.mono _ _)
   |(with_reducible exact LeO.refl _)
   |(with_reducible exact LeO.none _)
   |(with_reducible refine LeO.ite ?_ ?_)
   |(with_reducible refine LeO.bind ?_ (fun _=>?_))
  .intro y0 y1 y2 y3 y4 y5 y6 y7
   unfold pfor_read.j3
   repeat' first
   |(with_reducible exact ih0 _ _)
   |(with_reducible exact ih1 _ _ _ _ _)
   |(with_reducible exact ih2 _ _ _ _ _ _ _)
   |(with_reducible exact ih3 _ _ _ _ _ _ _ _)
   |(with_reducible exact ih4 _ _ _ _ _)
   |(with_reducible exact bits_Unpack.mono _ _ _ _)
   |(with_reducible exact num_Take.mono _ _)
   |(with_reducible exact LeO.refl _)
   |(with_reducible exact LeO.none _)
   |(with_reducible refine LeO.ite ?_ ?_)
   |(with_reducible refine LeO.bind ?_ (fun _=>?_))
  .intro y0 y1 y2 y3 y4
   unfold pfor_read.l1
   repeat' first
   |(with_reducible exact ih0 _ _)
   |(with_reducible exact ih1 _ _ _ _ _)
   |(with_reducible exact ih2 _ _ _ _ _ _ _)
   |(with_reducible exact ih3 _ _ _ _ _ _ _ _)
   |(with_reducible exact ih4 _ _ _ _ _)
   |(with_reducible exact bits_Unpack.mono _ _ _ _)
   |(with_reducible exact num_Take.mono _ _)
   |(with_reducible exact LeO.refl _)
   |(with_reducible exact LeO.none _)
   |(with_reducible refine LeO.ite ?_ ?_)
   |(with_reducible refine LeO.bind ?_ (fun _=>?_))
theorem pfor_read.mono:∀ a0 k,LeO (pfor_read.f k a0) (pfor_read.f (k+1) a0):=by
 intro a0 k
 obtain⟨ih0,ih1,ih2,ih3,ih4⟩:=pfor_read.mono_l k
 unfold pfor_read.f
 repeat' first
   |(with_reducible exact ih0 _ _)
   |(with_reducible exact ih1 _ _ _ _ _)
   |(with_reducible exact ih2 _ _ _ _ _ _ _)
   |(with_reducible exact ih3 _ _ _ _ _ _ _ _)
   |(with_reducible exact ih4 _ _ _ _ _)
   |(with_reducible exact bits_Unpack.mono _ _ _ _)
   |(with_reducible exact num_Take.mono _ _)
   |(with_reducible exact LeO.refl _)
   |(with_reducible exact LeO.none _)
   |(with_reducible refine LeO.ite ?_ ?_)
   |(with_reducible refine LeO.bind ?_ (fun _=>?_))
def pfor_read.T8:Bool×List (List Nat×List Nat):=(true,[([],[]),([],[]),([0,1],[0,1]),([2],[2]),([3],[3]),([],[]),([],[]),([6],[6]),([5,7],[5,7]),([8],[8]),([9],[9]),([4,0,1,2,3,4],[4]),([10,11,0,1,2,3,4,5,6,7,8,9,10,11],[10])])
def pfor_read.B8:List Nat:=[0,0,3,7,15,0,0,64,224,480,992,31,4095]
theorem pfor_read.tab8:rtab .any (opsOf Try.f69 8)=pfor_read.T8:=by kernel_rfl
theorem pfor_read.bits8:waitsOk pfor_read.T8.2 pfor_read.B8=true:=by kernel_rfl
def pfor_read.T25:Bool×List (List Nat×List Nat):=(true,[([],[]),([],[]),([0,1],[0,1]),([2],[2]),([],[]),([],[]),([4,5],[4,5]),([3,6],[3,6]),([0,1,0,1,2,3,4,5,6,7],[0,1]),([8,7,0,1,2,3,4,5,6,7],[7,8])])
def pfor_read.B25:List Nat:=[0,0,3,7,0,0,48,127,255,511]
theorem pfor_read.tab25:rtab .any (opsOf Try.f69 25)=pfor_read.T25:=by kernel_rfl
theorem pfor_read.bits25:waitsOk pfor_read.T25.2 pfor_read.B25=true:=by kernel_rfl
set_option maxHeartbeats 8000000 in
set_option maxRecDepth 100000 in
theorem pfor_read.calls (k:Nat) (A0:Option Addr) (c0:Nat) (l0:List Int) (r1:List Int) (r2:Int) (r3:Bool) (w:World) (hr0:Kd.C (Kd.int .u8) w A0 l0.length l0) (hc0:l0.length<=c0) (h:pfor_read.f k l0=some (r1,r2,r3)):
  Calls Try.prog 69 #[.slice A0 l0.length c0] w fun e w'=>∃ v0_:Value,e= .returned (.tuple #[v0_,.int .i64 r2,.bool r3])∧Kd.R (Kd.int .u64) 48 w' w.heap.size (fun _=>True) v0_ r1∧Below w.heap.size w w':=by
 have HR0:=Aside0.mk hr0
 have HC0:=Aside0.mk hc0
 clear hr0 hc0
 have HB:=Aside0.mk (Below.refl w.heap.size w)
 have H:(if(l0.length:Int) < 1 then(pfor_read.j0 k l0 true)else(if 0 < (l0.length:Int)then(if(rd l0 0) < 1 then(pfor_read.j0 k l0 true)else(pfor_read.j0 k l0 (decide ((rd l0 0) > 32))))else(none)))=some (r1,r2,r3):=h
 clear h
 have HC2:=Aside0.mk H
 clear H
 go_enter Try.func69,Try.ntmps69
 go_upto_region 1 with (fail)
 go_cut [33] (fun v33 wc=>∃ (kq:Nat) (x33_1:Bool),v33= .bool x33_1∧Aside0 (pfor_read.j0 kq l0 x33_1=some (r1,r2,r3))∧Aside0 (kq<=k)∧Aside0 (Below w.heap.size w wc))
 case first=>
  have H:=HC2.out
  clear HC2
  by_cases c3:(l0.length:Int) < 1
  .rw[if_pos c3]at H
   have c3b0:=decide_eq_true c3
   have c3b1:decide (l0.length < 1)=true:=decide_eq_true (by omega)
   clear c3
   (first|rw[c3b0]|(simp only[i64_w,i32_w];rw[c3b0])|skip)
   have H':=Aside0.mk H
   clear H
   go_wp2
   go_meet
   case rel=>exact⟨_,(true),rs_,H',⟨by first|omega|exact Nat.le_refl _⟩,⟨bw_⟩⟩
  .rw[if_neg c3]at H
   have c3b0:=decide_eq_false c3
   have c3b1:decide (l0.length < 1)=false:=decide_eq_false (by omega)
   clear c3
   (first|rw[c3b0]|(simp only[i64_w,i32_w];rw[c3b0])|skip)
   by_cases c4:0 < (l0.length:Int)
   rotate_left
   .rw[if_neg c4]at H
    cases H
   rw[if_pos c4]at H
   have c4b0:=decide_eq_true c4
   have c4b1:decide (0 < l0.length)=true:=decide_eq_true (by omega)
   clear c4
   by_cases c5:(rd l0 0) < 1
   .rw[if_pos c5]at H
    have c5b0:=decide_eq_true c5
    clear c5
    have H':=Aside0.mk H
    clear H
    have p217:0<=(0:Int):=(by omega)
    have q217:0 < (l0.length:Int):=od_
    obtain⟨ad217,e217,hx217_0⟩:=Kd.at_int HR0.out 0 p217 q217
    cases e217
    have qi217:(0 < l0.length)=True:=eq_true (by omega)
    rw[show((0:Int)).toNat=0 from rfl]at hx217_0
    rw[Addr.add_zero']at hx217_0
    replace hx217_0:=cx_ HB.out rfl hx217_0
    replace p217:=eq_true p217
    replace q217:=eq_true q217
    go_wp2
    go_meet
    case rel=>exact⟨_,(true),rs_,H',⟨by first|omega|exact Nat.le_refl _⟩,⟨bw_⟩⟩
   .rw[if_neg c5]at H
    have c5b0:=decide_eq_false c5
    clear c5
    have H':=Aside0.mk H
    clear H
    have p217:0<=(0:Int):=(by omega)
    have q217:0 < (l0.length:Int):=od_
    obtain⟨ad217,e217,hx217_0⟩:=Kd.at_int HR0.out 0 p217 q217
    cases e217
    have qi217:(0 < l0.length)=True:=eq_true (by omega)
    rw[show((0:Int)).toNat=0 from rfl]at hx217_0
    rw[Addr.add_zero']at hx217_0
    replace hx217_0:=cx_ HB.out rfl hx217_0
    replace p217:=eq_true p217
    replace q217:=eq_true q217
    have p218:0<=(0:Int):=(by omega)
    have q218:0 < (l0.length:Int):=od_
    obtain⟨ad218,e218,hx218_0⟩:=Kd.at_int HR0.out 0 p218 q218
    obtain rfl:ad217=ad218:=(by injection e218)
    have qi218:(0 < l0.length)=True:=eq_true (by omega)
    rw[show((0:Int)).toNat=0 from rfl]at hx218_0
    rw[Addr.add_zero']at hx218_0
    replace hx218_0:=cx_ HB.out rfl hx218_0
    replace p218:=eq_true p218
    replace q218:=eq_true q218
    go_wp2
    go_meet
    case rel=>exact⟨_,(decide ((rd l0 0) > 32)),rs_,H',⟨by first|omega|exact Nat.le_refl _⟩,⟨bw_⟩⟩
 case rest=>
  clear HC2
  obtain⟨kq,x33_1,rfl,HA,HJ1,HB⟩:=hcut
  cases kq with
  |zero=>exact absurd HA.out (by simp[pfor_read.j0])
  |succ kj1=>
   have H:=HA.out
   clear HA
   simp only[pfor_read.j0]at H
   by_cases c6:x33_1=true
   .subst c6
    rw[if_pos rfl]at H
    simp only[Option.some.injEq,Prod.mk.injEq]at H
    obtain⟨rfl,rfl,rfl⟩:=H
    go_wp2
    go_ret3
    exact⟨_,rf_,ni_,bw_⟩
   .replace c6:=Bool.eq_false_iff.mpr c6
    subst c6
    rw[if_neg (show ¬ (false=true) by decide)]at H
    by_cases c7:0 < (l0.length:Int)
    rotate_left
    .rw[if_neg c7]at H
     cases H
    rw[if_pos c7]at H
    have c7b0:=decide_eq_true c7
    have c7b1:decide (0 < l0.length)=true:=decide_eq_true (by omega)
    clear c7
    by_cases c8:1<=(l0.length:Int)
    rotate_left
    .rw[if_neg c8]at H
     cases H
    rw[if_pos c8]at H
    have c8b0:=eq_true c8
    have c8b1:=decide_eq_true c8
    clear c8
    replace H:=Option.bind_eq_some_iff.mp H
    obtain⟨⟨t221,t222,t223⟩,A90,H⟩:=H
    try dsimp only at H
    have A9:=Aside0.mk A90
    clear A90
    have HC10:=Aside0.mk H
    clear H
    have p219:0<=(0:Int):=(by omega)
    have q219:0 < (l0.length:Int):=od_
    obtain⟨ad219,e219,hx219_0⟩:=Kd.at_int HR0.out 0 p219 q219
    cases e219
    have qi219:(0 < l0.length)=True:=eq_true (by omega)
    rw[show((0:Int)).toNat=0 from rfl]at hx219_0
    rw[Addr.add_zero']at hx219_0
    replace hx219_0:=cx_ HB.out rfl hx219_0
    replace p219:=eq_true p219
    replace q219:=eq_true q219
    obtain⟨i011,hi011,_,hsz11,_⟩:=info_parts info5
    obtain⟨A11,hcut11,hA11,hC11⟩:=print_drop_of (P:=Try.prog) (Value.int .u8) 0 22 5 .i64 Try.underlying22 hi011 hsz11 (some ad219) c0 l0 1 (by omega) od_ HC0.out
    have HR220:=Aside0.mk (Kd.C_of_reads (h1:=fun _=>rfl) (hA11 _ (Kd.reads_of_C HR0.out)))
    have HC220:=Aside0.mk hC11
    clear hA11 hC11 hi011 hsz11
    go_upto_region 6 with (first|((with_reducible refine gaC_ (f:=55) rfl ?_);refine goesL_ (some 41) rfl rfl Try.func55 (by kernel_rfl) rfl #[.slice A11 (l0.drop 1).length (c0 - 1)] rfl (by(try simp only[List.map_toArray,List.map_cons,List.map_nil]);first|done|(rw[show(l0.drop 1).length=(l0.length - 1) from List.length_drop]<;>rfl)|rfl|(simp only[List.length_drop,List.length_take];rfl)) ?_;(with_reducible refine(num_Take.calls kj1 _ _ (l0.drop 1) t221 t222 t223 _ ?side1 ?side2 A9.out).mono ?_);(case side1=>exact Kd.cu_ (Kd.C_below HR220.out HB.out));(case side2=>exact HC220.out);rintro e w' ⟨rfl,⟨nd,rfl⟩⟩;refine⟨_,rfl,?_⟩))
    go_cut [72] (fun v72 wc=>∃ (kq:Nat) (x72_9:Bool),v72= .bool x72_9∧Aside0 (pfor_read.j1 kq l0 (wrap64 (rd l0 0)) t221 (wrap64 (1+t222)) x72_9=some (r1,r2,r3))∧Aside0 (kq<=kj1)∧Aside0 (Below w.heap.size w wc))
    case first=>
     have H:=HC10.out
     clear HC10
     by_cases c12:t223=0
     rotate_left
     .rw[if_neg c12]at H
      have c12b0:=beq_eq_false_iff_ne.mpr c12
      have c12b1:=bne_iff_ne.mpr c12
      (first|rw[c12b0]|(simp only[i64_w,i32_w];rw[c12b0])|skip)
      have H':=Aside0.mk H
      clear H
      go_wp2
      go_meet
      case rel=>exact⟨_,(true),rs_,H',⟨by have:=HJ1.out;first|omega|exact Nat.le_refl _⟩,⟨bw_⟩⟩
     rw[if_pos c12]at H
     have c12b0:=beq_iff_eq.mpr c12
     have c12b1:=bne_eq_false_iff_eq.mpr c12
     clear c12
     (first|rw[c12b0]|(simp only[i64_w,i32_w];rw[c12b0])|skip)
     by_cases c13:(l0.length:Int) < (wrap64 ((wrap64 (1+t222))+2))
     .rw[if_pos c13]at H
      have c13b0:=decide_eq_true c13
      clear c13
      have H':=Aside0.mk H
      clear H
      go_wp2
      go_meet
      case rel=>exact⟨_,(true),rs_,H',⟨by have:=HJ1.out;first|omega|exact Nat.le_refl _⟩,⟨bw_⟩⟩
     .rw[if_neg c13]at H
      have c13b0:=decide_eq_false c13
      clear c13
      obtain⟨ji14,hji14⟩:∃ j_:Int,(wrap64 (1+t222))=j_:=⟨_,rfl⟩
      replace H:(if 0<=(ji14)then(if(ji14) < (l0.length:Int)then(if(rd l0 (ji14)) > 64 then(pfor_read.j1 kj1 l0 (wrap64 (rd l0 0)) t221 ji14 true)else(if 0<=(wrap64 ((ji14)+1))then(if(wrap64 ((ji14)+1)) < (l0.length:Int)then(pfor_read.j1 kj1 l0 (wrap64 (rd l0 0)) t221 ji14 (decide ((wrap64 (rd l0 (wrap64 ((ji14)+1)))) > (wrap64 (rd l0 0)))))else(none))else(none)))else(none))else(none))=some (r1,r2,r3):=hj_ hji14 H
      rw[hji14]at c13b0
      have hji14w:(IntKind.i64.wrap (1+t222))=ji14:=(i64_w _).trans hji14
      by_cases c15:0<=(ji14)
      rotate_left
      .rw[if_neg c15]at H
       cases H
      rw[if_pos c15]at H
      have c15b0:=decide_eq_true c15
      clear c15
      by_cases c16:(ji14) < (l0.length:Int)
      rotate_left
      .rw[if_neg c16]at H
       cases H
      rw[if_pos c16]at H
      have c16b0:=decide_eq_true c16
      clear c16
      by_cases c17:(rd l0 (ji14)) > 64
      .rw[if_pos c17]at H
       have c17b0:=decide_eq_true c17
       clear c17
       have H':=Aside0.mk H
       clear H
       have p224:0<=((ji14):Int):=od_
       have q224:(ji14) < (l0.length:Int):=od_
       obtain⟨ad224,e224,hx224_0⟩:=Kd.at_int HR0.out (ji14) p224 q224
       obtain rfl:ad219=ad224:=(by injection e224)
       replace hx224_0:=cx_ HB.out rfl hx224_0
       replace p224:=eq_true p224
       replace q224:=eq_true q224
       go_wp2
       subst hji14
       go_meet
       case rel=>exact⟨_,(true),rs_,H',⟨by have:=HJ1.out;first|omega|exact Nat.le_refl _⟩,⟨bw_⟩⟩
      .rw[if_neg c17]at H
       have c17b0:=decide_eq_false c17
       clear c17
       obtain⟨ji18,hji18⟩:∃ j_:Int,(wrap64 ((ji14)+1))=j_:=⟨_,rfl⟩
       replace H:(if 0<=(ji18)then(if(ji18) < (l0.length:Int)then(pfor_read.j1 kj1 l0 (wrap64 (rd l0 0)) t221 ji14 (decide ((wrap64 (rd l0 (ji18))) > (wrap64 (rd l0 0)))))else(none))else(none))=some (r1,r2,r3):=hj_ hji18 H
       have hji18w:(IntKind.i64.wrap ((ji14)+1))=ji18:=(i64_w _).trans hji18
       by_cases c19:0<=(ji18)
       rotate_left
       .rw[if_neg c19]at H
        cases H
       rw[if_pos c19]at H
       have c19b0:=decide_eq_true c19
       clear c19
       by_cases c20:(ji18) < (l0.length:Int)
       rotate_left
       .rw[if_neg c20]at H
        cases H
       rw[if_pos c20]at H
       have c20b0:=decide_eq_true c20
       clear c20
       have H':=Aside0.mk H
       clear H
       have p224:0<=((ji14):Int):=od_
       have q224:(ji14) < (l0.length:Int):=od_
       obtain⟨ad224,e224,hx224_0⟩:=Kd.at_int HR0.out (ji14) p224 q224
       obtain rfl:ad219=ad224:=(by injection e224)
       replace hx224_0:=cx_ HB.out rfl hx224_0
       replace p224:=eq_true p224
       replace q224:=eq_true q224
       have p225:0<=((ji18):Int):=od_
       have q225:(ji18) < (l0.length:Int):=od_
       obtain⟨ad225,e225,hx225_0⟩:=Kd.at_int HR0.out (ji18) p225 q225
       obtain rfl:ad219=ad225:=(by injection e225)
       replace hx225_0:=cx_ HB.out rfl hx225_0
       replace p225:=eq_true p225
       replace q225:=eq_true q225
       go_wp2
       subst hji18 hji14
       go_meet
       case rel=>exact⟨_,(decide ((wrap64 (rd l0 ((wrap64 (((wrap64 (1+t222)))+1))))) > (wrap64 (rd l0 0)))),(by first|rfl|(simp;done)|(simp only[<- hji18]<;>(first|rfl|simp))|(simp[*];done)),H',⟨by have:=HJ1.out;first|omega|exact Nat.le_refl _⟩,⟨bw_⟩⟩
    case rest=>
     clear HC10
     clear c7b0 c7b1
     clear c8b0 c8b1
     clear hx219_0
     clear p219
     clear q219
     obtain⟨kq,x72_9,rfl,HA,HJ9,HB⟩:=hcut
     cases kq with
     |zero=>exact absurd HA.out (by simp[pfor_read.j1])
     |succ kj9=>
      have H:=HA.out
      clear HA
      simp only[pfor_read.j1]at H
      by_cases c21:x72_9=true
      .subst c21
       rw[if_pos rfl]at H
       simp only[Option.some.injEq,Prod.mk.injEq]at H
       obtain⟨rfl,rfl,rfl⟩:=H
       go_wp2
       go_ret3
       exact⟨_,rf_,ni_,bw_⟩
      .replace c21:=Bool.eq_false_iff.mpr c21
       subst c21
       rw[if_neg (show ¬ (false=true) by decide)]at H
       obtain⟨ji22,hji22⟩:∃ j_:Int,(wrap64 (1+t222))=j_:=⟨_,rfl⟩
       replace H:(if 0<=(ji22)then(if(ji22) < (l0.length:Int)then(if 0<=(wrap64 ((ji22)+1))then(if(wrap64 ((ji22)+1)) < (l0.length:Int)then(if(wrap64 ((wrap64 ((ji22)+2))+(wrap64 (Int.tdiv (wrap64 ((wrap64 ((wrap64 (rd l0 0))*(wrap64 (rd l0 (ji22)))))+7)) 8)))) > (l0.length:Int)then(some (([]:List Int),0,false))else(if 0<=(wrap64 ((ji22)+2))then(if(wrap64 ((ji22)+2))<=(wrap64 ((wrap64 ((ji22)+2))+(wrap64 (Int.tdiv (wrap64 ((wrap64 ((wrap64 (rd l0 0))*(wrap64 (rd l0 (ji22)))))+7)) 8))))then(if(wrap64 ((wrap64 ((ji22)+2))+(wrap64 (Int.tdiv (wrap64 ((wrap64 ((wrap64 (rd l0 0))*(wrap64 (rd l0 (ji22)))))+7)) 8))))<=(l0.length:Int)then((bits_Unpack.f kj9 ((l0.take ((wrap64 ((wrap64 ((ji22)+2))+(wrap64 (Int.tdiv (wrap64 ((wrap64 ((wrap64 (rd l0 0))*(wrap64 (rd l0 (ji22)))))+7)) 8)))):Int).toNat).drop ((wrap64 ((ji22)+2)):Int).toNat) (wrap64 (rd l0 0)) (wrap64 (rd l0 (ji22)))).bind fun bt229=>(if bt229.2=0 then(pfor_read.l0 kj9 l0 (wrap64 (rd l0 0)) t221 (wrap64 ((wrap64 ((ji22)+2))+(wrap64 (Int.tdiv (wrap64 ((wrap64 ((wrap64 (rd l0 0))*(wrap64 (rd l0 (ji22)))))+7)) 8)))) (wrap64 (rd l0 (ji22))) (wrap64 (rd l0 (wrap64 ((ji22)+1)))) bt229.1)else(some (([]:List Int),0,false))))else(none))else(none))else(none)))else(none))else(none))else(none))else(none))=some (r1,r2,r3):=hj_ hji22 H
       have hji22w:(IntKind.i64.wrap (1+t222))=ji22:=(i64_w _).trans hji22
       by_cases c23:0<=(ji22)
       rotate_left
       .rw[if_neg c23]at H
        cases H
       rw[if_pos c23]at H
       have c23b0:=decide_eq_true c23
       clear c23
       by_cases c24:(ji22) < (l0.length:Int)
       rotate_left
       .rw[if_neg c24]at H
        cases H
       rw[if_pos c24]at H
       have c24b0:=decide_eq_true c24
       clear c24
       obtain⟨ji25,hji25⟩:∃ j_:Int,(wrap64 ((ji22)+1))=j_:=⟨_,rfl⟩
       replace H:(if 0<=(ji25)then(if(ji25) < (l0.length:Int)then(if(wrap64 ((wrap64 ((ji22)+2))+(wrap64 (Int.tdiv (wrap64 ((wrap64 ((wrap64 (rd l0 0))*(wrap64 (rd l0 (ji22)))))+7)) 8)))) > (l0.length:Int)then(some (([]:List Int),0,false))else(if 0<=(wrap64 ((ji22)+2))then(if(wrap64 ((ji22)+2))<=(wrap64 ((wrap64 ((ji22)+2))+(wrap64 (Int.tdiv (wrap64 ((wrap64 ((wrap64 (rd l0 0))*(wrap64 (rd l0 (ji22)))))+7)) 8))))then(if(wrap64 ((wrap64 ((ji22)+2))+(wrap64 (Int.tdiv (wrap64 ((wrap64 ((wrap64 (rd l0 0))*(wrap64 (rd l0 (ji22)))))+7)) 8))))<=(l0.length:Int)then((bits_Unpack.f kj9 ((l0.take ((wrap64 ((wrap64 ((ji22)+2))+(wrap64 (Int.tdiv (wrap64 ((wrap64 ((wrap64 (rd l0 0))*(wrap64 (rd l0 (ji22)))))+7)) 8)))):Int).toNat).drop ((wrap64 ((ji22)+2)):Int).toNat) (wrap64 (rd l0 0)) (wrap64 (rd l0 (ji22)))).bind fun bt229=>(if bt229.2=0 then(pfor_read.l0 kj9 l0 (wrap64 (rd l0 0)) t221 (wrap64 ((wrap64 ((ji22)+2))+(wrap64 (Int.tdiv (wrap64 ((wrap64 ((wrap64 (rd l0 0))*(wrap64 (rd l0 (ji22)))))+7)) 8)))) (wrap64 (rd l0 (ji22))) (wrap64 (rd l0 (ji25))) bt229.1)else(some (([]:List Int),0,false))))else(none))else(none))else(none)))else(none))else(none))=some (r1,r2,r3):=hj_ hji25 H
       have hji25w:(IntKind.i64.wrap ((ji22)+1))=ji25:=(i64_w _).trans hji25
       by_cases c26:0<=(ji25)
       rotate_left
       .rw[if_neg c26]at H
        cases H
       rw[if_pos c26]at H
       have c26b0:=decide_eq_true c26
       clear c26
       by_cases c27:(ji25) < (l0.length:Int)
       rotate_left
       .rw[if_neg c27]at H
        cases H
       rw[if_pos c27]at H
       have c27b0:=decide_eq_true c27
       clear c27
       by_cases c28:(wrap64 ((wrap64 ((ji22)+2))+(wrap64 (Int.tdiv (wrap64 ((wrap64 ((wrap64 (rd l0 0))*(wrap64 (rd l0 (ji22)))))+7)) 8)))) > (l0.length:Int)
       .rw[if_pos c28]at H
        have c28b0:=decide_eq_true c28
        clear c28
        simp only[Option.some.injEq,Prod.mk.injEq]at H
        obtain⟨rfl,rfl,rfl⟩:=H
        try go_wp2
        have n0_:=Aside0.mk (pb1_ HB.out)
        clear HB
        have HB:=n0_
        clear n0_
        have p226:0<=((ji22):Int):=od_
        have q226:(ji22) < (l0.length:Int):=od_
        obtain⟨ad226,e226,hx226_0⟩:=Kd.at_int HR0.out (ji22) p226 q226
        have hw226_0:=hx226_0
        obtain rfl:ad219=ad226:=(by injection e226)
        replace hx226_0:=cx_ HB.out rfl hx226_0
        replace p226:=eq_true p226
        replace q226:=eq_true q226
        have p227:0<=((ji25):Int):=od_
        have q227:(ji25) < (l0.length:Int):=od_
        obtain⟨ad227,e227,hx227_0⟩:=Kd.at_int HR0.out (ji25) p227 q227
        have hw227_0:=hx227_0
        obtain rfl:ad219=ad227:=(by injection e227)
        replace hx227_0:=cx_ HB.out rfl hx227_0
        replace p227:=eq_true p227
        replace q227:=eq_true q227
        refine start_ (n:=13) (S:=fun w'=>w'.cell? (ad219.add ((ji22)).toNat)=some (.int .u8 (rd l0 (ji22)))∧w'.cell? (ad219.add ((ji25)).toNat)=some (.int .u8 (rd l0 (ji25)))) (ds:=[]) #[false,false,false,false,false,false,false,false,false,false,false,false,false] (by kernel_rfl) rfl rfl ⟨(cx_ HB.out rfl hw226_0),(cx_ HB.out rfl hw227_0)⟩ (fun hHeld=>?_);refine with_tabW pfor_read.tab8 pfor_read.bits8 (fun HT_ HW_=>?_)
        generalize wc.drew=w29 at HB hx226_0 hx227_0 hHeld ⊢
        refine pv_ (i:=0) (N:=some 73) HT_ ?_
        refine pv_ (i:=1) (N:=some 74) HT_ ?_
        refine pv_ (i:=2) (N:=some 75) HT_ ?_
        refine pv_ (i:=5) (N:=some 78) HT_ ?_
        refine pv_ (i:=6) (N:=some 79) HT_ ?_
        refine pv_ (i:=7) (N:=some 80) HT_ ?_
        refine pv_ (i:=8) (N:=some 81) HT_ ?_
        refine tv_ (i:=3) (N:=some 76) HT_ HW_ hHeld ?_
        refine pv_ (i:=4) (N:=some 77) HT_ ?_
        refine pv_ (i:=11) (N:=some 10) HT_ ?_
        refine tv_ (i:=9) (N:=some 82) HT_ HW_ hHeld ?_
        refine pv_ (i:=10) (N:=some 83) HT_ ?_
        refine pv_ (i:=12) (N:=some 11) HT_ ?_
        refine done_ (done_of HT_.out (by kernel_rfl)) ?_
        try go_wp2
        go_ret3
        exact⟨_,by first|rfl|(simp[eWn_,eWs_]<;>rfl)|(simp only[<- hji22,<- hji25];first|rfl|(simp[eWn_,eWs_]<;>rfl))|(simp[*,eWn_,eWs_]<;>rfl),ni_,bw_⟩
       .rw[if_neg c28]at H
        have c28b0:=decide_eq_false c28
        clear c28
        obtain⟨ji30,hji30⟩:∃ j_:Int,(wrap64 ((ji22)+2))=j_:=⟨_,rfl⟩
        replace H:(if 0<=(ji30)then(if(ji30)<=(wrap64 ((ji30)+(wrap64 (Int.tdiv (wrap64 ((wrap64 ((wrap64 (rd l0 0))*(wrap64 (rd l0 (ji22)))))+7)) 8))))then(if(wrap64 ((ji30)+(wrap64 (Int.tdiv (wrap64 ((wrap64 ((wrap64 (rd l0 0))*(wrap64 (rd l0 (ji22)))))+7)) 8))))<=(l0.length:Int)then((bits_Unpack.f kj9 ((l0.take ((wrap64 ((ji30)+(wrap64 (Int.tdiv (wrap64 ((wrap64 ((wrap64 (rd l0 0))*(wrap64 (rd l0 (ji22)))))+7)) 8)))):Int).toNat).drop ((ji30):Int).toNat) (wrap64 (rd l0 0)) (wrap64 (rd l0 (ji22)))).bind fun bt229=>(if bt229.2=0 then(pfor_read.l0 kj9 l0 (wrap64 (rd l0 0)) t221 (wrap64 ((ji30)+(wrap64 (Int.tdiv (wrap64 ((wrap64 ((wrap64 (rd l0 0))*(wrap64 (rd l0 (ji22)))))+7)) 8)))) (wrap64 (rd l0 (ji22))) (wrap64 (rd l0 (ji25))) bt229.1)else(some (([]:List Int),0,false))))else(none))else(none))else(none))=some (r1,r2,r3):=hj_ hji30 H
        rw[hji30]at c28b0
        have hji30w:(IntKind.i64.wrap ((ji22)+2))=ji30:=(i64_w _).trans hji30
        by_cases c31:0<=(ji30)
        rotate_left
        .rw[if_neg c31]at H
         cases H
        rw[if_pos c31]at H
        have c31b0:=eq_true c31
        have c31b1:=decide_eq_true c31
        clear c31
        by_cases c32:(ji30)<=(wrap64 ((ji30)+(wrap64 (Int.tdiv (wrap64 ((wrap64 ((wrap64 (rd l0 0))*(wrap64 (rd l0 (ji22)))))+7)) 8))))
        rotate_left
        .rw[if_neg c32]at H
         cases H
        rw[if_pos c32]at H
        have c32b0:=eq_true c32
        have c32b1:=decide_eq_true c32
        by_cases c33:(wrap64 ((ji30)+(wrap64 (Int.tdiv (wrap64 ((wrap64 ((wrap64 (rd l0 0))*(wrap64 (rd l0 (ji22)))))+7)) 8))))<=(l0.length:Int)
        rotate_left
        .rw[if_neg c33]at H
         cases H
        rw[if_pos c33]at H
        have c33b0:=eq_true c33
        have c33b1:=decide_eq_true c33
        replace H:=Option.bind_eq_some_iff.mp H
        obtain⟨⟨t229,t230⟩,A340,H⟩:=H
        try dsimp only at H
        have A34:=Aside0.mk A340
        clear A340
        by_cases c35:t230=0
        rotate_left
        .rw[if_neg c35]at H
         have c35b0:=beq_eq_false_iff_ne.mpr c35
         have c35b1:=bne_iff_ne.mpr c35
         simp only[Option.some.injEq,Prod.mk.injEq]at H
         obtain⟨rfl,rfl,rfl⟩:=H
         try go_wp2
         have n0_:=Aside0.mk (pb1_ HB.out)
         clear HB
         have HB:=n0_
         clear n0_
         have p226:0<=((ji22):Int):=od_
         have q226:(ji22) < (l0.length:Int):=od_
         obtain⟨ad226,e226,hx226_0⟩:=Kd.at_int HR0.out (ji22) p226 q226
         have hw226_0:=hx226_0
         obtain rfl:ad219=ad226:=(by injection e226)
         replace hx226_0:=cx_ HB.out rfl hx226_0
         replace p226:=eq_true p226
         replace q226:=eq_true q226
         have p227:0<=((ji25):Int):=od_
         have q227:(ji25) < (l0.length:Int):=od_
         obtain⟨ad227,e227,hx227_0⟩:=Kd.at_int HR0.out (ji25) p227 q227
         have hw227_0:=hx227_0
         obtain rfl:ad219=ad227:=(by injection e227)
         replace hx227_0:=cx_ HB.out rfl hx227_0
         replace p227:=eq_true p227
         replace q227:=eq_true q227
         refine start_ (n:=13) (S:=fun w'=>w'.cell? (ad219.add ((ji22)).toNat)=some (.int .u8 (rd l0 (ji22)))∧w'.cell? (ad219.add ((ji25)).toNat)=some (.int .u8 (rd l0 (ji25)))) (ds:=[]) #[false,false,false,false,false,false,false,false,false,false,false,false,false] (by kernel_rfl) rfl rfl ⟨(cx_ HB.out rfl hw226_0),(cx_ HB.out rfl hw227_0)⟩ (fun hHeld=>?_);refine with_tabW pfor_read.tab8 pfor_read.bits8 (fun HT_ HW_=>?_)
         generalize wc.drew=w72 at HB hx226_0 hx227_0 hHeld ⊢
         refine pv_ (i:=0) (N:=some 73) HT_ ?_
         refine pv_ (i:=1) (N:=some 74) HT_ ?_
         refine pv_ (i:=2) (N:=some 75) HT_ ?_
         refine pv_ (i:=5) (N:=some 78) HT_ ?_
         refine pv_ (i:=6) (N:=some 79) HT_ ?_
         refine pv_ (i:=7) (N:=some 80) HT_ ?_
         refine pv_ (i:=8) (N:=some 81) HT_ ?_
         refine tv_ (i:=3) (N:=some 76) HT_ HW_ hHeld ?_
         refine pv_ (i:=4) (N:=some 77) HT_ ?_
         refine pv_ (i:=11) (N:=some 10) HT_ ?_
         refine tv_ (i:=9) (N:=some 82) HT_ HW_ hHeld ?_
         refine pv_ (i:=10) (N:=some 83) HT_ ?_
         refine pv_ (i:=12) (N:=some 11) HT_ ?_
         refine done_ (done_of HT_.out (by kernel_rfl)) ?_
         obtain⟨i073,hi073,_,hsz73,_⟩:=info_parts info5
         obtain⟨A73,hcut73,hA73,hC73⟩:=print_mid_of (P:=Try.prog) (Value.int .u8) 0 22 5 .i64 .i64 Try.underlying22 hi073 hsz73 (some ad219) c0 l0 (ji30) (wrap64 ((ji30)+(wrap64 (Int.tdiv (wrap64 ((wrap64 ((wrap64 (rd l0 0))*(wrap64 (rd l0 (ji22)))))+7)) 8)))) od_ (by first|omega|exact od_) od_ HC0.out
         have HR228:=Aside0.mk (Kd.C_of_reads (h1:=fun _=>rfl) (hA73 _ (Kd.reads_of_C HR0.out)))
         have HC228:=Aside0.mk hC73
         clear hA73 hC73 hi073 hsz73
         try go_wp2_with (first|((with_reducible refine gaC_ (f:=76) rfl ?_);refine goesL_ (some 104) rfl rfl Try.func76 (by kernel_rfl) rfl #[.slice A73 ((l0.take ((wrap64 ((ji30)+(wrap64 (Int.tdiv (wrap64 ((wrap64 ((wrap64 (rd l0 0))*(wrap64 (rd l0 (ji22)))))+7)) 8)))):Int).toNat).drop ((ji30):Int).toNat).length (c0 - (ji30).toNat),.int .i64 (wrap64 (rd l0 0)),.int .i64 (wrap64 (rd l0 (ji22)))] rfl (by(try simp only[List.map_toArray,List.map_cons,List.map_nil]);first|done|(rw[show((l0.take ((wrap64 ((ji30)+(wrap64 (Int.tdiv (wrap64 ((wrap64 ((wrap64 (rd l0 0))*(wrap64 (rd l0 (ji22)))))+7)) 8)))):Int).toNat).drop ((ji30):Int).toNat).length=((wrap64 ((ji30)+(wrap64 (Int.tdiv (wrap64 ((wrap64 ((wrap64 (rd l0 0))*(wrap64 (rd l0 (ji22)))))+7)) 8)))).toNat - (ji30).toNat) from(by rw[List.length_drop,List.length_take];have h_:((wrap64 ((ji30)+(wrap64 (Int.tdiv (wrap64 ((wrap64 ((wrap64 (rd l0 0))*(wrap64 (rd l0 (ji22)))))+7)) 8)))):Int)<=(l0.length:Int):=od_;omega)]<;>rfl)|(simp only[hji22,hji30];rfl)|rfl|(simp only[List.length_drop,List.length_take];rfl)) ?_;(with_reducible refine(bits_Unpack.calls kj9 _ _ ((l0.take ((wrap64 ((ji30)+(wrap64 (Int.tdiv (wrap64 ((wrap64 ((wrap64 (rd l0 0))*(wrap64 (rd l0 (ji22)))))+7)) 8)))):Int).toNat).drop ((ji30):Int).toNat) (wrap64 (rd l0 0)) (wrap64 (rd l0 (ji22))) t229 t230 _ ?side1 ?side2 A34.out).mono ?_);(case side1=>exact Kd.cu_ (Kd.C_below HR228.out HB.out));(case side2=>exact HC228.out);rintro e w74 ⟨v231,rfl,ho0,hb⟩;refine⟨_,rfl,?_⟩;have HO232:=Aside0.mk (Kd.R_lower ho0 (pbS_ bw_));replace HB:=Aside0.mk (below_step bw_ hb)))
         go_ret3
         exact⟨_,by first|rfl|(simp[eWn_,eWs_]<;>rfl)|(simp only[<- hji22,<- hji25,<- hji30];first|rfl|(simp[eWn_,eWs_]<;>rfl))|(simp[*,eWn_,eWs_]<;>rfl),ni_,bw_⟩
        rw[if_pos c35]at H
        have c35b0:=beq_iff_eq.mpr c35
        have c35b1:=bne_eq_false_iff_eq.mpr c35
        clear c35
        have H':=Aside0.mk H
        clear H
        try go_wp2
        have n0_:=Aside0.mk (pb1_ HB.out)
        clear HB
        have HB:=n0_
        clear n0_
        have p226:0<=((ji22):Int):=od_
        have q226:(ji22) < (l0.length:Int):=od_
        obtain⟨ad226,e226,hx226_0⟩:=Kd.at_int HR0.out (ji22) p226 q226
        have hw226_0:=hx226_0
        obtain rfl:ad219=ad226:=(by injection e226)
        replace hx226_0:=cx_ HB.out rfl hx226_0
        replace p226:=eq_true p226
        replace q226:=eq_true q226
        have p227:0<=((ji25):Int):=od_
        have q227:(ji25) < (l0.length:Int):=od_
        obtain⟨ad227,e227,hx227_0⟩:=Kd.at_int HR0.out (ji25) p227 q227
        have hw227_0:=hx227_0
        obtain rfl:ad219=ad227:=(by injection e227)
        replace hx227_0:=cx_ HB.out rfl hx227_0
        replace p227:=eq_true p227
        replace q227:=eq_true q227
        refine start_ (n:=13) (S:=fun w'=>w'.cell? (ad219.add ((ji22)).toNat)=some (.int .u8 (rd l0 (ji22)))∧w'.cell? (ad219.add ((ji25)).toNat)=some (.int .u8 (rd l0 (ji25)))) (ds:=[]) #[false,false,false,false,false,false,false,false,false,false,false,false,false] (by kernel_rfl) rfl rfl ⟨(cx_ HB.out rfl hw226_0),(cx_ HB.out rfl hw227_0)⟩ (fun hHeld=>?_);refine with_tabW pfor_read.tab8 pfor_read.bits8 (fun HT_ HW_=>?_)
        generalize wc.drew=w36 at HB hx226_0 hx227_0 hHeld ⊢
        refine pv_ (i:=0) (N:=some 73) HT_ ?_
        refine pv_ (i:=1) (N:=some 74) HT_ ?_
        refine pv_ (i:=2) (N:=some 75) HT_ ?_
        refine pv_ (i:=5) (N:=some 78) HT_ ?_
        refine pv_ (i:=6) (N:=some 79) HT_ ?_
        refine pv_ (i:=7) (N:=some 80) HT_ ?_
        refine pv_ (i:=8) (N:=some 81) HT_ ?_
        refine tv_ (i:=3) (N:=some 76) HT_ HW_ hHeld ?_
        refine pv_ (i:=4) (N:=some 77) HT_ ?_
        refine pv_ (i:=11) (N:=some 10) HT_ ?_
        refine tv_ (i:=9) (N:=some 82) HT_ HW_ hHeld ?_
        refine pv_ (i:=10) (N:=some 83) HT_ ?_
        refine pv_ (i:=12) (N:=some 11) HT_ ?_
        refine done_ (done_of HT_.out (by kernel_rfl)) ?_
        obtain⟨i037,hi037,_,hsz37,_⟩:=info_parts info5
        obtain⟨A37,hcut37,hA37,hC37⟩:=print_mid_of (P:=Try.prog) (Value.int .u8) 0 22 5 .i64 .i64 Try.underlying22 hi037 hsz37 (some ad219) c0 l0 (ji30) (wrap64 ((ji30)+(wrap64 (Int.tdiv (wrap64 ((wrap64 ((wrap64 (rd l0 0))*(wrap64 (rd l0 (ji22)))))+7)) 8)))) od_ (by first|omega|exact od_) od_ HC0.out
        have HR228:=Aside0.mk (Kd.C_of_reads (h1:=fun _=>rfl) (hA37 _ (Kd.reads_of_C HR0.out)))
        have HC228:=Aside0.mk hC37
        clear hA37 hC37 hi037 hsz37
        try go_wp2_with (first|((with_reducible refine gaC_ (f:=76) rfl ?_);refine goesL_ (some 104) rfl rfl Try.func76 (by kernel_rfl) rfl #[.slice A37 ((l0.take ((wrap64 ((ji30)+(wrap64 (Int.tdiv (wrap64 ((wrap64 ((wrap64 (rd l0 0))*(wrap64 (rd l0 (ji22)))))+7)) 8)))):Int).toNat).drop ((ji30):Int).toNat).length (c0 - (ji30).toNat),.int .i64 (wrap64 (rd l0 0)),.int .i64 (wrap64 (rd l0 (ji22)))] rfl (by(try simp only[List.map_toArray,List.map_cons,List.map_nil]);first|done|(rw[show((l0.take ((wrap64 ((ji30)+(wrap64 (Int.tdiv (wrap64 ((wrap64 ((wrap64 (rd l0 0))*(wrap64 (rd l0 (ji22)))))+7)) 8)))):Int).toNat).drop ((ji30):Int).toNat).length=((wrap64 ((ji30)+(wrap64 (Int.tdiv (wrap64 ((wrap64 ((wrap64 (rd l0 0))*(wrap64 (rd l0 (ji22)))))+7)) 8)))).toNat - (ji30).toNat) from(by rw[List.length_drop,List.length_take];have h_:((wrap64 ((ji30)+(wrap64 (Int.tdiv (wrap64 ((wrap64 ((wrap64 (rd l0 0))*(wrap64 (rd l0 (ji22)))))+7)) 8)))):Int)<=(l0.length:Int):=od_;omega)]<;>rfl)|(simp only[hji22,hji30];rfl)|rfl|(simp only[List.length_drop,List.length_take];rfl)) ?_;(with_reducible refine(bits_Unpack.calls kj9 _ _ ((l0.take ((wrap64 ((ji30)+(wrap64 (Int.tdiv (wrap64 ((wrap64 ((wrap64 (rd l0 0))*(wrap64 (rd l0 (ji22)))))+7)) 8)))):Int).toNat).drop ((ji30):Int).toNat) (wrap64 (rd l0 0)) (wrap64 (rd l0 (ji22))) t229 t230 _ ?side1 ?side2 A34.out).mono ?_);(case side1=>exact Kd.cu_ (Kd.C_below HR228.out HB.out));(case side2=>exact HC228.out);rintro e w38 ⟨v231,rfl,ho0,hb⟩;refine⟨_,rfl,?_⟩;have HO232:=Aside0.mk (Kd.R_lower ho0 (pbS_ bw_));replace HB:=Aside0.mk (below_step bw_ hb)))
        go_loopg [9,11] kj9 (fun kq v9 v11 w'=>∃ (x9_3:Int) (x11_3:Int) (x13_3:List Int),v9= .int .i64 x9_3∧v11= .int .i64 x11_3∧Aside0 (pfor_read.l0 kq l0 (wrap64 (rd l0 0)) t221 x9_3 (wrap64 (rd l0 (ji22))) x11_3 x13_3=some (r1,r2,r3))∧Aside0 (kq<=kj9)∧Aside0 (Kd.R (Kd.int .u64) 48 w' w.heap.size (fun _=>True) v231 x13_3)∧Aside0 (Below w.heap.size w w'))
        case atStart=>exact⟨(wrap64 ((ji30)+(wrap64 (Int.tdiv (wrap64 ((wrap64 ((wrap64 (rd l0 0))*(wrap64 (rd l0 (ji22)))))+7)) 8)))),(wrap64 (rd l0 (ji25))),(t229),(by first|rfl|(simp;done)|(simp only[<- hji22,<- hji30]<;>(first|rfl|simp))|(simp[*];done)),(by first|rfl|(simp;done)|(simp only[<- hji25]<;>(first|rfl|simp))|(simp[*];done)),H',⟨Nat.le_refl _⟩,⟨Kd.ru_ HO232.out⟩,⟨bw_⟩⟩
        case round=>
         clear H'
         clear c23b0
         clear c24b0
         clear c26b0
         clear c27b0
         clear c28b0
         clear c31b0 c31b1 c32 c32b0 c32b1 c33 c33b0 c33b1
         clear c35b0 c35b1
         clear hx226_0 hx227_0
         clear p226 p227
         clear q226 q227
         obtain⟨x9_3,x11_3,x13_3,rfl,rfl,HA,HK3,HO_13,HB⟩:=hrel
         cases gk with
         |zero=>exact absurd HA.out (by simp[pfor_read.l0])
         |succ k3=>
          have H:=HA.out
          clear HA
          simp only[pfor_read.l0]at H
          by_cases c39:x11_3 > 0
          rotate_left
          .rw[if_neg c39]at H
           have c39b0:=decide_eq_false c39
           clear c39
           have H':=Aside0.mk H
           clear H
           obtain⟨Ao65,co65,eo65⟩:=Kd.R_slice HO_13.out
           subst eo65
           go_wp2
           go_loopg [162] k3 (fun kq v162 w'=>∃ (x13_4:List Int) (x162_4:Int),v162= .int .i64 x162_4∧Aside0 (pfor_read.l1 kq t221 x9_3 x13_4 (x13_3.length:Int) x162_4=some (r1,r2,r3))∧Aside0 (kq<=k3)∧Aside0 (Kd.R (Kd.int .u64) 48 w' w.heap.size (fun _=>True) (.slice Ao65 x13_3.length co65) x13_4)∧Aside0 (Below w.heap.size w w'))
           case atStart=>exact⟨(x13_3),(0),rs_,H',⟨Nat.le_refl _⟩,⟨Kd.ru_ HO_13.out⟩,⟨bw_⟩⟩
           case round=>
            clear H'
            clear c39b0
            obtain⟨x13_4,x162_4,rfl,HA,HK4,HO_13,HB⟩:=hrel
            have hl13_4:=(Kd.R_reads' HO_13.out).1
            rw[hl13_4]at HO_13
            simp only[hl13_4]
            cases gk with
            |zero=>exact absurd HA.out (by simp[pfor_read.l1])
            |succ k4=>
             have H:=HA.out
             clear HA
             simp only[pfor_read.l1]at H
             by_cases c66:x162_4 < (x13_3.length:Int)
             rotate_left
             .rw[if_neg c66]at H
              have c66b0:=decide_eq_false c66
              ((have c66b0h:=c66b0;simp only[hl13_4]at c66b0h))
              clear c66
              simp only[Option.some.injEq,Prod.mk.injEq]at H
              obtain⟨rfl,rfl,rfl⟩:=H
              go_wp2
              go_ret3
              exact⟨_,by first|rfl|(simp[eWn_,eWs_]<;>rfl)|(simp only[<- hji22,<- hji25,<- hji30];first|rfl|(simp[eWn_,eWs_]<;>rfl))|(simp[*,eWn_,eWs_]<;>rfl),by(with_reducible repeat(first|apply Kd.rA_|apply Kd.rN_|apply Kd.rD_));exact HO_13.out,bw_⟩
             rw[if_pos c66]at H
             have c66b0:=decide_eq_true c66
             ((have c66b0h:=c66b0;simp only[hl13_4]at c66b0h))
             clear c66
             by_cases c67:0<=x162_4
             rotate_left
             .rw[if_neg c67]at H
              cases H
             rw[if_pos c67]at H
             have c67b0:=decide_eq_true c67
             clear c67
             by_cases c68:x162_4 < (x13_4.length:Int)
             rotate_left
             .rw[if_neg c68]at H
              cases H
             rw[if_pos c68]at H
             have c68b0:=decide_eq_true c68
             clear c68
             obtain⟨y242,hy242⟩:∃ y_:List Int,y_=(x13_4.set (x162_4:Int).toNat (IntKind.u64.wrap ((rd x13_4 x162_4)+t221))):=⟨_,rfl⟩
             replace H:(pfor_read.l1 k4 t221 x9_3 y242 (x13_3.length:Int) (wrap64 (x162_4+1)))=some (r1,r2,r3):=hx_ hy242 H
             have Ny242:=Aside0.mk hy242
             clear hy242
             have H':=Aside0.mk H
             clear H
             have p241:0<=(x162_4:Int):=od_
             have q241:x162_4 < (x13_4.length:Int):=od_
             obtain⟨ad241,e241,hx241_0⟩:=Kd.at_int (Kd.R_reads' HO_13.out).2.2 x162_4 p241 q241
             cases e241
             replace p241:=eq_true p241
             replace q241:=eq_true q241
             have p69:0<=(x162_4:Int):=od_
             have q69:(x162_4:Int) < ((x13_4.length:Int):Int):=od_
             obtain⟨go69,co69,eo69,gb69,gl69,cl69,HG69⟩:=Kd.R_form HO_13.out (by omega)
             (first|cases eo69|(injection eo69 with ea_ en_ ec_;(first|subst ea_|(injection ea_ with ea_;subst ea_));subst ec_;clear en_))
             have GB69:=Aside0.mk gb69
             have GG69:=Aside0.mk HG69
             clear gb69 gl69 HG69
             (first|simp only[add_plain]at hx241_0|skip)
             obtain⟨hx69_0,hf69_0⟩:=Kd.R_celln 0 HO_13.out (x162_4:Int) p69 q69
             replace p69:=eq_true p69
             replace q69:=eq_true q69
             have HP70:=Kd.R_putg HO_13.out (x162_4:Int) (IntKind.u64.wrap ((rd x13_4 x162_4)+t221))
             go_wp2_with (first|((with_reducible refine gate_store (t:=48) (p:=171) rfl ?_);refine store_event (t:=48) (p:=171) (v:= ?vo_w71) (w1:=(wr.setCell ⟨go69,(x162_4:Int).toNat,none⟩ (.int .u64 (IntKind.u64.wrap ((rd x13_4 x162_4)+t221))))) ?hg ?ho ?hn ?hr ?_;(case ho=>rfl);(case hg=>rfl);(case hn=>rfl);(case hr=>first|(go_simp;done)|(go_simp;rfl));intro w71 hw;have hg:wr.grownBy w71 (some go69):=(by rw[hw];exact HP70.2);have hp_:Kd.R (Kd.int .u64) 48 w71 w.heap.size (fun _=>True) (.slice (some ⟨go69,0,none⟩) x13_4.length co65) y242:=(by rw[hw,Ny242.out];exact HP70.1);clear HP70;replace HO_13:=Aside0.mk (hp_);replace HB:=Aside0.mk ((by rw[hw];exact below_set (HB.out) GB69.out:Below w.heap.size w w71));clear hg hw hp_))
             simp only[<- hl13_4]
             go_roundg k4
             case measure=>have:=HJ1.out;have:=HJ9.out;have:=HK3.out;have:=HK4.out;omega
             case rel=>exact⟨(y242),(wrap64 (x162_4+1)),rs_,H',⟨by have:=HJ1.out;have:=HJ9.out;have:=HK3.out;have:=HK4.out;omega⟩,⟨by(try simp only[hl13_4]);(with_reducible repeat(first|apply Kd.rA_|apply Kd.rN_|apply Kd.rD_));exact HO_13.out⟩,⟨bw_⟩⟩
          rw[if_pos c39]at H
          have c39b0:=decide_eq_true c39
          clear c39
          have HC40:=Aside0.mk H
          clear H
          go_upto_region 19 with (fail)
          go_cut [130] (fun v130 wc=>∃ (kq:Nat) (x130_39:Bool),v130= .bool x130_39∧Aside0 (pfor_read.j3 kq l0 (wrap64 (rd l0 0)) t221 x9_3 (wrap64 (rd l0 (ji22))) x11_3 x13_3 x130_39=some (r1,r2,r3))∧Aside0 (kq<=k3)∧Aside0 (Kd.R (Kd.int .u64) 48 wc w.heap.size (fun _=>True) v231 x13_3)∧Aside0 (Below w.heap.size w wc))
          case first=>
           have H:=HC40.out
           clear HC40
           by_cases c41:x9_3≥(l0.length:Int)
           .rw[if_pos c41]at H
            have c41b0:=decide_eq_true c41
            clear c41
            (first|rw[c41b0]|(simp only[i64_w,i32_w];rw[c41b0])|skip)
            have H':=Aside0.mk H
            clear H
            go_wp2
            go_meet
            case rel=>exact⟨_,(true),rs_,H',⟨by have:=HJ1.out;have:=HJ9.out;have:=HK3.out;first|omega|exact Nat.le_refl _⟩,⟨Kd.ru_ HO_13.out⟩,⟨bw_⟩⟩
           .rw[if_neg c41]at H
            have c41b0:=decide_eq_false c41
            clear c41
            (first|rw[c41b0]|(simp only[i64_w,i32_w];rw[c41b0])|skip)
            by_cases c42:0<=x9_3
            rotate_left
            .rw[if_neg c42]at H
             cases H
            rw[if_pos c42]at H
            have c42b0:=decide_eq_true c42
            clear c42
            by_cases c43:x9_3 < (l0.length:Int)
            rotate_left
            .rw[if_neg c43]at H
             cases H
            rw[if_pos c43]at H
            have c43b0:=decide_eq_true c43
            clear c43
            by_cases c44:(wrap64 (rd l0 x9_3))≥(wrap64 (rd l0 0))
            rotate_left
            .rw[if_neg c44]at H
             have c44b0:=decide_eq_false c44
             clear c44
             have H':=Aside0.mk H
             clear H
             have p233:0<=(x9_3:Int):=od_
             have q233:x9_3 < (l0.length:Int):=od_
             obtain⟨ad233,e233,hx233_0⟩:=Kd.at_int HR0.out x9_3 p233 q233
             obtain rfl:ad219=ad233:=(by injection e233)
             replace hx233_0:=cx_ HB.out rfl hx233_0
             replace p233:=eq_true p233
             replace q233:=eq_true q233
             go_wp2
             go_meet
             case rel=>exact⟨_,(((wrap64 (rd l0 (ji22)))==64)),(by first|rfl|(simp;done)|(simp only[<- hji22]<;>(first|rfl|simp))|(simp[*];done)),H',⟨by have:=HJ1.out;have:=HJ9.out;have:=HK3.out;first|omega|exact Nat.le_refl _⟩,⟨Kd.ru_ HO_13.out⟩,⟨bw_⟩⟩
            rw[if_pos c44]at H
            have c44b0:=decide_eq_true c44
            clear c44
            have H':=Aside0.mk H
            clear H
            have p233:0<=(x9_3:Int):=od_
            have q233:x9_3 < (l0.length:Int):=od_
            obtain⟨ad233,e233,hx233_0⟩:=Kd.at_int HR0.out x9_3 p233 q233
            obtain rfl:ad219=ad233:=(by injection e233)
            replace hx233_0:=cx_ HB.out rfl hx233_0
            replace p233:=eq_true p233
            replace q233:=eq_true q233
            go_wp2
            go_meet
            case rel=>exact⟨_,(true),rs_,H',⟨by have:=HJ1.out;have:=HJ9.out;have:=HK3.out;first|omega|exact Nat.le_refl _⟩,⟨Kd.ru_ HO_13.out⟩,⟨bw_⟩⟩
          case rest=>
           clear HC40
           clear c39b0
           obtain⟨kq,x130_39,rfl,HA,HJ39,HO_13,HB⟩:=hcut
           cases kq with
           |zero=>exact absurd HA.out (by simp[pfor_read.j3])
           |succ kj39=>
            have H:=HA.out
            clear HA
            simp only[pfor_read.j3]at H
            by_cases c45:x130_39=true
            .subst c45
             rw[if_pos rfl]at H
             simp only[Option.some.injEq,Prod.mk.injEq]at H
             obtain⟨rfl,rfl,rfl⟩:=H
             go_wp2
             go_ret3
             exact⟨_,by first|rfl|(simp[eWn_,eWs_]<;>rfl)|(simp only[<- hji22,<- hji25,<- hji30];first|rfl|(simp[eWn_,eWs_]<;>rfl))|(simp[*,eWn_,eWs_]<;>rfl),ni_,bw_⟩
            .replace c45:=Bool.eq_false_iff.mpr c45
             subst c45
             rw[if_neg (show ¬ (false=true) by decide)]at H
             by_cases c46:0<=x9_3
             rotate_left
             .rw[if_neg c46]at H
              cases H
             rw[if_pos c46]at H
             have c46b0:=decide_eq_true c46
             clear c46
             by_cases c47:x9_3 < (l0.length:Int)
             rotate_left
             .rw[if_neg c47]at H
              cases H
             rw[if_pos c47]at H
             have c47b0:=decide_eq_true c47
             clear c47
             obtain⟨ji48,hji48⟩:∃ j_:Int,(wrap64 (x9_3+1))=j_:=⟨_,rfl⟩
             replace H:(if 0<=(ji48)then(if(ji48)<=(l0.length:Int)then((num_Take.f kj39 (l0.drop ((ji48):Int).toNat)).bind fun bt236=>(if bt236.2.2=0 then(if 0<=(wrap64 (rd l0 x9_3))then(if(wrap64 (rd l0 x9_3)) < (x13_3.length:Int)then(if 0<=(wrap64 (rd l0 (ji22)))then(pfor_read.l0 kj39 l0 (wrap64 (rd l0 0)) t221 (wrap64 (x9_3+(wrap64 (1+bt236.2.1)))) (wrap64 (rd l0 (ji22))) (wrap64 (x11_3 - 1)) (x13_3.set ((wrap64 (rd l0 x9_3)):Int).toNat (IntKind.u64.wrap ((rd x13_3 (wrap64 (rd l0 x9_3)))+(shl .u64 bt236.1 (wrap64 (rd l0 (ji22))))))))else(none))else(none))else(none))else(some (([]:List Int),0,false))))else(none))else(none))=some (r1,r2,r3):=hj_ hji48 H
             have hji48w:(IntKind.i64.wrap (x9_3+1))=ji48:=(i64_w _).trans hji48
             by_cases c49:0<=(ji48)
             rotate_left
             .rw[if_neg c49]at H
              cases H
             rw[if_pos c49]at H
             have c49b0:=eq_true c49
             have c49b1:=decide_eq_true c49
             clear c49
             by_cases c50:(ji48)<=(l0.length:Int)
             rotate_left
             .rw[if_neg c50]at H
              cases H
             rw[if_pos c50]at H
             have c50b0:=eq_true c50
             have c50b1:=decide_eq_true c50
             clear c50
             replace H:=Option.bind_eq_some_iff.mp H
             obtain⟨⟨t236,t237,t238⟩,A510,H⟩:=H
             try dsimp only at H
             have A51:=Aside0.mk A510
             clear A510
             by_cases c52:t238=0
             rotate_left
             .rw[if_neg c52]at H
              have c52b0:=beq_eq_false_iff_ne.mpr c52
              have c52b1:=bne_iff_ne.mpr c52
              simp only[Option.some.injEq,Prod.mk.injEq]at H
              obtain⟨rfl,rfl,rfl⟩:=H
              have p234:0<=(x9_3:Int):=od_
              have q234:x9_3 < (l0.length:Int):=od_
              obtain⟨ad234,e234,hx234_0⟩:=Kd.at_int HR0.out x9_3 p234 q234
              obtain rfl:ad219=ad234:=(by injection e234)
              replace hx234_0:=cx_ HB.out rfl hx234_0
              replace p234:=eq_true p234
              replace q234:=eq_true q234
              obtain⟨i064,hi064,_,hsz64,_⟩:=info_parts info5
              obtain⟨A64,hcut64,hA64,hC64⟩:=print_drop_of (P:=Try.prog) (Value.int .u8) 0 22 5 .i64 Try.underlying22 hi064 hsz64 (some ad219) c0 l0 (ji48) od_ od_ HC0.out
              have HR235:=Aside0.mk (Kd.C_of_reads (h1:=fun _=>rfl) (hA64 _ (Kd.reads_of_C HR0.out)))
              have HC235:=Aside0.mk hC64
              clear hA64 hC64 hi064 hsz64
              go_wp2_with (first|((with_reducible refine gaC_ (f:=55) rfl ?_);refine goesL_ (some 141) rfl rfl Try.func55 (by kernel_rfl) rfl #[.slice A64 (l0.drop ((ji48):Int).toNat).length (c0 - (ji48).toNat)] rfl (by(try simp only[List.map_toArray,List.map_cons,List.map_nil]);first|done|(rw[show(l0.drop ((ji48):Int).toNat).length=(l0.length - (ji48).toNat) from List.length_drop]<;>rfl)|(simp only[hji48];rfl)|rfl|(simp only[List.length_drop,List.length_take];rfl)) ?_;(with_reducible refine(num_Take.calls kj39 _ _ (l0.drop ((ji48):Int).toNat) t236 t237 t238 _ ?side1 ?side2 A51.out).mono ?_);(case side1=>exact Kd.cu_ (Kd.C_below HR235.out HB.out));(case side2=>exact HC235.out);rintro e w' ⟨rfl,⟨nd,rfl⟩⟩;refine⟨_,rfl,?_⟩))
              go_ret3
              exact⟨_,by first|rfl|(simp[eWn_,eWs_]<;>rfl)|(simp only[<- hji22,<- hji25,<- hji30,<- hji48];first|rfl|(simp[eWn_,eWs_]<;>rfl))|(simp[*,eWn_,eWs_]<;>rfl),ni_,bw_⟩
             rw[if_pos c52]at H
             have c52b0:=beq_iff_eq.mpr c52
             have c52b1:=bne_eq_false_iff_eq.mpr c52
             clear c52
             obtain⟨ji53,hji53⟩:∃ j_:Int,(wrap64 (rd l0 x9_3))=j_:=⟨_,rfl⟩
             replace H:(if 0<=(ji53)then(if(ji53) < (x13_3.length:Int)then(if 0<=(wrap64 (rd l0 (ji22)))then(pfor_read.l0 kj39 l0 (wrap64 (rd l0 0)) t221 (wrap64 (x9_3+(wrap64 (1+t237)))) (wrap64 (rd l0 (ji22))) (wrap64 (x11_3 - 1)) (x13_3.set ((ji53):Int).toNat (IntKind.u64.wrap ((rd x13_3 (ji53))+(shl .u64 t236 (wrap64 (rd l0 (ji22))))))))else(none))else(none))else(none))=some (r1,r2,r3):=hj_ hji53 H
             have hji53w:(IntKind.i64.wrap (rd l0 x9_3))=ji53:=(i64_w _).trans hji53
             by_cases c54:0<=(ji53)
             rotate_left
             .rw[if_neg c54]at H
              cases H
             rw[if_pos c54]at H
             have c54b0:=decide_eq_true c54
             clear c54
             by_cases c55:(ji53) < (x13_3.length:Int)
             rotate_left
             .rw[if_neg c55]at H
              cases H
             rw[if_pos c55]at H
             have c55b0:=decide_eq_true c55
             clear c55
             obtain⟨ji56,hji56⟩:∃ j_:Int,(wrap64 (rd l0 (ji22)))=j_:=⟨_,rfl⟩
             replace H:(if 0<=(ji56)then(pfor_read.l0 kj39 l0 (wrap64 (rd l0 0)) t221 (wrap64 (x9_3+(wrap64 (1+t237)))) (ji56) (wrap64 (x11_3 - 1)) (x13_3.set ((ji53):Int).toNat (IntKind.u64.wrap ((rd x13_3 (ji53))+(shl .u64 t236 (ji56))))))else(none))=some (r1,r2,r3):=hj_ hji56 H
             have hji56w:(IntKind.i64.wrap (rd l0 (ji22)))=ji56:=(i64_w _).trans hji56
             by_cases c57:0<=(ji56)
             rotate_left
             .rw[if_neg c57]at H
              cases H
             rw[if_pos c57]at H
             have c57b0:=eq_true c57
             have c57b1:=decide_eq_true c57
             clear c57
             obtain⟨ji58,hji58⟩:∃ j_:Int,(shl .u64 t236 (ji56))=j_:=⟨_,rfl⟩
             replace H:(pfor_read.l0 kj39 l0 (wrap64 (rd l0 0)) t221 (wrap64 (x9_3+(wrap64 (1+t237)))) (ji56) (wrap64 (x11_3 - 1)) (x13_3.set ((ji53):Int).toNat (IntKind.u64.wrap ((rd x13_3 (ji53))+(ji58)))))=some (r1,r2,r3):=hj_ hji58 H
             have hji58_:(IntKind.u64.wrap (t236*2 ^ min (ji56).toNat 64))=ji58:=hji58
             have hji58z:(ji56)<=64->(IntKind.u64.wrap (t236*2 ^ (ji56).toNat))=ji58:=shl_small hji58
             obtain⟨y240,hy240⟩:∃ y_:List Int,y_=(x13_3.set ((ji53):Int).toNat (IntKind.u64.wrap ((rd x13_3 (ji53))+(ji58)))):=⟨_,rfl⟩
             replace H:(pfor_read.l0 kj39 l0 (wrap64 (rd l0 0)) t221 (wrap64 (x9_3+(wrap64 (1+t237)))) (ji56) (wrap64 (x11_3 - 1)) y240)=some (r1,r2,r3):=hx_ hy240 H
             have Ny240:=Aside0.mk hy240
             clear hy240
             have H':=Aside0.mk H
             clear H
             have p234:0<=(x9_3:Int):=od_
             have q234:x9_3 < (l0.length:Int):=od_
             obtain⟨ad234,e234,hx234_0⟩:=Kd.at_int HR0.out x9_3 p234 q234
             obtain rfl:ad219=ad234:=(by injection e234)
             replace hx234_0:=cx_ HB.out rfl hx234_0
             replace p234:=eq_true p234
             replace q234:=eq_true q234
             obtain⟨i060,hi060,_,hsz60,_⟩:=info_parts info5
             obtain⟨A60,hcut60,hA60,hC60⟩:=print_drop_of (P:=Try.prog) (Value.int .u8) 0 22 5 .i64 Try.underlying22 hi060 hsz60 (some ad219) c0 l0 (ji48) od_ od_ HC0.out
             have HR235:=Aside0.mk (Kd.C_of_reads (h1:=fun _=>rfl) (hA60 _ (Kd.reads_of_C HR0.out)))
             have HC235:=Aside0.mk hC60
             clear hA60 hC60 hi060 hsz60
             try go_wp2_with (first|((with_reducible refine gaC_ (f:=55) rfl ?_);refine goesL_ (some 141) rfl rfl Try.func55 (by kernel_rfl) rfl #[.slice A60 (l0.drop ((ji48):Int).toNat).length (c0 - (ji48).toNat)] rfl (by(try simp only[List.map_toArray,List.map_cons,List.map_nil]);first|done|(rw[show(l0.drop ((ji48):Int).toNat).length=(l0.length - (ji48).toNat) from List.length_drop]<;>rfl)|(simp only[hji48];rfl)|rfl|(simp only[List.length_drop,List.length_take];rfl)) ?_;(with_reducible refine(num_Take.calls kj39 _ _ (l0.drop ((ji48):Int).toNat) t236 t237 t238 _ ?side1 ?side2 A51.out).mono ?_);(case side1=>exact Kd.cu_ (Kd.C_below HR235.out HB.out));(case side2=>exact HC235.out);rintro e w' ⟨rfl,⟨nd,rfl⟩⟩;refine⟨_,rfl,?_⟩;(try(rw[drewN_self wc];generalize hq_:World.drewN wc _=wc;have n0_:Aside0 (Kd.R (Kd.int .u64) 48 wc w.heap.size (fun _=>True) v231 x13_3):=⟨by rw[<- hq_];exact(Kd.ru_ HO_13.out)⟩;have n1_:Aside0 (Below w.heap.size w wc):=⟨by rw[<- hq_];exact bw_⟩;clear HO_13 HB hq_;have HO_13:=n0_;have HB:=n1_;clear n0_ n1_))))
             have n0_:=Aside0.mk (Kd.rD_ HO_13.out)
             have n1_:=Aside0.mk (pb1_ HB.out)
             clear HO_13
             clear HB
             have HO_13:=n0_
             have HB:=n1_
             clear n0_ n1_
             obtain⟨Ao62,co62,eo62⟩:=Kd.R_slice HO_13.out
             (first|subst eo62|(injection eo62 with f1_ f2_ f3_;have f4_:=f1_.symm;have f5_:=f3_.symm;clear f1_ f2_ f3_;subst f4_;subst f5_))
             have p239:0<=((ji53):Int):=od_
             have q239:(ji53) < (x13_3.length:Int):=od_
             obtain⟨ad239,e239,hx239_0⟩:=Kd.at_int (Kd.R_reads' HO_13.out).2.2 (ji53) p239 q239
             cases e239
             replace p239:=eq_true p239
             replace q239:=eq_true q239
             have p59:0<=((ji53):Int):=od_
             have q59:((ji53):Int) < ((x13_3.length:Int):Int):=od_
             obtain⟨go59,co59,eo59,gb59,gl59,cl59,HG59⟩:=Kd.R_form HO_13.out (by omega)
             (first|cases eo59|(injection eo59 with ea_ en_ ec_;(first|subst ea_|(injection ea_ with ea_;subst ea_));subst ec_;clear en_))
             have GB59:=Aside0.mk gb59
             have GG59:=Aside0.mk HG59
             clear gb59 gl59 HG59
             (first|simp only[add_plain]at hx239_0|skip)
             obtain⟨hx59_0,hf59_0⟩:=Kd.R_celln 0 HO_13.out ((ji53):Int) p59 q59
             replace p59:=eq_true p59
             replace q59:=eq_true q59
             have HP63:=Kd.R_putn HO_13.out ((ji53):Int) (IntKind.u64.wrap ((rd x13_3 (ji53))+(ji58)))
             rw[<- Ny240.out]at HP63
             have HQ63:=Aside0.mk HP63
             clear HP63
             refine start_ (n:=10) (S:=fun w'=>w'.cell? ⟨go59,((ji53)).toNat,none⟩=some (.int .u64 (rd x13_3 (ji53)))) (ds:=[9]) #[false,false,false,false,false,false,false,false,false,false] (by kernel_rfl) rfl rfl (hx239_0) (fun hHeld=>?_);refine with_tabW pfor_read.tab25 pfor_read.bits25 (fun HT_ HW_=>?_)
             generalize wc.drew=w61 at HO_13 HB GG59 HQ63 hf59_0 hx239_0 hx59_0 hHeld ⊢
             refine pv_ (i:=0) (N:=some 147) HT_ ?_
             refine pv_ (i:=1) (N:=some 148) HT_ ?_
             refine pv_ (i:=2) (N:=some 149) HT_ ?_
             refine pv_ (i:=4) (N:=some 151) HT_ ?_
             refine pv_ (i:=5) (N:=some 152) HT_ ?_
             refine pv_ (i:=6) (N:=some 153) HT_ ?_
             refine tv_ (i:=3) (N:=some 150) HT_ HW_ hHeld ?_
             refine pv_ (i:=7) (N:=some 154) HT_ ?_
             refine pv_ (i:=8) (N:=some 155) HT_ ?_
             refine last_ (i:=9) (N:=none) #[tT,tT,tT,tT,tT,tT,tT,tT,tT,tT] rfl rfl (one_of HT_.out (by kernel_rfl)) (by decide) (fun K hK=>?_)
             refine skip_ (w1:=?_) (by rfl) rfl ?_ ?_
             rotate_left
             .go_simp
              rfl
             refine hK.out _ _ ?_
             clear hK K
             refine done_ (done_of HT_.out (by kernel_rfl)) ?_
             try go_wp2
             subst hji58 hji56 hji53 hji48
             go_roundg kj39
             case measure=>have:=HJ1.out;have:=HJ9.out;have:=HK3.out;have:=HJ39.out;omega
             case rel=>exact⟨(wrap64 (x9_3+(wrap64 (1+t237)))),(wrap64 (x11_3 - 1)),(y240),rs_,rs_,H',⟨by have:=HJ1.out;have:=HJ9.out;have:=HK3.out;have:=HJ39.out;omega⟩,⟨Kd.ru_ HQ63.out⟩,⟨by repeat(first|(with_reducible first|exact HB.out|apply pbA_|apply pbN_|apply pb1_|refine below_set ?_ GB59.out)|exact HB.out)⟩⟩
def bytes_Equal.f (l0:List Int) (l1:List Int):Option (Bool):=some ((strOfNums l0).toList==(strOfNums l1).toList)
set_option maxHeartbeats 8000000 in
set_option maxRecDepth 100000 in
theorem bytes_Equal.calls (A0:Option Addr) (c0:Nat) (l0:List Int) (A1:Option Addr) (c1:Nat) (l1:List Int) (r:Bool) (w:World) (hr0:Kd.C (Kd.int .u8) w A0 l0.length l0) (hc0:l0.length<=c0) (hr1:Kd.C (Kd.int .u8) w A1 l1.length l1) (hc1:l1.length<=c1) (h:bytes_Equal.f l0 l1=some r):
  Calls Try.prog 70 #[.slice A0 l0.length c0,.slice A1 l1.length c1] w fun e w'=>e= .returned (.bool r)∧Drawn0 w w':=by
 have HR0:=Aside0.mk hr0
 have HC0:=Aside0.mk hc0
 clear hr0 hc0
 have HR1:=Aside0.mk hr1
 have HC1:=Aside0.mk hc1
 clear hr1 hc1
 have H:(some ((strOfNums l0).toList==(strOfNums l1).toList))=some r:=h
 clear h
 obtain rfl:=Option.some.inj H
 have hcv3:=Kd.C_string (P:=Try.prog) (A:=A0) (c:=c0) Try.underlying22 Try.underlying5 Try.underlying9 HR0.out
 have hcv4:=Kd.C_string (P:=Try.prog) (A:=A1) (c:=c1) Try.underlying22 Try.underlying5 Try.underlying9 HR1.out
 go_enter Try.func70,Try.ntmps70
 go_wp2
 go_ret
 exact⟨by first|rfl|(simp;done)|(simp[*];done),by repeat(first|exact Drawn0.refl _|apply Drawn0.step)⟩
def pfor_TakeBlock.f (k:Nat) (l0:List Int):Option (List Int×Int×Int):=(pfor_read.f k l0).bind fun bt243=>(if bt243.2.2=true then((pfor_PutBlock.f k ([]:List Int) bt243.1).bind fun bt248=>(if bt248.2=0 then(if 0<=bt243.2.1 then(if bt243.2.1<=(l0.length:Int)then((bytes_Equal.f bt248.1 (l0.take (bt243.2.1:Int).toNat)).bind fun t253=>(if t253=true then(some (bt243.1,bt243.2.1,0))else(some (([]:List Int),0,2))))else(none))else(none))else(some (([]:List Int),0,2))))else(some (([]:List Int),0,2)))
theorem pfor_TakeBlock.mono:∀ a0 k,LeO (pfor_TakeBlock.f k a0) (pfor_TakeBlock.f (k+1) a0):=by
 intro a0 k
 unfold pfor_TakeBlock.f
 repeat' first
   |(with_reducible exact pfor_PutBlock.mono _ _ _)
   |(with_reducible exact pfor_read.mono _ _)
   |(with_reducible exact LeO.refl _)
   |(with_reducible exact LeO.none _)
   |(with_reducible refine LeO.ite ?_ ?_)
   |(with_reducible refine LeO.bind ?_ (fun _=>?_))
set_option maxHeartbeats 8000000 in
set_option maxRecDepth 100000 in
theorem pfor_TakeBlock.calls (k:Nat) (A0:Option Addr) (c0:Nat) (l0:List Int) (r1:List Int) (r2:Int) (r3:Int) (w:World) (hr0:Kd.C (Kd.int .u8) w A0 l0.length l0) (hc0:l0.length<=c0) (h:pfor_TakeBlock.f k l0=some (r1,r2,r3)):
  Calls Try.prog 58 #[.slice A0 l0.length c0] w fun e w'=>∃ v0_:Value,e= .returned (.tuple #[v0_,.int .i64 r2,.int .i64 r3])∧Kd.R (Kd.int .u64) 48 w' w.heap.size (fun _=>True) v0_ r1∧Below w.heap.size w w':=by
 have HR0:=Aside0.mk hr0
 have HC0:=Aside0.mk hc0
 clear hr0 hc0
 have HB:=Aside0.mk (Below.refl w.heap.size w)
 have H:((pfor_read.f k l0).bind fun bt243=>(if bt243.2.2=true then((pfor_PutBlock.f k ([]:List Int) bt243.1).bind fun bt248=>(if bt248.2=0 then(if 0<=bt243.2.1 then(if bt243.2.1<=(l0.length:Int)then((bytes_Equal.f bt248.1 (l0.take (bt243.2.1:Int).toNat)).bind fun t253=>(if t253=true then(some (bt243.1,bt243.2.1,0))else(some (([]:List Int),0,2))))else(none))else(none))else(some (([]:List Int),0,2))))else(some (([]:List Int),0,2))))=some (r1,r2,r3):=h
 clear h
 replace H:=Option.bind_eq_some_iff.mp H
 obtain⟨⟨t243,t244,t245⟩,A20,H⟩:=H
 try dsimp only at H
 have A2:=Aside0.mk A20
 clear A20
 by_cases c3:t245=true
 rotate_left
 .replace c3:=Bool.eq_false_iff.mpr c3
  subst c3
  rw[if_neg (show ¬ (false=true) by decide)]at H
  simp only[Option.some.injEq,Prod.mk.injEq]at H
  obtain⟨rfl,rfl,rfl⟩:=H
  go_enter Try.func58,Try.ntmps58
  go_wp2_with (first|((with_reducible refine gaC_ (f:=69) rfl ?_);refine goesL_ (some 12) rfl rfl Try.func69 (by kernel_rfl) rfl #[.slice A0 l0.length c0] rfl am_ ?_;(with_reducible refine(pfor_read.calls k _ _ l0 t243 t244 false _ ?side1 ?side2 A2.out).mono ?_);(case side1=>exact Kd.cu_ HR0.out);(case side2=>exact HC0.out);rintro e w23 ⟨v246,rfl,ho0,hb⟩;refine⟨_,rfl,?_⟩;have HO247:=Aside0.mk (Kd.R_lower ho0 (pbS_ bw_));replace HB:=Aside0.mk (below_step bw_ hb)))
  go_ret3
  exact⟨_,rf_,ni_,bw_⟩
 subst c3
 rw[if_pos rfl]at H
 replace H:=Option.bind_eq_some_iff.mp H
 obtain⟨⟨t248,t249⟩,A40,H⟩:=H
 try dsimp only at H
 have A4:=Aside0.mk A40
 clear A40
 by_cases c5:t249=0
 rotate_left
 .rw[if_neg c5]at H
  have c5b0:=beq_eq_false_iff_ne.mpr c5
  have c5b1:=bne_iff_ne.mpr c5
  simp only[Option.some.injEq,Prod.mk.injEq]at H
  obtain⟨rfl,rfl,rfl⟩:=H
  go_enter Try.func58,Try.ntmps58
  go_wp2_with (first|((with_reducible refine gaC_ (f:=69) rfl ?_);refine goesL_ (some 12) rfl rfl Try.func69 (by kernel_rfl) rfl #[.slice A0 l0.length c0] rfl am_ ?_;(with_reducible refine(pfor_read.calls k _ _ l0 t243 t244 true _ ?side1 ?side2 A2.out).mono ?_);(case side1=>exact Kd.cu_ HR0.out);(case side2=>exact HC0.out);rintro e w20 ⟨v246,rfl,ho0,hb⟩;refine⟨_,rfl,?_⟩;have HO247:=Aside0.mk (Kd.R_lower ho0 (pbS_ bw_));replace HB:=Aside0.mk (below_step bw_ hb);obtain⟨Ao21,co21,eo21⟩:=Kd.R_slice HO247.out;subst eo21)|((with_reducible refine gaC_ (f:=26) rfl ?_);refine goesL_ (some 20) rfl rfl Try.func26 (by kernel_rfl) rfl #[.slice none 0 0,.slice Ao21 t243.length co21] rfl am_ ?_;(refine(pfor_PutBlock.calls k _ _ ([]:List Int) _ _ t243 t248 t249 _ ?side1 ?side2 ?side3 ?side4 A4.out).mono ?_);(case side1=>exact Kd.C_nil _ _);(case side2=>exact Nat.le_refl _);(case side3=>exact Kd.cu_ (Kd.R_reads' HO247.out).2.2);(case side4=>exact(Kd.R_reads' HO247.out).2.1);rintro e w22 ⟨v250,rfl,ho0,hb⟩;refine⟨_,rfl,?_⟩;replace HO247:=Aside0.mk (Kd.R_below (Kd.ru_ HO247.out) hb);have HO251:=Aside0.mk (Kd.R_lower ho0 (pbS_ bw_));replace HB:=Aside0.mk (below_step bw_ hb)))
  go_ret3
  exact⟨_,rf_,ni_,bw_⟩
 rw[if_pos c5]at H
 have c5b0:=beq_iff_eq.mpr c5
 have c5b1:=bne_eq_false_iff_eq.mpr c5
 clear c5
 by_cases c6:0<=t244
 rotate_left
 .rw[if_neg c6]at H
  cases H
 rw[if_pos c6]at H
 have c6b0:=eq_true c6
 have c6b1:=decide_eq_true c6
 clear c6
 by_cases c7:t244<=(l0.length:Int)
 rotate_left
 .rw[if_neg c7]at H
  cases H
 rw[if_pos c7]at H
 have c7b0:=eq_true c7
 have c7b1:=decide_eq_true c7
 clear c7
 replace H:=Option.bind_eq_some_iff.mp H
 obtain⟨t253,A80,H⟩:=H
 try dsimp only at H
 have A8:=Aside0.mk A80
 clear A80
 by_cases c9:t253=true
 .subst c9
  rw[if_pos rfl]at H
  simp only[Option.some.injEq,Prod.mk.injEq]at H
  obtain⟨rfl,rfl,rfl⟩:=H
  go_enter Try.func58,Try.ntmps58
  go_wp2_with (first|((with_reducible refine gaC_ (f:=69) rfl ?_);refine goesL_ (some 12) rfl rfl Try.func69 (by kernel_rfl) rfl #[.slice A0 l0.length c0] rfl am_ ?_;(with_reducible refine(pfor_read.calls k _ _ l0 t243 t244 true _ ?side1 ?side2 A2.out).mono ?_);(case side1=>exact Kd.cu_ HR0.out);(case side2=>exact HC0.out);rintro e w10 ⟨v246,rfl,ho0,hb⟩;refine⟨_,rfl,?_⟩;have HO247:=Aside0.mk (Kd.R_lower ho0 (pbS_ bw_));replace HB:=Aside0.mk (below_step bw_ hb);obtain⟨Ao11,co11,eo11⟩:=Kd.R_slice HO247.out;subst eo11)|((with_reducible refine gaC_ (f:=26) rfl ?_);refine goesL_ (some 20) rfl rfl Try.func26 (by kernel_rfl) rfl #[.slice none 0 0,.slice Ao11 t243.length co11] rfl am_ ?_;(refine(pfor_PutBlock.calls k _ _ ([]:List Int) _ _ t243 t248 t249 _ ?side1 ?side2 ?side3 ?side4 A4.out).mono ?_);(case side1=>exact Kd.C_nil _ _);(case side2=>exact Nat.le_refl _);(case side3=>exact Kd.cu_ (Kd.R_reads' HO247.out).2.2);(case side4=>exact(Kd.R_reads' HO247.out).2.1);rintro e w12 ⟨v250,rfl,ho0,hb⟩;refine⟨_,rfl,?_⟩;replace HO247:=Aside0.mk (Kd.R_below (Kd.ru_ HO247.out) hb);have HO251:=Aside0.mk (Kd.R_lower ho0 (pbS_ bw_));replace HB:=Aside0.mk (below_step bw_ hb);obtain⟨i013,hi013,_,hsz13,_⟩:=info_parts info5;obtain⟨hcut13,hA13,hC13⟩:=print_take_of (P:=Try.prog) (Value.int .u8) 0 22 5 .i64 Try.underlying22 hi013 hsz13 A0 c0 l0 t244 od_ od_ HC0.out;have HR252:=Aside0.mk (Kd.C_of_reads (h1:=fun _=>rfl) (hA13 _ (Kd.reads_of_C HR0.out)));have HC252:=Aside0.mk hC13;clear hA13 hC13 hi013 hsz13;obtain⟨Ao14,co14,eo14⟩:=Kd.R_slice HO251.out;subst eo14)|(go_at_call 70;refine calls_of_args (args':= #[.slice Ao14 t248.length co14,.slice A0 (l0.take (t244:Int).toNat).length c0]) (by first|(rw[show(l0.take (t244:Int).toNat).length=t244.toNat from(by rw[List.length_take];have h_:(t244:Int)<=(l0.length:Int):=od_;omega)]<;>rfl)|(simp only[List.length_take,List.length_drop,Int.toNat_natCast]<;>rfl)|rfl) ?_;(with_reducible refine(bytes_Equal.calls _ _ t248 _ _ (l0.take (t244:Int).toNat) true _ ?side1 ?side2 ?side3 ?side4 A8.out).mono ?_);(case side1=>exact Kd.cu_ (Kd.R_reads' HO251.out).2.2);(case side2=>exact(Kd.R_reads' HO251.out).2.1);(case side3=>exact Kd.cu_ (Kd.C_below HR252.out HB.out));(case side4=>exact HC252.out);rintro e w' ⟨rfl,⟨nd,rfl⟩⟩))
  go_ret3
  exact⟨_,rf_,by(with_reducible repeat(first|apply Kd.rA_|apply Kd.rN_|apply Kd.rD_));exact HO247.out,bw_⟩
 .replace c9:=Bool.eq_false_iff.mpr c9
  subst c9
  rw[if_neg (show ¬ (false=true) by decide)]at H
  simp only[Option.some.injEq,Prod.mk.injEq]at H
  obtain⟨rfl,rfl,rfl⟩:=H
  go_enter Try.func58,Try.ntmps58
  go_wp2_with (first|((with_reducible refine gaC_ (f:=69) rfl ?_);refine goesL_ (some 12) rfl rfl Try.func69 (by kernel_rfl) rfl #[.slice A0 l0.length c0] rfl am_ ?_;(with_reducible refine(pfor_read.calls k _ _ l0 t243 t244 true _ ?side1 ?side2 A2.out).mono ?_);(case side1=>exact Kd.cu_ HR0.out);(case side2=>exact HC0.out);rintro e w15 ⟨v246,rfl,ho0,hb⟩;refine⟨_,rfl,?_⟩;have HO247:=Aside0.mk (Kd.R_lower ho0 (pbS_ bw_));replace HB:=Aside0.mk (below_step bw_ hb);obtain⟨Ao16,co16,eo16⟩:=Kd.R_slice HO247.out;subst eo16)|((with_reducible refine gaC_ (f:=26) rfl ?_);refine goesL_ (some 20) rfl rfl Try.func26 (by kernel_rfl) rfl #[.slice none 0 0,.slice Ao16 t243.length co16] rfl am_ ?_;(refine(pfor_PutBlock.calls k _ _ ([]:List Int) _ _ t243 t248 t249 _ ?side1 ?side2 ?side3 ?side4 A4.out).mono ?_);(case side1=>exact Kd.C_nil _ _);(case side2=>exact Nat.le_refl _);(case side3=>exact Kd.cu_ (Kd.R_reads' HO247.out).2.2);(case side4=>exact(Kd.R_reads' HO247.out).2.1);rintro e w17 ⟨v250,rfl,ho0,hb⟩;refine⟨_,rfl,?_⟩;replace HO247:=Aside0.mk (Kd.R_below (Kd.ru_ HO247.out) hb);have HO251:=Aside0.mk (Kd.R_lower ho0 (pbS_ bw_));replace HB:=Aside0.mk (below_step bw_ hb);obtain⟨i018,hi018,_,hsz18,_⟩:=info_parts info5;obtain⟨hcut18,hA18,hC18⟩:=print_take_of (P:=Try.prog) (Value.int .u8) 0 22 5 .i64 Try.underlying22 hi018 hsz18 A0 c0 l0 t244 od_ od_ HC0.out;have HR252:=Aside0.mk (Kd.C_of_reads (h1:=fun _=>rfl) (hA18 _ (Kd.reads_of_C HR0.out)));have HC252:=Aside0.mk hC18;clear hA18 hC18 hi018 hsz18;obtain⟨Ao19,co19,eo19⟩:=Kd.R_slice HO251.out;subst eo19)|(go_at_call 70;refine calls_of_args (args':= #[.slice Ao19 t248.length co19,.slice A0 (l0.take (t244:Int).toNat).length c0]) (by first|(rw[show(l0.take (t244:Int).toNat).length=t244.toNat from(by rw[List.length_take];have h_:(t244:Int)<=(l0.length:Int):=od_;omega)]<;>rfl)|(simp only[List.length_take,List.length_drop,Int.toNat_natCast]<;>rfl)|rfl) ?_;(with_reducible refine(bytes_Equal.calls _ _ t248 _ _ (l0.take (t244:Int).toNat) false _ ?side1 ?side2 ?side3 ?side4 A8.out).mono ?_);(case side1=>exact Kd.cu_ (Kd.R_reads' HO251.out).2.2);(case side2=>exact(Kd.R_reads' HO251.out).2.1);(case side3=>exact Kd.cu_ (Kd.C_below HR252.out HB.out));(case side4=>exact HC252.out);rintro e w' ⟨rfl,⟨nd,rfl⟩⟩))
  go_ret3
  exact⟨_,rf_,ni_,bw_⟩
def pfor_TakeList.l0:Nat->List Int->Int->List Int->Int->Option (List Int×Int×Int)
 |0,_,_,_,_=>none
 |k+1,x0,x8,x10,x11=>if x11 > 0 then(if 0<=x8 then(if x8<=(x0.length:Int)then((pfor_TakeBlock.f k (x0.drop (x8:Int).toNat)).bind fun bt258=>(if bt258.2.2=0 then(if(bt258.1.length:Int)=(mn x11 32)then(if x10.length+bt258.1.length < 17592186044416 then(pfor_TakeList.l0 k x0 (wrap64 (x8+bt258.2.1)) (x10++bt258.1) (wrap64 (x11 - (bt258.1.length:Int))))else(none))else(some (([]:List Int),0,2)))else(some (([]:List Int),0,2))))else(none))else(none))else(some (x10,x8,0))
def pfor_TakeList.f (k:Nat) (l0:List Int) (a1:Int):Option (List Int×Int×Int):=if a1 < 0 then(some (([]:List Int),0,1))else((num_Take.f k l0).bind fun bt254=>(if bt254.2.2=0 then(if bt254.1 > (IntKind.u64.wrap (a1))then(some (([]:List Int),0,5))else(pfor_TakeList.l0 k l0 bt254.2.1 ([]:List Int) (wrap64 (bt254.1))))else(some (([]:List Int),0,2))))
theorem pfor_TakeList.mono_l:∀ k,(∀ y0 y1 y2 y3,LeO (pfor_TakeList.l0 k y0 y1 y2 y3) (pfor_TakeList.l0 (k+1) y0 y1 y2 y3))
 |0=>fun _ _ _ _ r h=>by simp[pfor_TakeList.l0]at h
 |k+1=>by
  have ih0:=pfor_TakeList.mono_l k
  .intro y0 y1 y2 y3
   unfold pfor_TakeList.l0
   repeat' first
   |(with_reducible exact ih0 _ _ _ _)
   |(with_reducible exact num_Take.mono _ _)
   |(with_reducible exact pfor_TakeBlock.mono _ _)
   |(with_reducible exact LeO.refl _)
   |(with_reducible exact LeO.none _)
   |(with_reducible refine LeO.ite ?_ ?_)
   |(with_reducible refine LeO.bind ?_ (fun _=>?_))
theorem pfor_TakeList.mono:∀ a0 a1 k,LeO (pfor_TakeList.f k a0 a1) (pfor_TakeList.f (k+1) a0 a1):=by
 intro a0 a1 k
 have ih0:=pfor_TakeList.mono_l k
 unfold pfor_TakeList.f
 repeat' first
   |(with_reducible exact ih0 _ _ _ _)
   |(with_reducible exact num_Take.mono _ _)
   |(with_reducible exact pfor_TakeBlock.mono _ _)
   |(with_reducible exact LeO.refl _)
   |(with_reducible exact LeO.none _)
   |(with_reducible refine LeO.ite ?_ ?_)
   |(with_reducible refine LeO.bind ?_ (fun _=>?_))
set_option maxHeartbeats 8000000 in
set_option maxRecDepth 100000 in
theorem pfor_TakeList.calls (k:Nat) (A0:Option Addr) (c0:Nat) (l0:List Int) (a1:Int) (r1:List Int) (r2:Int) (r3:Int) (w:World) (hr0:Kd.C (Kd.int .u8) w A0 l0.length l0) (hc0:l0.length<=c0) (h:pfor_TakeList.f k l0 a1=some (r1,r2,r3)):
  Calls Try.prog 59 #[.slice A0 l0.length c0,.int .i64 a1] w fun e w'=>∃ v0_:Value,e= .returned (.tuple #[v0_,.int .i64 r2,.int .i64 r3])∧Kd.R (Kd.int .u64) 48 w' w.heap.size (fun _=>True) v0_ r1∧Below w.heap.size w w':=by
 have HR0:=Aside0.mk hr0
 have HC0:=Aside0.mk hc0
 clear hr0 hc0
 have HB:=Aside0.mk (Below.refl w.heap.size w)
 have H:(if a1 < 0 then(some (([]:List Int),0,1))else((num_Take.f k l0).bind fun bt254=>(if bt254.2.2=0 then(if bt254.1 > (IntKind.u64.wrap (a1))then(some (([]:List Int),0,5))else(pfor_TakeList.l0 k l0 bt254.2.1 ([]:List Int) (wrap64 (bt254.1))))else(some (([]:List Int),0,2)))))=some (r1,r2,r3):=h
 clear h
 by_cases c3:a1 < 0
 .rw[if_pos c3]at H
  have c3b0:=decide_eq_true c3
  clear c3
  simp only[Option.some.injEq,Prod.mk.injEq]at H
  obtain⟨rfl,rfl,rfl⟩:=H
  go_enter Try.func59,Try.ntmps59
  go_wp2
  go_ret3
  exact⟨_,rf_,ni_,bw_⟩
 .rw[if_neg c3]at H
  have c3b0:=decide_eq_false c3
  clear c3
  replace H:=Option.bind_eq_some_iff.mp H
  obtain⟨⟨t254,t255,t256⟩,A40,H⟩:=H
  try dsimp only at H
  have A4:=Aside0.mk A40
  clear A40
  by_cases c5:t256=0
  rotate_left
  .rw[if_neg c5]at H
   have c5b0:=beq_eq_false_iff_ne.mpr c5
   have c5b1:=bne_iff_ne.mpr c5
   simp only[Option.some.injEq,Prod.mk.injEq]at H
   obtain⟨rfl,rfl,rfl⟩:=H
   go_enter Try.func59,Try.ntmps59
   go_wp2_with (first|((with_reducible refine gaC_ (f:=55) rfl ?_);refine goesL_ (some 19) rfl rfl Try.func55 (by kernel_rfl) rfl #[.slice A0 l0.length c0] rfl am_ ?_;(with_reducible refine(num_Take.calls k _ _ l0 t254 t255 t256 _ ?side1 ?side2 A4.out).mono ?_);(case side1=>exact Kd.cu_ HR0.out);(case side2=>exact HC0.out);rintro e w' ⟨rfl,⟨nd,rfl⟩⟩;refine⟨_,rfl,?_⟩))
   go_ret3
   exact⟨_,rf_,ni_,bw_⟩
  rw[if_pos c5]at H
  have c5b0:=beq_iff_eq.mpr c5
  have c5b1:=bne_eq_false_iff_eq.mpr c5
  clear c5
  by_cases c6:t254 > (IntKind.u64.wrap (a1))
  .rw[if_pos c6]at H
   have c6b0:=decide_eq_true c6
   clear c6
   simp only[Option.some.injEq,Prod.mk.injEq]at H
   obtain⟨rfl,rfl,rfl⟩:=H
   go_enter Try.func59,Try.ntmps59
   go_wp2_with (first|((with_reducible refine gaC_ (f:=55) rfl ?_);refine goesL_ (some 19) rfl rfl Try.func55 (by kernel_rfl) rfl #[.slice A0 l0.length c0] rfl am_ ?_;(with_reducible refine(num_Take.calls k _ _ l0 t254 t255 t256 _ ?side1 ?side2 A4.out).mono ?_);(case side1=>exact Kd.cu_ HR0.out);(case side2=>exact HC0.out);rintro e w' ⟨rfl,⟨nd,rfl⟩⟩;refine⟨_,rfl,?_⟩))
   go_ret3
   exact⟨_,rf_,ni_,bw_⟩
  .rw[if_neg c6]at H
   have c6b0:=decide_eq_false c6
   clear c6
   have H':=Aside0.mk H
   clear H
   go_enter Try.func59,Try.ntmps59
   go_wp2_with (first|((with_reducible refine gaC_ (f:=55) rfl ?_);refine goesL_ (some 19) rfl rfl Try.func55 (by kernel_rfl) rfl #[.slice A0 l0.length c0] rfl am_ ?_;(with_reducible refine(num_Take.calls k _ _ l0 t254 t255 t256 _ ?side1 ?side2 A4.out).mono ?_);(case side1=>exact Kd.cu_ HR0.out);(case side2=>exact HC0.out);rintro e w' ⟨rfl,⟨nd,rfl⟩⟩;refine⟨_,rfl,?_⟩))
   go_loopg [8,10,11] k (fun kq v8 v10 v11 w'=>∃ (x8_1:Int) (x10_1:List Int) (x11_1:Int),v8= .int .i64 x8_1∧v11= .int .i64 x11_1∧Aside0 (pfor_TakeList.l0 kq l0 x8_1 x10_1 x11_1=some (r1,r2,r3))∧Aside0 (kq<=k)∧Aside0 (Kd.R (Kd.int .u64) 48 w' w.heap.size (fun _=>True) v10 x10_1)∧Aside0 (Below w.heap.size w w'))
   case atStart=>exact⟨(t255),(([]:List Int)),(wrap64 (t254)),rs_,rs_,H',⟨Nat.le_refl _⟩,⟨ni_⟩,⟨bw_⟩⟩
   case round=>
    clear H'
    clear c3b0
    clear c5b0 c5b1
    clear c6b0
    obtain⟨x8_1,x10_1,x11_1,rfl,rfl,HA,HK1,HO_10,HB⟩:=hrel
    cases gk with
    |zero=>exact absurd HA.out (by simp[pfor_TakeList.l0])
    |succ k1=>
     have H:=HA.out
     clear HA
     simp only[pfor_TakeList.l0]at H
     by_cases c7:x11_1 > 0
     rotate_left
     .rw[if_neg c7]at H
      have c7b0:=decide_eq_false c7
      clear c7
      simp only[Option.some.injEq,Prod.mk.injEq]at H
      obtain⟨rfl,rfl,rfl⟩:=H
      go_wp2
      go_ret3
      exact⟨_,rf_,by(with_reducible repeat(first|apply Kd.rA_|apply Kd.rN_|apply Kd.rD_));exact HO_10.out,bw_⟩
     rw[if_pos c7]at H
     have c7b0:=decide_eq_true c7
     clear c7
     by_cases c8:0<=x8_1
     rotate_left
     .rw[if_neg c8]at H
      cases H
     rw[if_pos c8]at H
     have c8b0:=eq_true c8
     have c8b1:=decide_eq_true c8
     clear c8
     by_cases c9:x8_1<=(l0.length:Int)
     rotate_left
     .rw[if_neg c9]at H
      cases H
     rw[if_pos c9]at H
     have c9b0:=eq_true c9
     have c9b1:=decide_eq_true c9
     clear c9
     replace H:=Option.bind_eq_some_iff.mp H
     obtain⟨⟨t258,t259,t260⟩,A100,H⟩:=H
     try dsimp only at H
     have A10:=Aside0.mk A100
     clear A100
     by_cases c11:t260=0
     rotate_left
     .rw[if_neg c11]at H
      have c11b0:=beq_eq_false_iff_ne.mpr c11
      have c11b1:=bne_iff_ne.mpr c11
      simp only[Option.some.injEq,Prod.mk.injEq]at H
      obtain⟨rfl,rfl,rfl⟩:=H
      obtain⟨i022,hi022,_,hsz22,_⟩:=info_parts info5
      obtain⟨A22,hcut22,hA22,hC22⟩:=print_drop_of (P:=Try.prog) (Value.int .u8) 0 22 5 .i64 Try.underlying22 hi022 hsz22 A0 c0 l0 x8_1 od_ od_ HC0.out
      have HR257:=Aside0.mk (Kd.C_of_reads (h1:=fun _=>rfl) (hA22 _ (Kd.reads_of_C HR0.out)))
      have HC257:=Aside0.mk hC22
      clear hA22 hC22 hi022 hsz22
      go_wp2_with (first|((with_reducible refine gaC_ (f:=58) rfl ?_);refine goesL_ (some 37) rfl rfl Try.func58 (by kernel_rfl) rfl #[.slice A22 (l0.drop (x8_1:Int).toNat).length (c0 - x8_1.toNat)] rfl (by(try simp only[List.map_toArray,List.map_cons,List.map_nil]);first|done|(rw[show(l0.drop (x8_1:Int).toNat).length=(l0.length - x8_1.toNat) from List.length_drop]<;>rfl)|rfl|(simp only[List.length_drop,List.length_take];rfl)) ?_;(with_reducible refine(pfor_TakeBlock.calls k1 _ _ (l0.drop (x8_1:Int).toNat) t258 t259 t260 _ ?side1 ?side2 A10.out).mono ?_);(case side1=>exact Kd.cu_ (Kd.C_below HR257.out HB.out));(case side2=>exact HC257.out);rintro e w23 ⟨v261,rfl,ho0,hb⟩;refine⟨_,rfl,?_⟩;have n0_:=Aside0.mk (Kd.R_elder' (Kd.ru_ HO_10.out) (Kd.R_base ho0) hb);have n1_:=Aside0.mk (Kd.R_lower (Kd.R_new' ho0 (Kd.R_lt (Kd.ru_ HO_10.out))) (pbS_ bw_));have n2_:=Aside0.mk (below_step bw_ hb);clear HO_10;clear HB;have HO_10:=n0_;have HO262:=n1_;have HB:=n2_;clear n0_ n1_ n2_))
      go_ret3
      exact⟨_,rf_,ni_,bw_⟩
     rw[if_pos c11]at H
     have c11b0:=beq_iff_eq.mpr c11
     have c11b1:=bne_eq_false_iff_eq.mpr c11
     clear c11
     obtain⟨ji12,hji12⟩:∃ j_:Int,(mn x11_1 32)=j_:=⟨_,rfl⟩
     replace H:(if(t258.length:Int)=(ji12)then(if x10_1.length+t258.length < 17592186044416 then(pfor_TakeList.l0 k1 l0 (wrap64 (x8_1+t259)) (x10_1++t258) (wrap64 (x11_1 - (t258.length:Int))))else(none))else(some (([]:List Int),0,2)))=some (r1,r2,r3):=hj_ hji12 H
     have hji12_:(if 32 < x11_1 then 32 else x11_1)=ji12:=hji12
     by_cases c13:(t258.length:Int)=(ji12)
     rotate_left
     .rw[if_neg c13]at H
      have c13b0:=beq_eq_false_iff_ne.mpr c13
      have c13b1:=bne_iff_ne.mpr c13
      simp only[Option.some.injEq,Prod.mk.injEq]at H
      obtain⟨rfl,rfl,rfl⟩:=H
      obtain⟨i019,hi019,_,hsz19,_⟩:=info_parts info5
      obtain⟨A19,hcut19,hA19,hC19⟩:=print_drop_of (P:=Try.prog) (Value.int .u8) 0 22 5 .i64 Try.underlying22 hi019 hsz19 A0 c0 l0 x8_1 od_ od_ HC0.out
      have HR257:=Aside0.mk (Kd.C_of_reads (h1:=fun _=>rfl) (hA19 _ (Kd.reads_of_C HR0.out)))
      have HC257:=Aside0.mk hC19
      clear hA19 hC19 hi019 hsz19
      go_wp2_with (first|((with_reducible refine gaC_ (f:=58) rfl ?_);refine goesL_ (some 37) rfl rfl Try.func58 (by kernel_rfl) rfl #[.slice A19 (l0.drop (x8_1:Int).toNat).length (c0 - x8_1.toNat)] rfl (by(try simp only[List.map_toArray,List.map_cons,List.map_nil]);first|done|(rw[show(l0.drop (x8_1:Int).toNat).length=(l0.length - x8_1.toNat) from List.length_drop]<;>rfl)|rfl|(simp only[List.length_drop,List.length_take];rfl)) ?_;(with_reducible refine(pfor_TakeBlock.calls k1 _ _ (l0.drop (x8_1:Int).toNat) t258 t259 t260 _ ?side1 ?side2 A10.out).mono ?_);(case side1=>exact Kd.cu_ (Kd.C_below HR257.out HB.out));(case side2=>exact HC257.out);rintro e w20 ⟨v261,rfl,ho0,hb⟩;refine⟨_,rfl,?_⟩;have n0_:=Aside0.mk (Kd.R_elder' (Kd.ru_ HO_10.out) (Kd.R_base ho0) hb);have n1_:=Aside0.mk (Kd.R_lower (Kd.R_new' ho0 (Kd.R_lt (Kd.ru_ HO_10.out))) (pbS_ bw_));have n2_:=Aside0.mk (below_step bw_ hb);clear HO_10;clear HB;have HO_10:=n0_;have HO262:=n1_;have HB:=n2_;clear n0_ n1_ n2_;obtain⟨Ao21,co21,eo21⟩:=Kd.R_slice HO262.out;subst eo21))
      go_ret3
      exact⟨_,by first|rfl|(simp[eWn_,eWs_]<;>rfl)|(simp only[<- hji12];first|rfl|(simp[eWn_,eWs_]<;>rfl))|(simp[*,eWn_,eWs_]<;>rfl),ni_,bw_⟩
     rw[if_pos c13]at H
     have c13b0:=beq_iff_eq.mpr c13
     have c13b1:=bne_eq_false_iff_eq.mpr c13
     clear c13
     by_cases c14:x10_1.length+t258.length < 17592186044416
     rotate_left
     .rw[if_neg c14]at H
      cases H
     rw[if_pos c14]at H
     have LMc14:=Aside0.mk c14
     clear c14
     obtain⟨y263,hy263⟩:∃ y_:List Int,y_=(x10_1++t258):=⟨_,rfl⟩
     replace H:(pfor_TakeList.l0 k1 l0 (wrap64 (x8_1+t259)) y263 (wrap64 (x11_1 - (t258.length:Int))))=some (r1,r2,r3):=hx_ hy263 H
     have Ny263:=Aside0.mk hy263
     clear hy263
     have H':=Aside0.mk H
     clear H
     obtain⟨i015,hi015,_,hsz15,_⟩:=info_parts info5
     obtain⟨A15,hcut15,hA15,hC15⟩:=print_drop_of (P:=Try.prog) (Value.int .u8) 0 22 5 .i64 Try.underlying22 hi015 hsz15 A0 c0 l0 x8_1 od_ od_ HC0.out
     have HR257:=Aside0.mk (Kd.C_of_reads (h1:=fun _=>rfl) (hA15 _ (Kd.reads_of_C HR0.out)))
     have HC257:=Aside0.mk hC15
     clear hA15 hC15 hi015 hsz15
     go_wp2_with (first|((with_reducible refine gaC_ (f:=58) rfl ?_);refine goesL_ (some 37) rfl rfl Try.func58 (by kernel_rfl) rfl #[.slice A15 (l0.drop (x8_1:Int).toNat).length (c0 - x8_1.toNat)] rfl (by(try simp only[List.map_toArray,List.map_cons,List.map_nil]);first|done|(rw[show(l0.drop (x8_1:Int).toNat).length=(l0.length - x8_1.toNat) from List.length_drop]<;>rfl)|rfl|(simp only[List.length_drop,List.length_take];rfl)) ?_;(with_reducible refine(pfor_TakeBlock.calls k1 _ _ (l0.drop (x8_1:Int).toNat) t258 t259 t260 _ ?side1 ?side2 A10.out).mono ?_);(case side1=>exact Kd.cu_ (Kd.C_below HR257.out HB.out));(case side2=>exact HC257.out);rintro e w16 ⟨v261,rfl,ho0,hb⟩;refine⟨_,rfl,?_⟩;have n0_:=Aside0.mk (Kd.R_elder' (Kd.ru_ HO_10.out) (Kd.R_base ho0) hb);have n1_:=Aside0.mk (Kd.R_lower (Kd.R_new' ho0 (Kd.R_lt (Kd.ru_ HO_10.out))) (pbS_ bw_));have n2_:=Aside0.mk (below_step bw_ hb);clear HO_10;clear HB;have HO_10:=n0_;have HO262:=n1_;have HB:=n2_;clear n0_ n1_ n2_;obtain⟨Ao17,co17,eo17⟩:=Kd.R_slice HO262.out;subst eo17)|((with_reducible refine gate_builtin (b:= .append) (xs:= #[.tmp 50,.tmp 51]) rfl ?_);(try(refine gate_guard (by rfl) ?_;dsimp only));at_builtin;refine Kd.R_append_rows (Kd.int .u64) (w0:=w) w.heap.size rfl (.tmp 50) (.tmp 51) 52 48 (.int .u64 0) 8 rfl Try.underlying52 info48 rfl (by decide) (by omega) u10 x10_1 t258 _ _ _ (fun k_=>some k_≠(.slice Ao17 t258.length co17:Value).ownBlock) (fun _=>False) rfl rfl ?aO ?aR (fun _ _ h=>h) (fun _ h=>h.elim) ?aF ?aB ?aS ?aL ?_;(case aR=>exact Kd.cu_ (Kd.R_reads' HO262.out).2.2);(case aB=>exact bw_);(case aF=>exact(fun k_ hk=>Kd.fresh' (Kd.R_lt (Kd.ru_ HO262.out)) k_ hk));(case aO=>exact(by(with_reducible repeat(first|apply Kd.rA_|apply Kd.rN_|apply Kd.rD_));exact Kd.R_mono HO_10.out (fun _ hk=>hk.2)));(case aS=>exact(pbS_ bw_));(case aL=>have:=LMc14.out;omega);intro v264 w18 ho hb hg hat;rw[<- Ny263.out]at ho;have n0_:=Aside0.mk (Kd.R_after (ok:=(fun _=>True)) (Kd.ru_ HO262.out) hg hat);have n1_:=Aside0.mk (hb);have n2_:=Aside0.mk (ho);clear HO262;clear HB;clear HO_10;have HO262:=n0_;have HB:=n1_;have HO265:=n2_;clear n0_ n1_ n2_;clear ho hb hg hat))
     subst hji12
     go_roundg k1
     case measure=>have:=HK1.out;omega
     case rel=>exact⟨(wrap64 (x8_1+t259)),(y263),(wrap64 (x11_1 - (t258.length:Int))),rs_,rs_,H',⟨by have:=HK1.out;omega⟩,⟨by(with_reducible repeat(first|apply Kd.rA_|apply Kd.rN_|apply Kd.rD_));exact Kd.R_mono HO265.out (fun _ hk=>trivial)⟩,⟨bw_⟩⟩
end Go.Proofs.Ytooeclfeallkkaa.P
end
