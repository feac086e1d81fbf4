/- Words and proofs that PostTakes leans on; put together by wip/tools/shake.py. -/
import Derived.Test.YtooeclfeallkkaaZPostTakes7
import Derived.Test.YtooeclfeallkkaaZPostTakes13
import Derived.Test.YtooeclfeallkkaaZPostTakes14
section
namespace Go.Proofs.Ytooeclfeallkkaa.P
open Go.RowKit Go.Proofs.YtooeclfeallkkaaW.PrintWords Go.Proofs.YtooeclfeallkkaaW.PrintLast Go.Proofs.YtooeclfeallkkaaW.PrintMore
attribute [local go_sem] max2_int min2_int max_two min_two max_three min_three max_four min_four
set_option linter.unusedVariables false
set_option linter.unusedSimpArgs false
mutual
def post_unpack.j0:Nat->List Int->Int->Bool->Int->Int->Int->List Int->Int->Option ((List (S37))×Bool)
 |0,_,_,_,_,_,_,_,_=>none
 |k+1,x4,x5,x34,x267000,x267001,x267002,x267003,x267004=>if x34=true then(some (([]:List (S37)),false))else(if 0<=x5 then(if x5<=(x267003.length:Int)then((pfor_TakeBlock.f k (x267003.drop (x5:Int).toNat)).bind fun bt273=>(if bt273.2.2=0 then(post_unpack.j1 k x4 x5 bt273.1 bt273.2.1 ((bt273.1.length:Int) != x267000) x267000 x267001 x267002 x267003 x267004)else(post_unpack.j1 k x4 x5 bt273.1 bt273.2.1 true x267000 x267001 x267002 x267003 x267004)))else(none))else(none))
def post_unpack.j1:Nat->List Int->Int->List Int->Int->Bool->Int->Int->Int->List Int->Int->Option ((List (S37))×Bool)
 |0,_,_,_,_,_,_,_,_,_,_=>none
 |k+1,x4,x5,x7,x8,x52,x267000,x267001,x267002,x267003,x267004=>if x52=true then(some (([]:List (S37)),false))else(if 0<=(wrap64 (x5+x8))then(if(wrap64 (x5+x8))<=(x267003.length:Int)then((pfor_TakeList.f k (x267003.drop ((wrap64 (x5+x8)):Int).toNat) (wrap64 (64*(x267003.length:Int)))).bind fun bt279=>(if bt279.2.2=0 then(post_unpack.j2 k x4 x7 bt279.1 ((wrap64 ((wrap64 (x5+x8))+bt279.2.1)) != (x267003.length:Int)) x267000 x267001 x267002 x267003 x267004)else(post_unpack.j2 k x4 x7 bt279.1 true x267000 x267001 x267002 x267003 x267004)))else(none))else(none))
def post_unpack.j2:Nat->List Int->List Int->List Int->Bool->Int->Int->Int->List Int->Int->Option ((List (S37))×Bool)
 |0,_,_,_,_,_,_,_,_,_=>none
 |k+1,x4,x7,x9,x80,x267000,x267001,x267002,x267003,x267004=>if x80=true then(some (([]:List (S37)),false))else(if 0<=x267000 then(if(x267000:Int).toNat<=8796093022208 then(post_unpack.l0 k x7 x9 (List.replicate 0 z37) x267001 x4 (x4.length:Int) 0 x267000 x267001 x267002 x267003 x267004)else(none))else(none))
def post_unpack.l0:Nat->List Int->List Int->List (S37)->Int->List Int->Int->Int->Int->Int->Int->List Int->Int->Option ((List (S37))×Bool)
 |0,_,_,_,_,_,_,_,_,_,_,_,_=>none
 |k+1,x7,x9,x11,x12,x86,x87,x88,x267000,x267001,x267002,x267003,x267004=>if x88 < x87 then(if 0<=x88 then(if x88 < (x86.length:Int)then(if(rd x86 x88) > 4095 then(post_unpack.j4 k x7 x9 x11 x12 x88 (rd x86 x88) x86 x87 x88 true x267000 x267001 x267002 x267003 x267004)else(if x88 < (x7.length:Int)then(post_unpack.j4 k x7 x9 x11 x12 x88 (rd x86 x88) x86 x87 x88 (decide ((rd x7 x88)≥(IntKind.u64.wrap ((x9.length:Int))))) x267000 x267001 x267002 x267003 x267004)else(none)))else(none))else(none))else(if(x9.length:Int)=0 then(if x12=x267002 then((post_Formed.f k x11).bind fun t287=>(some (x11,t287)))else(some (x11,false)))else(some (x11,false)))
def post_unpack.j4:Nat->List Int->List Int->List (S37)->Int->Int->Int->List Int->Int->Int->Bool->Int->Int->Int->List Int->Int->Option ((List (S37))×Bool)
 |0,_,_,_,_,_,_,_,_,_,_,_,_,_,_,_=>none
 |k+1,x7,x9,x11,x12,x13,x14,x86,x87,x88,x104,x267000,x267001,x267002,x267003,x267004=>if x104=true then(some (([]:List (S37)),false))else(if 0<=x13 then(if x13 < (x7.length:Int)then(if 0<=(IntKind.u64.wrap ((rd x7 x13)+1))then(if(IntKind.u64.wrap ((rd x7 x13)+1))<=(x9.length:Int)then((some (x9.take ((IntKind.u64.wrap ((rd x7 x13)+1)):Int).toNat:List Int)).bind fun y292=>(post_unpack.l1 k x7 x9 x11 (wrap64 (x12+(wrap64 ((wrap64 (x14))+1)))) x13 (-1) x86 x87 x88 y292 (y292.length:Int) 0 x267000 x267001 x267002 x267003 x267004 (wrap64 (x12+(wrap64 ((wrap64 (x14))+1)))) ([]:List Int)))else(none))else(none))else(none))else(none))
def post_unpack.l1:Nat->List Int->List Int->List (S37)->Int->Int->Int->List Int->Int->Int->List Int->Int->Int->Int->Int->Int->List Int->Int->Int->List Int->Option ((List (S37))×Bool)
 |0,_,_,_,_,_,_,_,_,_,_,_,_,_,_,_,_,_,_,_=>none
 |k+1,x7,x9,x11,x12,x13,x16,x86,x87,x88,x118,x119,x120,x267000,x267001,x267002,x267003,x267004,x291000,x291001=>if x120 < x119 then(if 0<=x120 then(if x120 < (x118.length:Int)then(if(rd x118 x120) > 2147483647 then(some (([]:List (S37)),false))else(if x291001.length < 17592186044416 then(post_unpack.l1 k x7 x9 x11 x12 x13 (wrap64 (x16+(wrap64 ((wrap64 (rd x118 x120))+1)))) x86 x87 x88 x118 x119 (wrap64 (x120+1)) x267000 x267001 x267002 x267003 x267004 x291000 (x291001++[wrap64 (x16+(wrap64 ((wrap64 (rd x118 x120))+1)))]))else(none)))else(none))else(none))else(if 0<=x13 then(if x13 < (x7.length:Int)then(if 0<=(IntKind.u64.wrap ((rd x7 x13)+1))then(if(IntKind.u64.wrap ((rd x7 x13)+1))<=(x9.length:Int)then(if x11.length < 4398046511104 then(post_unpack.l0 k x7 (x9.drop ((IntKind.u64.wrap ((rd x7 x13)+1)):Int).toNat) (x11++[(⟨x291000,x291001⟩:S37)]) x12 x86 x87 (wrap64 (x88+1)) x267000 x267001 x267002 x267003 x267004)else(none))else(none))else(none))else(none))else(none))
end
def post_unpack.f (k:Nat) (a0_0:Int) (a0_1:Int) (a0_2:Int) (l0_3:List Int) (a0_4:Int):Option ((List (S37))×Bool):=(pfor_TakeBlock.f k l0_3).bind fun bt267=>(if bt267.2.2=0 then(post_unpack.j0 k bt267.1 bt267.2.1 ((bt267.1.length:Int) != a0_0) a0_0 a0_1 a0_2 l0_3 a0_4)else(post_unpack.j0 k bt267.1 bt267.2.1 true a0_0 a0_1 a0_2 l0_3 a0_4))
theorem post_unpack.mono_l:∀ k,(∀ y0 y1 y2 y3 y4 y5 y6 y7,LeO (post_unpack.j0 k y0 y1 y2 y3 y4 y5 y6 y7) (post_unpack.j0 (k+1) y0 y1 y2 y3 y4 y5 y6 y7))∧(∀ y0 y1 y2 y3 y4 y5 y6 y7 y8 y9,LeO (post_unpack.j1 k y0 y1 y2 y3 y4 y5 y6 y7 y8 y9) (post_unpack.j1 (k+1) y0 y1 y2 y3 y4 y5 y6 y7 y8 y9))∧(∀ y0 y1 y2 y3 y4 y5 y6 y7 y8,LeO (post_unpack.j2 k y0 y1 y2 y3 y4 y5 y6 y7 y8) (post_unpack.j2 (k+1) y0 y1 y2 y3 y4 y5 y6 y7 y8))∧(∀ y0 y1 y2 y3 y4 y5 y6 y7 y8 y9 y10 y11,LeO (post_unpack.l0 k y0 y1 y2 y3 y4 y5 y6 y7 y8 y9 y10 y11) (post_unpack.l0 (k+1) y0 y1 y2 y3 y4 y5 y6 y7 y8 y9 y10 y11))∧(∀ y0 y1 y2 y3 y4 y5 y6 y7 y8 y9 y10 y11 y12 y13 y14,LeO (post_unpack.j4 k y0 y1 y2 y3 y4 y5 y6 y7 y8 y9 y10 y11 y12 y13 y14) (post_unpack.j4 (k+1) y0 y1 y2 y3 y4 y5 y6 y7 y8 y9 y10 y11 y12 y13 y14))∧(∀ y0 y1 y2 y3 y4 y5 y6 y7 y8 y9 y10 y11 y12 y13 y14 y15 y16 y17 y18,LeO (post_unpack.l1 k y0 y1 y2 y3 y4 y5 y6 y7 y8 y9 y10 y11 y12 y13 y14 y15 y16 y17 y18) (post_unpack.l1 (k+1) y0 y1 y2 y3 y4 y5 y6 y7 y8 y9 y10 y11 y12 y13 y14 y15 y16 y17 y18))
 |0=>⟨fun _ _ _ _ _ _ _ _ r h=>by simp[post_unpack.j0]at h,fun _ _ _ _ _ _ _ _ _ _ r h=>by simp[post_unpack.j1]at h,fun _ _ _ _ _ _ _ _ _ r h=>by simp[post_unpack.j2]at h,fun _ _ _ _ _ _ _ _ _ _ _ _ r h=>by simp[post_unpack.l0]at h,fun _ _ _ _ _ _ _ _ _ _ _ _ _ _ _ r h=>by simp[post_unpack.j4]at h,fun _ _ _ _ _ _ _ _ _ _ _ _ _ _ _ _ _ _ _ r h=>by simp[post_unpack.l1]at h⟩
 |k+1=>by
  obtain⟨ih0,ih1,ih2,ih3,ih4,ih5⟩:=post_unpack.mono_l k
  refine⟨?_,?_,?_,?_,?_,?_⟩
  .intro y0 y1 y2 y3 y4 y5 y6 y7
   unfold post_unpack.j0
   repeat' first
   |(with_reducible exact ih0 _ _ _ _ _ _ _ _)
   |(with_reducible exact ih1 _ _ _ _ _ _ _ _ _ _)
   |(with_reducible exact ih2 _ _ _ _ _ _ _ _ _)
   |(with_reducible exact ih3 _ _ _ _ _ _ _ _ _ _ _ _)
   |(with_reducible exact ih4 _ _ _ _ _ _ _ _ _ _ _ _ _ _ _)
   |(with_reducible exact ih5 _ _ _ _ _ _ _ _ _ _ _ _ _ _ _ _ _ _ _)
   |(with_reducible exact pfor_TakeBlock.mono _ _)
   |(with_reducible exact pfor_TakeList.mono _ _ _)
   |(with_reducible exact post_Formed.mono _ _)
   |(with_reducible exact LeO.refl _)
   |(with_reducible exact LeO.none _)
   |(with_reducible refine LeO.ite ?_ ?_)
   |(with_reducible refine LeO.bind ?_ (fun _=>?_))
  .intro y0 y1 y2 y3 y4 y5 y6 y7 y8 y9
   unfold post_unpack.j1
   repeat' first
   |(with_reducible exact ih0 _ _ _ _ _ _ _ _)
   |(with_reducible exact ih1 _ _ _ _ _ _ _ _ _ _)
   |(with_reducible exact ih2 _ _ _ _ _ _ _ _ _)
   |(with_reducible exact ih3 _ _ _ _ _ _ _ _ _ _ _ _)
   |(with_reducible exact ih4 _ _ _ _ _ _ _ _ _ _ _ _ _ _ _)
   |(with_reducible exact ih5 _ _ _ _ _ _ _ _ _ _ _ _ _ _ _ _ _ _ _)
   |(with_reducible exact pfor_TakeBlock.mono _ _)
   |(with_reducible exact pfor_TakeList.mono _ _ _)
   |(with_reducible exact post_Formed.mono _ _)
   |(with_reducible exact LeO.refl _)
   |(with_reducible exact LeO.none _)
   |(with_reducible refine LeO.ite ?_ ?_)
   |(with_reducible refine LeO.bind ?_ (fun _=>?_))
  .intro y0 y1 y2 y3 y4 y5 y6 y7 y8
   unfold post_unpack.j2
   repeat' first
   |(with_reducible exact ih0 _ _ _ _ _ _ _ _)
   |(with_reducible exact ih1 _ _ _ _ _ _ _ _ _ _)
   |(with_reducible exact ih2 _ _ _ _ _ _ _ _ _)
   |(with_reducible exact ih3 _ _ _ _ _ _ _ _ _ _ _ _)
   |(with_reducible exact ih4 _ _ _ _ _ _ _ _ _ _ _ _ _ _ _)
   |(with_reducible exact ih5 _ _ _ _ _ _ _ _ _ _ _ _ _ _ _ _ _ _ _)
   |(with_reducible exact pfor_TakeBlock.mono _ _)
   |(with_reducible exact pfor_TakeList.mono _ _ _)
   |(with_reducible exact post_Formed.mono _ _)
   |(with_reducible exact LeO.refl _)
   |(with_reducible exact LeO.none _)
   |(with_reducible refine LeO.ite ?_ ?_)
   |(with_reducible refine LeO.bind ?_ (fun _=>?_))
  .intro y0 y1 y2 y3 y4 y5 y6 y7 y8 y9 y10 y11
   unfold post_unpack.l0
   repeat' first
   |(with_reducible exact ih0 _ _ _ _ _ _ _ _)
   |(with_reducible exact ih1 _ _ _ _ _ _ _ _ _ _)
   |(with_reducible exact ih2 _ _ _ _ _ _ _ _ _)
   |(with_reducible exact ih3 _ _ _ _ _ _ _ _ _ _ _ _)
   |(with_reducible exact ih4 _ _ _ _ _ _ _ _ _ _ _ _ _ _ _)
   |(with_reducible exact ih5 _ _ _ _ _ _ _ _ _ _ _ _ _ _ _ _ _ _ _)
   |(with_reducible exact pfor_TakeBlock.mono _ _)
   |(with_reducible exact pfor_TakeList.mono _ _ _)
   |(with_reducible exact post_Formed.mono _ _)
   |(with_reducible exact LeO.refl _)
   |(with_reducible exact LeO.none _)
   |(with_reducible refine LeO.ite ?_ ?_)
   |(with_reducible refine LeO.bind ?_ (fun _=>?_))
  .intro y0 y1 y2 y3 y4 y5 y6 y7 y8 y9 y10 y11 y12 y13 y14
   unfold post_unpack.j4
   repeat' first
   |(with_reducible exact ih0 _ _ _ _ _ _ _ _)
   |(with_reducible exact ih1 _ _ _ _ _ _ _ _ _ _)
   |(with_reducible exact ih2 _ _ _ _ _ _ _ _ _)
   |(with_reducible exact ih3 _ _ _ _ _ _ _ _ _ _ _ _)
   |(with_reducible exact ih4 _ _ _ _ _ _ _ _ _ _ _ _ _ _ _)
   |(with_reducible exact ih5 _ _ _ _ _ _ _ _ _ _ _ _ _ _ _ _ _ _ _)
   |(with_reducible exact pfor_TakeBlock.mono _ _)
   |(with_reducible exact pfor_TakeList.mono _ _ _)
   |(with_reducible exact post_Formed.mono _ _)
   |(with_reducible exact LeO.refl _)
   |(with_reducible exact LeO.none _)
   |(with_reducible refine LeO.ite ?_ ?_)
   |(with_reducible refine LeO.bind ?_ (fun _=>?_))
  .intro y0 y1 y2 y3 y4 y5 y6 y7 y8 y9 y10 y11 y12 y13 y14 y15 y16 y17 y18
   unfold post_unpack.l1
   repeat' first
   |(with_reducible exact ih0 _ _ _ _ _ _ _ _)
   |(with_reducible exact ih1 _ _ _ _ _ _ _ _ _ _)
   |(with_reducible exact ih2 _ _ _ _ _ _ _ _ _)
   |(with_reducible exact ih3 _ _ _ _ _ _ _ _ _ _ _ _)
   |(with_reducible exact ih4 _ _ _ _ _ _ _ _ _ _ _ _ _ _ _)
   |(with_reducible exact ih5 _ _ _ _ _ _ _ _ _ _ _ _ _ _ _ _ _ _ _)
   |(with_reducible exact pfor_TakeBlock.mono _ _)
   |(with_reducible exact pfor_TakeList.mono _ _ _)
   |(with_reducible exact post_Formed.mono _ _)
   |(with_reducible exact LeO.refl _)
   |(with_reducible exact LeO.none _)
   |(with_reducible refine LeO.ite ?_ ?_)
   |(with_reducible refine LeO.bind ?_ (fun _=>?_))
theorem post_unpack.mono:∀ a0 a1 a2 a3 a4 k,LeO (post_unpack.f k a0 a1 a2 a3 a4) (post_unpack.f (k+1) a0 a1 a2 a3 a4):=by
 intro a0 a1 a2 a3 a4 k
 obtain⟨ih0,ih1,ih2,ih3,ih4,ih5⟩:=post_unpack.mono_l k
 unfold post_unpack.f
 repeat' first
   |(with_reducible exact ih0 _ _ _ _ _ _ _ _)
   |(with_reducible exact ih1 _ _ _ _ _ _ _ _ _ _)
   |(with_reducible exact ih2 _ _ _ _ _ _ _ _ _)
   |(with_reducible exact ih3 _ _ _ _ _ _ _ _ _ _ _ _)
   |(with_reducible exact ih4 _ _ _ _ _ _ _ _ _ _ _ _ _ _ _)
   |(with_reducible exact ih5 _ _ _ _ _ _ _ _ _ _ _ _ _ _ _ _ _ _ _)
   |(with_reducible exact pfor_TakeBlock.mono _ _)
   |(with_reducible exact pfor_TakeList.mono _ _ _)
   |(with_reducible exact post_Formed.mono _ _)
   |(with_reducible exact LeO.refl _)
   |(with_reducible exact LeO.none _)
   |(with_reducible refine LeO.ite ?_ ?_)
   |(with_reducible refine LeO.bind ?_ (fun _=>?_))
def post_unpack.T7:Bool×List (List Nat×List Nat):=(true,[([],[]),([0],[0]),([],[]),([],[]),([2,3],[2,3]),([1,4],[1,4]),([],[]),([6],[6]),([7],[7]),([8],[8]),([5,9],[5,9]),([10],[10]),([11],[11]),([11],[11]),([11],[11]),([12,10,0,1,2,3,4,5,6,7,8,9,10,11,12],[12]),([13,15,0,1,2,3,4,5,6,7,8,9,10,11,12,13,15],[13]),([14,16,0,1,2,3,4,5,6,7,8,9,10,11,12,13,14,15,16],[14])])
def post_unpack.B7:List Nat:=[0,1,0,0,12,31,0,64,192,448,1023,2047,4095,4095,4095,8191,49151,131071]
theorem post_unpack.tab7:rtab .any (opsOf Try.f35 7)=post_unpack.T7:=by kernel_rfl
theorem post_unpack.bits7:waitsOk post_unpack.T7.2 post_unpack.B7=true:=by kernel_rfl
set_option maxHeartbeats 8000000 in
set_option maxRecDepth 100000 in
theorem post_unpack.calls (k:Nat) (a0_0:Int) (a0_1:Int) (a0_2:Int) (A0_3:Option Addr) (c0_3:Nat) (l0_3:List Int) (a0_4:Int) (r1:List (S37)) (r2:Bool) (w:World) (hr0_3:Kd.C (Kd.int .u8) w A0_3 l0_3.length l0_3) (hc0_3:l0_3.length<=c0_3) (h:post_unpack.f k a0_0 a0_1 a0_2 l0_3 a0_4=some (r1,r2)):
  Calls Try.prog 35 #[.agg #[.int .i64 a0_0,.int .i64 a0_1,.int .i64 a0_2,.slice A0_3 l0_3.length c0_3,.int .i64 a0_4]] w fun e w'=>∃ v0_:Value,e= .returned (.tuple #[v0_,.bool r2])∧Kd.S k37 37 w' w.heap.size (fun _=>True) v0_ r1∧Below w.heap.size w w':=by
 have hu65:=Try.underlying65
 have hu37:=Try.underlying37
 have HR0_3:=Aside0.mk hr0_3
 have HC0_3:=Aside0.mk hc0_3
 clear hr0_3 hc0_3
 have HB:=Aside0.mk (Below.refl w.heap.size w)
 have H:((pfor_TakeBlock.f k l0_3).bind fun bt267=>(if bt267.2.2=0 then(post_unpack.j0 k bt267.1 bt267.2.1 ((bt267.1.length:Int) != a0_0) a0_0 a0_1 a0_2 l0_3 a0_4)else(post_unpack.j0 k bt267.1 bt267.2.1 true a0_0 a0_1 a0_2 l0_3 a0_4)))=some (r1,r2):=h
 clear h
 replace H:=Option.bind_eq_some_iff.mp H
 obtain⟨⟨t267,t268,t269⟩,A20,H⟩:=H
 try dsimp only at H
 have A2:=Aside0.mk A20
 clear A20
 have HC3:=Aside0.mk H
 clear H
 go_enter Try.func35,Try.ntmps35
 go_upto_region 2 with (first|((with_reducible refine gate_dst (N:=1) rfl ?_);(try(refine gate_guard (by rfl) ?_;dsimp only));refine box_event ?hg (N:=1) ?hd (cs:= #[.int .i64 a0_0,.int .i64 a0_1,.int .i64 a0_2,.slice A0_3 l0_3.length c0_3,.int .i64 a0_4]) (t:=65) ?hr ?_;(case hd=>rfl);(case hg=>rfl);(case hr=>first|(go_simp;done)|(go_simp;rfl));intro gb266 hg w4 hbox hb;have n0_:=Aside0.mk (below_step bw_ hb);have n1_:=Aside0.mk (hbox);have n2_:=Aside0.mk ((by rw[hg];exact(pbS_ bw_):w.heap.size<=gb266));have n3_:=Aside0.mk ((by rw[hg];exact(pbS_ bw_):w.heap.size<=gb266));clear HB;have HB:=n0_;have BK266:=n1_;have GW266:=n2_;have GE266:=n3_;clear n0_ n1_ n2_ n3_;clear hb hbox hg;have hcz5_0:w4.cell? ⟨gb266,0,none⟩=some (.int .i64 a0_0):=(blk_cell BK266.out 0).trans rfl;have hcz5_1:w4.cell? ⟨gb266,1,none⟩=some (.int .i64 a0_1):=(blk_cell BK266.out 1).trans rfl;have hcz5_2:w4.cell? ⟨gb266,2,none⟩=some (.int .i64 a0_2):=(blk_cell BK266.out 2).trans rfl;have hcz5_3:w4.cell? ⟨gb266,3,none⟩=some (.slice A0_3 l0_3.length c0_3):=(blk_cell BK266.out 3).trans rfl;have hcz5_4:w4.cell? ⟨gb266,4,none⟩=some (.int .i64 a0_4):=(blk_cell BK266.out 4).trans rfl;have hfz5_0:=blk_frozen BK266.out 0;have hfz5_1:=blk_frozen BK266.out 1;have hfz5_2:=blk_frozen BK266.out 2;have hfz5_3:=blk_frozen BK266.out 3;have hfz5_4:=blk_frozen BK266.out 4)|((with_reducible refine gaC_ (f:=58) rfl ?_);refine goesL_ (some 22) rfl rfl Try.func58 (by kernel_rfl) rfl #[.slice A0_3 l0_3.length c0_3] rfl am_ ?_;(with_reducible refine(pfor_TakeBlock.calls k _ _ l0_3 t267 t268 t269 _ ?side1 ?side2 A2.out).mono ?_);(case side1=>exact Kd.cu_ (Kd.C_below HR0_3.out HB.out));(case side2=>exact HC0_3.out);rintro e w6 ⟨v270,rfl,ho0,hb⟩;refine⟨_,rfl,?_⟩;have HO271:=Aside0.mk (Kd.R_lower ho0 (pbS_ bs_));replace BK266:=Aside0.mk (blk_below (g:=gb266) (o:= .cells #[.int .i64 a0_0,.int .i64 a0_1,.int .i64 a0_2,.slice A0_3 l0_3.length c0_3,.int .i64 a0_4] 65 (0,0)) (bk_ BK266.out) hb);replace HB:=Aside0.mk (below_step bs_ hb)))
 go_cut [34] (fun v34 wc=>∃ (kq:Nat) (x34_2:Bool),v34= .bool x34_2∧Aside0 (post_unpack.j0 kq t267 t268 x34_2 a0_0 a0_1 a0_2 l0_3 a0_4=some (r1,r2))∧Aside0 (kq<=k)∧Aside0 (Kd.R (Kd.int .u64) 48 wc w.heap.size (fun _=>True) v270 t267)∧Aside0 (wc.heap[gb266]? =some (.cells #[.int .i64 a0_0,.int .i64 a0_1,.int .i64 a0_2,(.slice A0_3 l0_3.length c0_3),.int .i64 a0_4] 65 (0,0)))∧Aside0 (Below w.heap.size w wc))
 case first=>
  have H:=HC3.out
  clear HC3
  by_cases c7:t269=0
  rotate_left
  .rw[if_neg c7]at H
   have c7b0:=beq_eq_false_iff_ne.mpr c7
   have c7b1:=bne_iff_ne.mpr c7
   (first|rw[c7b0]|(simp only[i64_w,i32_w];rw[c7b0])|skip)
   have H':=Aside0.mk H
   clear H
   go_wp2
   go_meet
   case rel=>exact⟨_,(true),rs_,H',⟨by first|omega|exact Nat.le_refl _⟩,⟨Kd.ru_ HO271.out⟩,⟨bk_ BK266.out⟩,⟨bs_⟩⟩
  rw[if_pos c7]at H
  have c7b0:=beq_iff_eq.mpr c7
  have c7b1:=bne_eq_false_iff_eq.mpr c7
  clear c7
  (first|rw[c7b0]|(simp only[i64_w,i32_w];rw[c7b0])|skip)
  have H':=Aside0.mk H
  clear H
  obtain⟨Ao8,co8,eo8⟩:=Kd.R_slice HO271.out
  subst eo8
  have hcz9_0:w6.cell? ⟨gb266,0,none⟩=some (.int .i64 a0_0):=(blk_cell BK266.out 0).trans rfl
  have hcz9_1:w6.cell? ⟨gb266,1,none⟩=some (.int .i64 a0_1):=(blk_cell BK266.out 1).trans rfl
  have hcz9_2:w6.cell? ⟨gb266,2,none⟩=some (.int .i64 a0_2):=(blk_cell BK266.out 2).trans rfl
  have hcz9_3:w6.cell? ⟨gb266,3,none⟩=some (.slice A0_3 l0_3.length c0_3):=(blk_cell BK266.out 3).trans rfl
  have hcz9_4:w6.cell? ⟨gb266,4,none⟩=some (.int .i64 a0_4):=(blk_cell BK266.out 4).trans rfl
  have hfz9_0:=blk_frozen BK266.out 0
  have hfz9_1:=blk_frozen BK266.out 1
  have hfz9_2:=blk_frozen BK266.out 2
  have hfz9_3:=blk_frozen BK266.out 3
  have hfz9_4:=blk_frozen BK266.out 4
  go_wp2
  go_meet
  case rel=>exact⟨_,(((t267.length:Int) != a0_0)),rs_,H',⟨by first|omega|exact Nat.le_refl _⟩,⟨Kd.ru_ HO271.out⟩,⟨bk_ BK266.out⟩,⟨bs_⟩⟩
 case rest=>
  clear HC3
  clear hcz5_0 hcz5_1 hcz5_2 hcz5_3 hcz5_4
  clear hfz5_0 hfz5_1 hfz5_2 hfz5_3 hfz5_4
  obtain⟨kq,x34_2,rfl,HA,HJ2,HO_4,BK266,HB⟩:=hcut
  cases kq with
  |zero=>exact absurd HA.out (by simp[post_unpack.j0])
  |succ kj2=>
   have H:=HA.out
   clear HA
   simp only[post_unpack.j0]at H
   by_cases c10:x34_2=true
   .subst c10
    rw[if_pos rfl]at H
    simp only[Option.some.injEq,Prod.mk.injEq]at H
    obtain⟨rfl,rfl⟩:=H
    go_wp2
    go_ret2
    exact⟨_,rf_,by first|exact Kd.S_nil _ _ _ _ _|exact Kd.N_nil _ _ _ _ _|exact Kd.V_nil _ _ _ _ _|exact Kd.Q_nil _ _ _ _ _|exact Kd.R_nil _ _ _ _ _,bs_⟩
   .replace c10:=Bool.eq_false_iff.mpr c10
    subst c10
    rw[if_neg (show ¬ (false=true) by decide)]at H
    by_cases c11:0<=t268
    rotate_left
    .rw[if_neg c11]at H
     cases H
    rw[if_pos c11]at H
    have c11b0:=eq_true c11
    have c11b1:=decide_eq_true c11
    clear c11
    by_cases c12:t268<=(l0_3.length:Int)
    rotate_left
    .rw[if_neg c12]at H
     cases H
    rw[if_pos c12]at H
    have c12b0:=eq_true c12
    have c12b1:=decide_eq_true c12
    clear c12
    replace H:=Option.bind_eq_some_iff.mp H
    obtain⟨⟨t273,t274,t275⟩,A130,H⟩:=H
    try dsimp only at H
    have A13:=Aside0.mk A130
    clear A130
    have HC14:=Aside0.mk H
    clear H
    have hcz15_0:wc.cell? ⟨gb266,0,none⟩=some (.int .i64 a0_0):=(blk_cell BK266.out 0).trans rfl
    have hcz15_1:wc.cell? ⟨gb266,1,none⟩=some (.int .i64 a0_1):=(blk_cell BK266.out 1).trans rfl
    have hcz15_2:wc.cell? ⟨gb266,2,none⟩=some (.int .i64 a0_2):=(blk_cell BK266.out 2).trans rfl
    have hcz15_3:wc.cell? ⟨gb266,3,none⟩=some (.slice A0_3 l0_3.length c0_3):=(blk_cell BK266.out 3).trans rfl
    have hcz15_4:wc.cell? ⟨gb266,4,none⟩=some (.int .i64 a0_4):=(blk_cell BK266.out 4).trans rfl
    have hfz15_0:=blk_frozen BK266.out 0
    have hfz15_1:=blk_frozen BK266.out 1
    have hfz15_2:=blk_frozen BK266.out 2
    have hfz15_3:=blk_frozen BK266.out 3
    have hfz15_4:=blk_frozen BK266.out 4
    obtain⟨i016,hi016,_,hsz16,_⟩:=info_parts info5
    obtain⟨A16,hcut16,hA16,hC16⟩:=print_drop_of (P:=Try.prog) (Value.int .u8) 0 22 5 .i64 Try.underlying22 hi016 hsz16 A0_3 c0_3 l0_3 t268 od_ od_ HC0_3.out
    have HR272:=Aside0.mk (Kd.C_of_reads (h1:=fun _=>rfl) (hA16 _ (Kd.reads_of_C HR0_3.out)))
    have HC272:=Aside0.mk hC16
    clear hA16 hC16 hi016 hsz16
    go_upto_region 5 with (first|((with_reducible refine gaC_ (f:=58) rfl ?_);refine goesL_ (some 40) rfl rfl Try.func58 (by kernel_rfl) rfl #[.slice A16 (l0_3.drop (t268:Int).toNat).length (c0_3 - t268.toNat)] rfl (by(try simp only[List.map_toArray,List.map_cons,List.map_nil]);first|done|(rw[show(l0_3.drop (t268:Int).toNat).length=(l0_3.length - t268.toNat) from List.length_drop]<;>rfl)|rfl|(simp only[List.length_drop,List.length_take];rfl)) ?_;(with_reducible refine(pfor_TakeBlock.calls kj2 _ _ (l0_3.drop (t268:Int).toNat) t273 t274 t275 _ ?side1 ?side2 A13.out).mono ?_);(case side1=>exact Kd.cu_ (Kd.C_below HR272.out HB.out));(case side2=>exact HC272.out);rintro e w17 ⟨v276,rfl,ho0,hb⟩;refine⟨_,rfl,?_⟩;have n0_:=Aside0.mk (Kd.R_elder' (Kd.ru_ HO_4.out) (Kd.R_base ho0) hb);have n1_:=Aside0.mk (Kd.R_lower (Kd.R_new' ho0 (Kd.R_lt (Kd.ru_ HO_4.out))) (pbS_ bs_));have n2_:=Aside0.mk (blk_below (g:=gb266) (o:= .cells #[.int .i64 a0_0,.int .i64 a0_1,.int .i64 a0_2,.slice A0_3 l0_3.length c0_3,.int .i64 a0_4] 65 (0,0)) (bk_ BK266.out) hb);have n3_:=Aside0.mk (below_step bs_ hb);clear HO_4;clear BK266;clear HB;have HO_4:=n0_;have HO277:=n1_;have BK266:=n2_;have HB:=n3_;clear n0_ n1_ n2_ n3_))
    go_cut [52] (fun v52 wc=>∃ (kq:Nat) (x52_13:Bool),v52= .bool x52_13∧Aside0 (post_unpack.j1 kq t267 t268 t273 t274 x52_13 a0_0 a0_1 a0_2 l0_3 a0_4=some (r1,r2))∧Aside0 (kq<=kj2)∧Aside0 (Kd.R (Kd.int .u64) 48 wc w.heap.size (fun k_=>some k_≠(v276:Value).ownBlock) v270 t267)∧Aside0 (Kd.R (Kd.int .u64) 48 wc w.heap.size (fun k_=>some k_≠(v270:Value).ownBlock) v276 t273)∧Aside0 (wc.heap[gb266]? =some (.cells #[.int .i64 a0_0,.int .i64 a0_1,.int .i64 a0_2,(.slice A0_3 l0_3.length c0_3),.int .i64 a0_4] 65 (0,0)))∧Aside0 (Below w.heap.size w wc))
    case first=>
     have H:=HC14.out
     clear HC14
     by_cases c18:t275=0
     rotate_left
     .rw[if_neg c18]at H
      have c18b0:=beq_eq_false_iff_ne.mpr c18
      have c18b1:=bne_iff_ne.mpr c18
      (first|rw[c18b0]|(simp only[i64_w,i32_w];rw[c18b0])|skip)
      have H':=Aside0.mk H
      clear H
      go_wp2
      go_meet
      case rel=>exact⟨_,(true),rs_,H',⟨by have:=HJ2.out;first|omega|exact Nat.le_refl _⟩,⟨by(with_reducible repeat(first|apply Kd.rA_|apply Kd.rN_|apply Kd.rD_));exact Kd.R_mono HO_4.out (fun _ hk=>hk.2)⟩,⟨by(with_reducible repeat(first|apply Kd.rA_|apply Kd.rN_|apply Kd.rD_));exact Kd.R_mono HO277.out (fun _ hk=>hk.2)⟩,⟨bk_ BK266.out⟩,⟨bs_⟩⟩
     rw[if_pos c18]at H
     have c18b0:=beq_iff_eq.mpr c18
     have c18b1:=bne_eq_false_iff_eq.mpr c18
     clear c18
     (first|rw[c18b0]|(simp only[i64_w,i32_w];rw[c18b0])|skip)
     have H':=Aside0.mk H
     clear H
     obtain⟨Ao19,co19,eo19⟩:=Kd.R_slice HO277.out
     subst eo19
     have hcz20_0:w17.cell? ⟨gb266,0,none⟩=some (.int .i64 a0_0):=(blk_cell BK266.out 0).trans rfl
     have hcz20_1:w17.cell? ⟨gb266,1,none⟩=some (.int .i64 a0_1):=(blk_cell BK266.out 1).trans rfl
     have hcz20_2:w17.cell? ⟨gb266,2,none⟩=some (.int .i64 a0_2):=(blk_cell BK266.out 2).trans rfl
     have hcz20_3:w17.cell? ⟨gb266,3,none⟩=some (.slice A0_3 l0_3.length c0_3):=(blk_cell BK266.out 3).trans rfl
     have hcz20_4:w17.cell? ⟨gb266,4,none⟩=some (.int .i64 a0_4):=(blk_cell BK266.out 4).trans rfl
     have hfz20_0:=blk_frozen BK266.out 0
     have hfz20_1:=blk_frozen BK266.out 1
     have hfz20_2:=blk_frozen BK266.out 2
     have hfz20_3:=blk_frozen BK266.out 3
     have hfz20_4:=blk_frozen BK266.out 4
     go_wp2
     go_meet
     case rel=>exact⟨_,(((t273.length:Int) != a0_0)),rs_,H',⟨by have:=HJ2.out;first|omega|exact Nat.le_refl _⟩,⟨by(with_reducible repeat(first|apply Kd.rA_|apply Kd.rN_|apply Kd.rD_));exact Kd.R_mono HO_4.out (fun _ hk=>hk.2)⟩,⟨by(with_reducible repeat(first|apply Kd.rA_|apply Kd.rN_|apply Kd.rD_));exact Kd.R_mono HO277.out (fun _ hk=>hk.2)⟩,⟨bk_ BK266.out⟩,⟨bs_⟩⟩
    case rest=>
     clear HC14
     clear c11b0 c11b1
     clear c12b0 c12b1
     clear hcz15_0 hcz15_1 hcz15_2 hcz15_3 hcz15_4
     clear hfz15_0 hfz15_1 hfz15_2 hfz15_3 hfz15_4
     obtain⟨kq,x52_13,rfl,HA,HJ13,HO_4,HO_7,BK266,HB⟩:=hcut
     cases kq with
     |zero=>exact absurd HA.out (by simp[post_unpack.j1])
     |succ kj13=>
      have H:=HA.out
      clear HA
      simp only[post_unpack.j1]at H
      by_cases c21:x52_13=true
      .subst c21
       rw[if_pos rfl]at H
       simp only[Option.some.injEq,Prod.mk.injEq]at H
       obtain⟨rfl,rfl⟩:=H
       go_wp2
       go_ret2
       exact⟨_,rf_,by first|exact Kd.S_nil _ _ _ _ _|exact Kd.N_nil _ _ _ _ _|exact Kd.V_nil _ _ _ _ _|exact Kd.Q_nil _ _ _ _ _|exact Kd.R_nil _ _ _ _ _,bs_⟩
      .replace c21:=Bool.eq_false_iff.mpr c21
       subst c21
       rw[if_neg (show ¬ (false=true) by decide)]at H
       obtain⟨ji22,hji22⟩:∃ j_:Int,(wrap64 (t268+t274))=j_:=⟨_,rfl⟩
       replace H:(if 0<=(ji22)then(if(ji22)<=(l0_3.length:Int)then((pfor_TakeList.f kj13 (l0_3.drop ((ji22):Int).toNat) (wrap64 (64*(l0_3.length:Int)))).bind fun bt279=>(if bt279.2.2=0 then(post_unpack.j2 kj13 t267 t273 bt279.1 ((wrap64 ((ji22)+bt279.2.1)) != (l0_3.length:Int)) a0_0 a0_1 a0_2 l0_3 a0_4)else(post_unpack.j2 kj13 t267 t273 bt279.1 true a0_0 a0_1 a0_2 l0_3 a0_4)))else(none))else(none))=some (r1,r2):=hj_ hji22 H
       have hji22w:(IntKind.i64.wrap (t268+t274))=ji22:=(i64_w _).trans hji22
       by_cases c23:0<=(ji22)
       rotate_left
       .rw[if_neg c23]at H
        cases H
       rw[if_pos c23]at H
       have c23b0:=eq_true c23
       have c23b1:=decide_eq_true c23
       clear c23
       by_cases c24:(ji22)<=(l0_3.length:Int)
       rotate_left
       .rw[if_neg c24]at H
        cases H
       rw[if_pos c24]at H
       have c24b0:=eq_true c24
       have c24b1:=decide_eq_true c24
       clear c24
       replace H:=Option.bind_eq_some_iff.mp H
       obtain⟨⟨t279,t280,t281⟩,A250,H⟩:=H
       try dsimp only at H
       have A25:=Aside0.mk A250
       clear A250
       have HC26:=Aside0.mk H
       clear H
       try go_wp2
       have n0_:=Aside0.mk (Kd.rD_ HO_4.out)
       have n1_:=Aside0.mk (Kd.rD_ HO_7.out)
       have n2_:=Aside0.mk (blk_drew BK266.out)
       have n3_:=Aside0.mk (pb1_ HB.out)
       clear HO_4
       clear HO_7
       clear BK266
       clear HB
       have HO_4:=n0_
       have HO_7:=n1_
       have BK266:=n2_
       have HB:=n3_
       clear n0_ n1_ n2_ n3_
       obtain⟨i028,hi028,_,hsz28,_⟩:=info_parts info5
       obtain⟨A28,hcut28,hA28,hC28⟩:=print_drop_of (P:=Try.prog) (Value.int .u8) 0 22 5 .i64 Try.underlying22 hi028 hsz28 A0_3 c0_3 l0_3 (ji22) od_ od_ HC0_3.out
       have HR278:=Aside0.mk (Kd.C_of_reads (h1:=fun _=>rfl) (hA28 _ (Kd.reads_of_C HR0_3.out)))
       have HC278:=Aside0.mk hC28
       clear hA28 hC28 hi028 hsz28
       refine start_ (n:=18) (S:=fun w'=>w'.cell? ⟨gb266,0,none⟩=some (.int .i64 a0_0)∧w'.cell? ⟨gb266,1,none⟩=some (.int .i64 a0_1)∧w'.cell? ⟨gb266,2,none⟩=some (.int .i64 a0_2)∧w'.cell? ⟨gb266,3,none⟩=some (.slice A0_3 l0_3.length c0_3)∧w'.cell? ⟨gb266,4,none⟩=some (.int .i64 a0_4)) (ds:=[]) #[false,false,false,false,false,false,false,false,false,false,false,false,false,false,false,false,false,false] (by kernel_rfl) rfl rfl ⟨(blk_cell BK266.out 0).trans rfl,(blk_cell BK266.out 1).trans rfl,(blk_cell BK266.out 2).trans rfl,(blk_cell BK266.out 3).trans rfl,(blk_cell BK266.out 4).trans rfl⟩ (fun hHeld=>?_);refine with_tabW post_unpack.tab7 post_unpack.bits7 (fun HT_ HW_=>?_)
       generalize wc.drew=w27 at HO_4 HO_7 BK266 HB HR278 hHeld ⊢
       refine pv_ (i:=0) (N:=some 54) HT_ ?_
       refine pv_ (i:=2) (N:=some 56) HT_ ?_
       refine pv_ (i:=3) (N:=some 57) HT_ ?_
       refine pv_ (i:=4) (N:=some 58) HT_ ?_
       refine pv_ (i:=6) (N:=some 60) HT_ ?_
       refine tv_ (i:=1) (N:=some 55) HT_ HW_ hHeld ?_
       refine pv_ (i:=5) (N:=some 59) HT_ ?_
       refine tv_ (i:=7) (N:=some 61) HT_ HW_ hHeld ?_
       refine pv_ (i:=8) (N:=some 62) HT_ ?_
       refine pv_ (i:=9) (N:=some 63) HT_ ?_
       refine one_ (i:=10) (N:=some 64) #[tT,tT,tT,tT,tT,tT,tT,tT,tT,tT,tT,fF,fF,fF,fF,fF,fF,fF] rfl rfl (one_of HT_.out (by kernel_rfl)) (by decide) (fun K hK=>?_)
       refine goes_ Try.func59 (by kernel_rfl) rfl #[.slice A28 (l0_3.drop ((ji22):Int).toNat).length (c0_3 - (ji22).toNat),.int .i64 (wrap64 (64*(l0_3.length:Int)))] (by rfl) rfl rfl (by(try simp only[List.map_toArray,List.map_cons,List.map_nil]);first|done|(rw[show(l0_3.drop ((ji22):Int).toNat).length=(l0_3.length - (ji22).toNat) from List.length_drop]<;>rfl)|(simp only[hji22];rfl)|rfl|(simp only[List.length_drop,List.length_take];rfl)) ?_
       with_reducible refine(pfor_TakeList.calls kj13 _ _ (l0_3.drop ((ji22):Int).toNat) (wrap64 (64*(l0_3.length:Int))) t279 t280 t281 _ ?side1 ?side2 A25.out).mono ?_
       (case side1=>exact Kd.cu_ (Kd.C_below HR278.out HB.out))
       (case side2=>exact HC278.out)
       rintro e w29 ⟨v282,rfl,ho0,hb⟩
       refine⟨_,rfl,?_⟩
       have n0_:=Aside0.mk (Kd.R_elder' (Kd.ru_ HO_4.out) (Kd.R_base ho0) hb)
       have n1_:=Aside0.mk (Kd.R_elder' (Kd.ru_ HO_7.out) (Kd.R_base ho0) hb)
       have n2_:=Aside0.mk (Kd.R_lower (Kd.R_new' (Kd.R_new' ho0 (Kd.R_lt (Kd.ru_ HO_4.out))) (Kd.R_lt (Kd.ru_ HO_7.out))) (pbS_ bs_))
       have n3_:=Aside0.mk (blk_below (g:=gb266) (o:= .cells #[.int .i64 a0_0,.int .i64 a0_1,.int .i64 a0_2,.slice A0_3 l0_3.length c0_3,.int .i64 a0_4] 65 (0,0)) (bk_ BK266.out) hb)
       have n4_:=Aside0.mk (below_step bs_ hb)
       clear HO_4
       clear HO_7
       clear BK266
       clear HB
       have HO_4:=n0_
       have HO_7:=n1_
       have HO283:=n2_
       have BK266:=n3_
       have HB:=n4_
       clear n0_ n1_ n2_ n3_ n4_
       clear hb
       clear ho0
       refine hK.out _ _ ⟨(blk_cell BK266.out 0).trans rfl,(blk_cell BK266.out 1).trans rfl,(blk_cell BK266.out 2).trans rfl,(blk_cell BK266.out 3).trans rfl,(blk_cell BK266.out 4).trans rfl⟩ (fun hHeld=>?_)
       clear hK K
       refine norm_ (a':=?_) ?_ ?_
       rotate_left
       .show Act.put _ (some 64) _=_
        simp only[Act.put,List.setIfInBounds_toArray,List.set_cons_zero,List.set_cons_succ,i64_w,i32_w]
        rfl
       refine pv_ (i:=11) (N:=some 53) HT_ ?_
       refine pv_ (i:=12) (N:=some 65) HT_ ?_
       refine pv_ (i:=13) (N:=some 66) HT_ ?_
       refine pv_ (i:=14) (N:=some 67) HT_ ?_
       refine pv_ (i:=15) (N:=some 9) HT_ ?_
       refine pv_ (i:=16) (N:=some 10) HT_ ?_
       refine pv_ (i:=17) (N:=some 6) HT_ ?_
       refine done_ (done_of HT_.out (by kernel_rfl)) ?_
       go_upto_region 8 with (fail)
       go_cut [80] (fun v80 wc=>∃ (kq:Nat) (x80_25:Bool),v80= .bool x80_25∧Aside0 (post_unpack.j2 kq t267 t273 t279 x80_25 a0_0 a0_1 a0_2 l0_3 a0_4=some (r1,r2))∧Aside0 (kq<=kj13)∧Aside0 (Kd.R (Kd.int .u64) 48 wc w.heap.size (fun k_=>some k_≠(v276:Value).ownBlock∧some k_≠(v282:Value).ownBlock) v270 t267)∧Aside0 (Kd.R (Kd.int .u64) 48 wc w.heap.size (fun k_=>some k_≠(v270:Value).ownBlock∧some k_≠(v282:Value).ownBlock) v276 t273)∧Aside0 (Kd.Q (Kd.int .u64) 48 wc w.heap.size (fun k_=>some k_≠(v270:Value).ownBlock∧some k_≠(v276:Value).ownBlock) v282 t279)∧Aside0 (wc.heap[gb266]? =some (.cells #[.int .i64 a0_0,.int .i64 a0_1,.int .i64 a0_2,(.slice A0_3 l0_3.length c0_3),.int .i64 a0_4] 65 (0,0)))∧Aside0 (Below w.heap.size w wc))
       case first=>
        have H:=HC26.out
        clear HC26
        by_cases c30:t281=0
        rotate_left
        .rw[if_neg c30]at H
         have c30b0:=beq_eq_false_iff_ne.mpr c30
         have c30b1:=bne_iff_ne.mpr c30
         (first|rw[c30b0]|(simp only[i64_w,i32_w];rw[c30b0])|skip)
         have H':=Aside0.mk H
         clear H
         go_wp2
         go_meet
         case rel=>exact⟨_,(true),rs_,H',⟨by have:=HJ2.out;have:=HJ13.out;first|omega|exact Nat.le_refl _⟩,⟨Kd.ru_ HO_4.out⟩,⟨Kd.ru_ HO_7.out⟩,⟨Kd.Q_of_R (by(with_reducible repeat(first|apply Kd.rA_|apply Kd.rN_|apply Kd.rD_));exact Kd.R_mono HO283.out (fun _ hk=>⟨hk.1.2,hk.2⟩))⟩,⟨bk_ BK266.out⟩,⟨bs_⟩⟩
        rw[if_pos c30]at H
        have c30b0:=beq_iff_eq.mpr c30
        have c30b1:=bne_eq_false_iff_eq.mpr c30
        clear c30
        (first|rw[c30b0]|(simp only[i64_w,i32_w];rw[c30b0])|skip)
        have H':=Aside0.mk H
        clear H
        have hcz31_0:w29.cell? ⟨gb266,0,none⟩=some (.int .i64 a0_0):=(blk_cell BK266.out 0).trans rfl
        have hcz31_1:w29.cell? ⟨gb266,1,none⟩=some (.int .i64 a0_1):=(blk_cell BK266.out 1).trans rfl
        have hcz31_2:w29.cell? ⟨gb266,2,none⟩=some (.int .i64 a0_2):=(blk_cell BK266.out 2).trans rfl
        have hcz31_3:w29.cell? ⟨gb266,3,none⟩=some (.slice A0_3 l0_3.length c0_3):=(blk_cell BK266.out 3).trans rfl
        have hcz31_4:w29.cell? ⟨gb266,4,none⟩=some (.int .i64 a0_4):=(blk_cell BK266.out 4).trans rfl
        have hfz31_0:=blk_frozen BK266.out 0
        have hfz31_1:=blk_frozen BK266.out 1
        have hfz31_2:=blk_frozen BK266.out 2
        have hfz31_3:=blk_frozen BK266.out 3
        have hfz31_4:=blk_frozen BK266.out 4
        go_wp2
        go_meet
        case rel=>exact⟨_,(((wrap64 ((ji22)+t280)) != (l0_3.length:Int))),(by first|rfl|(simp;done)|(simp only[<- hji22]<;>(first|rfl|simp))|(simp[*];done)),H',⟨by have:=HJ2.out;have:=HJ13.out;first|omega|exact Nat.le_refl _⟩,⟨Kd.ru_ HO_4.out⟩,⟨Kd.ru_ HO_7.out⟩,⟨Kd.Q_of_R (by(with_reducible repeat(first|apply Kd.rA_|apply Kd.rN_|apply Kd.rD_));exact Kd.R_mono HO283.out (fun _ hk=>⟨hk.1.2,hk.2⟩))⟩,⟨bk_ BK266.out⟩,⟨bs_⟩⟩
       case rest=>
        clear HC26
        clear c23b0 c23b1
        clear c24b0 c24b1
        obtain⟨kq,x80_25,rfl,HA,HJ25,HO_4,HO_7,HO_9,BK266,HB⟩:=hcut
        cases kq with
        |zero=>exact absurd HA.out (by simp[post_unpack.j2])
        |succ kj25=>
         have H:=HA.out
         clear HA
         simp only[post_unpack.j2]at H
         by_cases c32:x80_25=true
         .subst c32
          rw[if_pos rfl]at H
          simp only[Option.some.injEq,Prod.mk.injEq]at H
          obtain⟨rfl,rfl⟩:=H
          go_wp2
          go_ret2
          exact⟨_,by first|rfl|(simp[eWn_,eWs_]<;>rfl)|(simp only[<- hji22];first|rfl|(simp[eWn_,eWs_]<;>rfl))|(simp[*,eWn_,eWs_]<;>rfl),by first|exact Kd.S_nil _ _ _ _ _|exact Kd.N_nil _ _ _ _ _|exact Kd.V_nil _ _ _ _ _|exact Kd.Q_nil _ _ _ _ _|exact Kd.R_nil _ _ _ _ _,bs_⟩
         .replace c32:=Bool.eq_false_iff.mpr c32
          subst c32
          rw[if_neg (show ¬ (false=true) by decide)]at H
          by_cases c33:0<=a0_0
          rotate_left
          .rw[if_neg c33]at H
           cases H
          rw[if_pos c33]at H
          have c33b0:=eq_true c33
          have c33b1:=decide_eq_true c33
          clear c33
          by_cases c34:(a0_0:Int).toNat<=8796093022208
          rotate_left
          .rw[if_neg c34]at H
           cases H
          rw[if_pos c34]at H
          have c34b0:=eq_true c34
          have c34b1:=decide_eq_true c34
          clear c34
          obtain⟨y284,hy284⟩:∃ y_:List (S37),y_=(List.replicate 0 z37):=⟨_,rfl⟩
          replace H:(post_unpack.l0 kj25 t273 t279 y284 a0_1 t267 (t267.length:Int) 0 a0_0 a0_1 a0_2 l0_3 a0_4)=some (r1,r2):=hx_ hy284 H
          have Ny284:=Aside0.mk hy284
          clear hy284
          have H':=Aside0.mk H
          clear H
          have hcz35_0:wc.cell? ⟨gb266,0,none⟩=some (.int .i64 a0_0):=(blk_cell BK266.out 0).trans rfl
          have hcz35_1:wc.cell? ⟨gb266,1,none⟩=some (.int .i64 a0_1):=(blk_cell BK266.out 1).trans rfl
          have hcz35_2:wc.cell? ⟨gb266,2,none⟩=some (.int .i64 a0_2):=(blk_cell BK266.out 2).trans rfl
          have hcz35_3:wc.cell? ⟨gb266,3,none⟩=some (.slice A0_3 l0_3.length c0_3):=(blk_cell BK266.out 3).trans rfl
          have hcz35_4:wc.cell? ⟨gb266,4,none⟩=some (.int .i64 a0_4):=(blk_cell BK266.out 4).trans rfl
          have hfz35_0:=blk_frozen BK266.out 0
          have hfz35_1:=blk_frozen BK266.out 1
          have hfz35_2:=blk_frozen BK266.out 2
          have hfz35_3:=blk_frozen BK266.out 3
          have hfz35_4:=blk_frozen BK266.out 4
          go_wp2_with (first|((with_reducible refine gate_dst (N:=83) rfl ?_);(try(refine gate_guard (by rfl) ?_;dsimp only));refine Kd.S_makecap k37 _ 37 rfl (N:=83) rfl 23 _ _ rfl 0 a0_0 rfl rfl Try.underlying23 (.agg #[(.int .i64 0),(.slice none 0 0)]) 32 info37 rfl (by decide) (by omega) z37 (ok:=fun _=>True) (okp:=fun _=>True) (k37_mkM _ _ _ z37 (Kd.R_nil _ _ _ _ _)) (fun _ hk=>hk) trivial (by omega) od_ (Nat.le_trans (Nat.mul_le_mul_right _ (od_:a0_0.toNat<=8796093022208)) (by omega)) (Below.refl _ _) (Nat.le_refl _) ?_;intro v285 w36 ho37 hb hg_ hnew_;clear hg_ hnew_;(first|rw[<- Ny284.out]at ho37|(simp only[Int.reduceToNat]at ho37;rw[<- Ny284.out]at ho37));replace HO_4:=Aside0.mk (Kd.R_below (Kd.ru_ HO_4.out) hb);replace HO_7:=Aside0.mk (Kd.R_below (Kd.ru_ HO_7.out) hb);replace HO_9:=Aside0.mk (Kd.Q_below (by(with_reducible repeat(first|apply Kd.Q_alloc|apply Kd.Q_drewN|apply Kd.Q_drew));exact HO_9.out) hb);have HO286:=Aside0.mk (Kd.S_lower ho37 (pbS_ bs_));replace BK266:=Aside0.mk (blk_below (g:=gb266) (o:= .cells #[.int .i64 a0_0,.int .i64 a0_1,.int .i64 a0_2,.slice A0_3 l0_3.length c0_3,.int .i64 a0_4] 65 (0,0)) (bk_ BK266.out) hb);replace HB:=Aside0.mk (below_step bs_ hb);clear hb ho37;have hcz38_0:w36.cell? ⟨gb266,0,none⟩=some (.int .i64 a0_0):=(blk_cell BK266.out 0).trans rfl;have hcz38_1:w36.cell? ⟨gb266,1,none⟩=some (.int .i64 a0_1):=(blk_cell BK266.out 1).trans rfl;have hcz38_2:w36.cell? ⟨gb266,2,none⟩=some (.int .i64 a0_2):=(blk_cell BK266.out 2).trans rfl;have hcz38_3:w36.cell? ⟨gb266,3,none⟩=some (.slice A0_3 l0_3.length c0_3):=(blk_cell BK266.out 3).trans rfl;have hcz38_4:w36.cell? ⟨gb266,4,none⟩=some (.int .i64 a0_4):=(blk_cell BK266.out 4).trans rfl;have hfz38_0:=blk_frozen BK266.out 0;have hfz38_1:=blk_frozen BK266.out 1;have hfz38_2:=blk_frozen BK266.out 2;have hfz38_3:=blk_frozen BK266.out 3;have hfz38_4:=blk_frozen BK266.out 4;obtain⟨Ao39,co39,eo39⟩:=Kd.R_slice HO_4.out;subst eo39))
          go_loopg [9,11,12,88] kj25 (fun kq v9 v11 v12 v88 w'=>∃ (x9_4:List Int) (x11_4:List (S37)) (x12_4:Int) (x88_4:Int),v12= .int .i64 x12_4∧v88= .int .i64 x88_4∧Aside0 (post_unpack.l0 kq t273 x9_4 x11_4 x12_4 t267 (t267.length:Int) x88_4 a0_0 a0_1 a0_2 l0_3 a0_4=some (r1,r2))∧Aside0 (kq<=kj25)∧Aside0 (Kd.R (Kd.int .u64) 48 w' w.heap.size (fun k_=>some k_≠(v9:Value).ownBlock∧some k_≠((.slice Ao39 t267.length co39):Value).ownBlock) v276 t273)∧Aside0 (Kd.Q (Kd.int .u64) 48 w' w.heap.size (fun k_=>some k_≠(v276:Value).ownBlock∧some k_≠((.slice Ao39 t267.length co39):Value).ownBlock) v9 x9_4)∧Aside0 (Kd.S k37 37 w' w.heap.size (fun _=>True) v11 x11_4)∧Aside0 (Kd.R (Kd.int .u64) 48 w' w.heap.size (fun k_=>some k_≠(v276:Value).ownBlock∧some k_≠(v9:Value).ownBlock) (.slice Ao39 t267.length co39) t267)∧Aside0 (w'.heap[gb266]? =some (.cells #[.int .i64 a0_0,.int .i64 a0_1,.int .i64 a0_2,(.slice A0_3 l0_3.length c0_3),.int .i64 a0_4] 65 (0,0)))∧Aside0 (Below w.heap.size w w'))
          case atStart=>exact⟨(t279),(y284),(a0_1),(0),rs_,rs_,H',⟨Nat.le_refl _⟩,⟨by(with_reducible repeat(first|apply Kd.rA_|apply Kd.rN_|apply Kd.rD_));exact Kd.R_mono HO_7.out (fun _ hk=>⟨hk.2,hk.1⟩)⟩,⟨by(with_reducible repeat(first|apply Kd.Q_alloc|apply Kd.Q_drewN|apply Kd.Q_drew));exact Kd.Q_mono HO_9.out (fun _ hk=>⟨hk.2,hk.1⟩)⟩,⟨Kd.su_ HO286.out⟩,⟨Kd.ru_ HO_4.out⟩,⟨bk_ BK266.out⟩,⟨bs_⟩⟩
          case round=>
           clear H'
           clear c33b0 c33b1
           clear c34b0 c34b1
           clear hcz35_0 hcz35_1 hcz35_2 hcz35_3 hcz35_4 hcz38_0 hcz38_1 hcz38_2 hcz38_3 hcz38_4
           clear hfz35_0 hfz35_1 hfz35_2 hfz35_3 hfz35_4 hfz38_0 hfz38_1 hfz38_2 hfz38_3 hfz38_4
           obtain⟨x9_4,x11_4,x12_4,x88_4,rfl,rfl,HA,HK4,HO_7,HO_9,HO_11,HO_86,BK266,HB⟩:=hrel
           cases gk with
           |zero=>exact absurd HA.out (by simp[post_unpack.l0])
           |succ k4=>
            have H:=HA.out
            clear HA
            simp only[post_unpack.l0]at H
            by_cases c40:x88_4 < (t267.length:Int)
            rotate_left
            .rw[if_neg c40]at H
             have c40b0:=decide_eq_false c40
             clear c40
             by_cases c82:(x9_4.length:Int)=0
             rotate_left
             .rw[if_neg c82]at H
              have c82b0:=beq_eq_false_iff_ne.mpr c82
              have c82b1:=bne_iff_ne.mpr c82
              have c82b2: ¬ (x9_4=[]):=fun h_=>c82 (by rw[h_];rfl)
              simp only[Option.some.injEq,Prod.mk.injEq]at H
              obtain⟨rfl,rfl⟩:=H
              obtain⟨Ao91,co91,eo91,_⟩:=Kd.Q_slice HO_9.out
              subst eo91
              go_wp2
              go_ret2
              exact⟨_,by first|rfl|(simp[eWn_,eWs_]<;>rfl)|(simp only[<- hji22];first|rfl|(simp[eWn_,eWs_]<;>rfl))|(simp[*,eWn_,eWs_]<;>rfl),by(with_reducible repeat(first|apply Kd.S_alloc|apply Kd.S_drewN|apply Kd.S_drew));exact HO_11.out,bs_⟩
             rw[if_pos c82]at H
             have c82b0:=beq_iff_eq.mpr c82
             have c82b1:=bne_eq_false_iff_eq.mpr c82
             clear c82
             by_cases c83:x12_4=a0_2
             rotate_left
             .rw[if_neg c83]at H
              have c83b0:=beq_eq_false_iff_ne.mpr c83
              have c83b1:=bne_iff_ne.mpr c83
              simp only[Option.some.injEq,Prod.mk.injEq]at H
              obtain⟨rfl,rfl⟩:=H
              obtain⟨Ao89,co89,eo89,_⟩:=Kd.Q_slice HO_9.out
              subst eo89
              have hcz90_0:wr.cell? ⟨gb266,0,none⟩=some (.int .i64 a0_0):=(blk_cell BK266.out 0).trans rfl
              have hcz90_1:wr.cell? ⟨gb266,1,none⟩=some (.int .i64 a0_1):=(blk_cell BK266.out 1).trans rfl
              have hcz90_2:wr.cell? ⟨gb266,2,none⟩=some (.int .i64 a0_2):=(blk_cell BK266.out 2).trans rfl
              have hcz90_3:wr.cell? ⟨gb266,3,none⟩=some (.slice A0_3 l0_3.length c0_3):=(blk_cell BK266.out 3).trans rfl
              have hcz90_4:wr.cell? ⟨gb266,4,none⟩=some (.int .i64 a0_4):=(blk_cell BK266.out 4).trans rfl
              have hfz90_0:=blk_frozen BK266.out 0
              have hfz90_1:=blk_frozen BK266.out 1
              have hfz90_2:=blk_frozen BK266.out 2
              have hfz90_3:=blk_frozen BK266.out 3
              have hfz90_4:=blk_frozen BK266.out 4
              go_wp2
              go_ret2
              exact⟨_,by first|rfl|(simp[eWn_,eWs_]<;>rfl)|(simp only[<- hji22];first|rfl|(simp[eWn_,eWs_]<;>rfl))|(simp[*,eWn_,eWs_]<;>rfl),by(with_reducible repeat(first|apply Kd.S_alloc|apply Kd.S_drewN|apply Kd.S_drew));exact HO_11.out,bs_⟩
             rw[if_pos c83]at H
             have c83b0:=beq_iff_eq.mpr c83
             have c83b1:=bne_eq_false_iff_eq.mpr c83
             clear c83
             replace H:=Option.bind_eq_some_iff.mp H
             obtain⟨t287,A840,H⟩:=H
             try dsimp only at H
             have A84:=Aside0.mk A840
             clear A840
             simp only[Option.some.injEq,Prod.mk.injEq]at H
             obtain⟨rfl,rfl⟩:=H
             obtain⟨Ao85,co85,eo85,_⟩:=Kd.Q_slice HO_9.out
             subst eo85
             have hcz86_0:wr.cell? ⟨gb266,0,none⟩=some (.int .i64 a0_0):=(blk_cell BK266.out 0).trans rfl
             have hcz86_1:wr.cell? ⟨gb266,1,none⟩=some (.int .i64 a0_1):=(blk_cell BK266.out 1).trans rfl
             have hcz86_2:wr.cell? ⟨gb266,2,none⟩=some (.int .i64 a0_2):=(blk_cell BK266.out 2).trans rfl
             have hcz86_3:wr.cell? ⟨gb266,3,none⟩=some (.slice A0_3 l0_3.length c0_3):=(blk_cell BK266.out 3).trans rfl
             have hcz86_4:wr.cell? ⟨gb266,4,none⟩=some (.int .i64 a0_4):=(blk_cell BK266.out 4).trans rfl
             have hfz86_0:=blk_frozen BK266.out 0
             have hfz86_1:=blk_frozen BK266.out 1
             have hfz86_2:=blk_frozen BK266.out 2
             have hfz86_3:=blk_frozen BK266.out 3
             have hfz86_4:=blk_frozen BK266.out 4
             obtain⟨Ao87,co87,eo87⟩:=Kd.S_slice HO_11.out
             subst eo87
             go_wp2_with (first|(go_at_call 16;(with_reducible refine(post_Formed.calls k4 _ _ x11_4 t287 _ ?side1 ?side2 A84.out).mono ?_);(case side1=>exact Kd.cu_ (Kd.S_reads' HO_11.out).2.2);(case side2=>exact(Kd.S_reads' HO_11.out).2.1);rintro e w88 ⟨rfl,hb⟩;replace HO_7:=Aside0.mk (Kd.R_below (Kd.ru_ HO_7.out) hb);replace HO_9:=Aside0.mk (Kd.Q_below (by(with_reducible repeat(first|apply Kd.Q_alloc|apply Kd.Q_drewN|apply Kd.Q_drew));exact HO_9.out) hb);replace HO_11:=Aside0.mk (Kd.S_below (Kd.su_ HO_11.out) hb);replace HO_86:=Aside0.mk (Kd.R_below (Kd.ru_ HO_86.out) hb);replace BK266:=Aside0.mk (blk_below (g:=gb266) (o:= .cells #[.int .i64 a0_0,.int .i64 a0_1,.int .i64 a0_2,.slice A0_3 l0_3.length c0_3,.int .i64 a0_4] 65 (0,0)) (bk_ BK266.out) hb);replace HB:=Aside0.mk (below_step bs_ hb)))
             go_ret2
             exact⟨_,by first|rfl|(simp[eWn_,eWs_]<;>rfl)|(simp only[<- hji22];first|rfl|(simp[eWn_,eWs_]<;>rfl))|(simp[*,eWn_,eWs_]<;>rfl),by(with_reducible repeat(first|apply Kd.S_alloc|apply Kd.S_drewN|apply Kd.S_drew));exact HO_11.out,bs_⟩
            rw[if_pos c40]at H
            have c40b0:=decide_eq_true c40
            clear c40
            by_cases c41:0<=x88_4
            rotate_left
            .rw[if_neg c41]at H
             cases H
            rw[if_pos c41]at H
            have c41b0:=decide_eq_true c41
            clear c41
            by_cases c42:x88_4 < (t267.length:Int)
            rotate_left
            .rw[if_neg c42]at H
             cases H
            rw[if_pos c42]at H
            have c42b0:=decide_eq_true c42
            clear c42
            have HC43:=Aside0.mk H
            clear H
            have p288:0<=(x88_4:Int):=od_
            have q288:x88_4 < (t267.length:Int):=od_
            obtain⟨ad288,e288,hx288_0⟩:=Kd.at_int (Kd.R_reads' HO_86.out).2.2 x88_4 p288 q288
            cases e288
            replace p288:=eq_true p288
            replace q288:=eq_true q288
            go_upto_region 15 with (fail)
            go_cut [104] (fun v104 wc=>∃ (kq:Nat) (x104_42:Bool),v104= .bool x104_42∧Aside0 (post_unpack.j4 kq t273 x9_4 x11_4 x12_4 x88_4 (rd t267 x88_4) t267 (t267.length:Int) x88_4 x104_42 a0_0 a0_1 a0_2 l0_3 a0_4=some (r1,r2))∧Aside0 (kq<=k4)∧Aside0 (Kd.R (Kd.int .u64) 48 wc w.heap.size (fun k_=>some k_≠(u9:Value).ownBlock∧some k_≠((.slice (some ad288) t267.length co39):Value).ownBlock) v276 t273)∧Aside0 (Kd.Q (Kd.int .u64) 48 wc w.heap.size (fun k_=>some k_≠(v276:Value).ownBlock∧some k_≠((.slice (some ad288) t267.length co39):Value).ownBlock) u9 x9_4)∧Aside0 (Kd.S k37 37 wc w.heap.size (fun _=>True) u11 x11_4)∧Aside0 (Kd.R (Kd.int .u64) 48 wc w.heap.size (fun k_=>some k_≠(v276:Value).ownBlock∧some k_≠(u9:Value).ownBlock) (.slice (some ad288) t267.length co39) t267)∧Aside0 (wc.heap[gb266]? =some (.cells #[.int .i64 a0_0,.int .i64 a0_1,.int .i64 a0_2,(.slice A0_3 l0_3.length c0_3),.int .i64 a0_4] 65 (0,0)))∧Aside0 (Below w.heap.size w wc))
            case first=>
             have H:=HC43.out
             clear HC43
             by_cases c44:(rd t267 x88_4) > 4095
             .rw[if_pos c44]at H
              have c44b0:=decide_eq_true c44
              clear c44
              (first|rw[c44b0]|(simp only[i64_w,i32_w];rw[c44b0])|skip)
              have H':=Aside0.mk H
              clear H
              go_wp2
              go_meet
              case rel=>exact⟨_,(true),rs_,H',⟨by have:=HJ2.out;have:=HJ13.out;have:=HJ25.out;have:=HK4.out;first|omega|exact Nat.le_refl _⟩,⟨Kd.ru_ HO_7.out⟩,⟨by(with_reducible repeat(first|apply Kd.Q_alloc|apply Kd.Q_drewN|apply Kd.Q_drew));exact HO_9.out⟩,⟨Kd.su_ HO_11.out⟩,⟨Kd.ru_ HO_86.out⟩,⟨bk_ BK266.out⟩,⟨bs_⟩⟩
             .rw[if_neg c44]at H
              have c44b0:=decide_eq_false c44
              clear c44
              (first|rw[c44b0]|(simp only[i64_w,i32_w];rw[c44b0])|skip)
              by_cases c45:x88_4 < (t273.length:Int)
              rotate_left
              .rw[if_neg c45]at H
               cases H
              rw[if_pos c45]at H
              have c45b0:=decide_eq_true c45
              clear c45
              have H':=Aside0.mk H
              clear H
              obtain⟨Ao46,co46,eo46⟩:=Kd.R_slice HO_7.out
              subst eo46
              have p289:0<=(x88_4:Int):=od_
              have q289:x88_4 < (t273.length:Int):=od_
              obtain⟨ad289,e289,hx289_0⟩:=Kd.at_int (Kd.R_reads' HO_7.out).2.2 x88_4 p289 q289
              cases e289
              replace p289:=eq_true p289
              replace q289:=eq_true q289
              obtain⟨Ao47,co47,eo47,_⟩:=Kd.Q_slice HO_9.out
              subst eo47
              go_wp2
              go_meet
              case rel=>exact⟨_,(decide ((rd t273 x88_4)≥(IntKind.u64.wrap ((x9_4.length:Int))))),rs_,H',⟨by have:=HJ2.out;have:=HJ13.out;have:=HJ25.out;have:=HK4.out;first|omega|exact Nat.le_refl _⟩,⟨Kd.ru_ HO_7.out⟩,⟨by(with_reducible repeat(first|apply Kd.Q_alloc|apply Kd.Q_drewN|apply Kd.Q_drew));exact HO_9.out⟩,⟨Kd.su_ HO_11.out⟩,⟨Kd.ru_ HO_86.out⟩,⟨bk_ BK266.out⟩,⟨bs_⟩⟩
            case rest=>
             clear HC43
             clear c40b0
             clear c41b0
             clear c42b0
             clear hx288_0
             clear p288
             clear q288
             obtain⟨kq,x104_42,rfl,HA,HJ42,HO_7,HO_9,HO_11,HO_86,BK266,HB⟩:=hcut
             cases kq with
             |zero=>exact absurd HA.out (by simp[post_unpack.j4])
             |succ kj42=>
              have H:=HA.out
              clear HA
              simp only[post_unpack.j4]at H
              by_cases c48:x104_42=true
              .subst c48
               rw[if_pos rfl]at H
               simp only[Option.some.injEq,Prod.mk.injEq]at H
               obtain⟨rfl,rfl⟩:=H
               go_wp2
               go_ret2
               exact⟨_,by first|rfl|(simp[eWn_,eWs_]<;>rfl)|(simp only[<- hji22];first|rfl|(simp[eWn_,eWs_]<;>rfl))|(simp[*,eWn_,eWs_]<;>rfl),by first|exact Kd.S_nil _ _ _ _ _|exact Kd.N_nil _ _ _ _ _|exact Kd.V_nil _ _ _ _ _|exact Kd.Q_nil _ _ _ _ _|exact Kd.R_nil _ _ _ _ _,bs_⟩
              .replace c48:=Bool.eq_false_iff.mpr c48
               subst c48
               rw[if_neg (show ¬ (false=true) by decide)]at H
               by_cases c49:0<=x88_4
               rotate_left
               .rw[if_neg c49]at H
                cases H
               rw[if_pos c49]at H
               have c49b0:=decide_eq_true c49
               clear c49
               by_cases c50:x88_4 < (t273.length:Int)
               rotate_left
               .rw[if_neg c50]at H
                cases H
               rw[if_pos c50]at H
               have c50b0:=decide_eq_true c50
               clear c50
               obtain⟨ji51,hji51⟩:∃ j_:Int,(IntKind.u64.wrap ((rd t273 x88_4)+1))=j_:=⟨_,rfl⟩
               replace H:(if 0<=(ji51)then(if(ji51)<=(x9_4.length:Int)then((some (x9_4.take ((ji51):Int).toNat:List Int)).bind fun y292=>(post_unpack.l1 kj42 t273 x9_4 x11_4 (wrap64 (x12_4+(wrap64 ((wrap64 ((rd t267 x88_4)))+1)))) x88_4 (-1) t267 (t267.length:Int) x88_4 y292 (y292.length:Int) 0 a0_0 a0_1 a0_2 l0_3 a0_4 (wrap64 (x12_4+(wrap64 ((wrap64 ((rd t267 x88_4)))+1)))) ([]:List Int)))else(none))else(none))=some (r1,r2):=hj_ hji51 H
               by_cases c52:0<=(ji51)
               rotate_left
               .rw[if_neg c52]at H
                cases H
               rw[if_pos c52]at H
               have c52b0:=eq_true c52
               have c52b1:=decide_eq_true c52
               clear c52
               by_cases c53:(ji51)<=(x9_4.length:Int)
               rotate_left
               .rw[if_neg c53]at H
                cases H
               rw[if_pos c53]at H
               have c53b0:=eq_true c53
               have c53b1:=decide_eq_true c53
               clear c53
               obtain⟨y292,hy292⟩:∃ y_:List Int,y_=(x9_4.take ((ji51):Int).toNat):=⟨_,rfl⟩
               replace H:(post_unpack.l1 kj42 t273 x9_4 x11_4 (wrap64 (x12_4+(wrap64 ((wrap64 ((rd t267 x88_4)))+1)))) x88_4 (-1) t267 (t267.length:Int) x88_4 y292 (y292.length:Int) 0 a0_0 a0_1 a0_2 l0_3 a0_4 (wrap64 (x12_4+(wrap64 ((wrap64 ((rd t267 x88_4)))+1)))) ([]:List Int))=some (r1,r2):=hx_ hy292 H
               have Ny292:=Aside0.mk hy292
               clear hy292
               have H':=Aside0.mk H
               clear H
               go_wp2_with (first|((with_reducible refine gate_dst (N:=15) rfl ?_);(try(refine gate_guard (by rfl) ?_;dsimp only));refine box_event ?hg (N:=15) ?hd (cs:= #[.int .i64 0,.slice none 0 0]) (t:=37) ?hr ?_;(case hd=>rfl);(case hg=>rfl);(case hr=>first|(go_simp;done)|(go_simp;rfl));intro gb290 hg w54 hbox hb;have n0_:=Aside0.mk (Kd.R_below (Kd.ru_ HO_7.out) hb);have n1_:=Aside0.mk (Kd.Q_below (by(with_reducible repeat(first|apply Kd.Q_alloc|apply Kd.Q_drewN|apply Kd.Q_drew));exact HO_9.out) hb);have n2_:=Aside0.mk (Kd.S_below (Kd.S_elderB (Kd.su_ HO_11.out) gb290 (Nat.le_of_eq hg.symm)) hb);have n3_:=Aside0.mk (Kd.R_below (Kd.ru_ HO_86.out) hb);have n4_:=Aside0.mk (blk_below (g:=gb266) (o:= .cells #[.int .i64 a0_0,.int .i64 a0_1,.int .i64 a0_2,.slice A0_3 l0_3.length c0_3,.int .i64 a0_4] 65 (0,0)) (bk_ BK266.out) hb);have n5_:=Aside0.mk (below_step bs_ hb);have n6_:=Aside0.mk (hbox);have n7_:=Aside0.mk ((by rw[hg];exact(pbS_ bs_):w.heap.size<=gb290));have n8_:=Aside0.mk ((by rw[hg];exact(pbS_ bs_):w.heap.size<=gb290));have n9_:=Aside0.mk ((by rw[hg];exact Nat.ne_of_lt (blk_lt (g:=gb266) (o:= .cells #[.int .i64 a0_0,.int .i64 a0_1,.int .i64 a0_2,.slice A0_3 l0_3.length c0_3,.int .i64 a0_4] 65 (0,0)) (bk_ BK266.out)):gb266≠gb290));have n10_:=Aside0.mk ((by rw[hg];exact Nat.ne_of_gt (blk_lt (g:=gb266) (o:= .cells #[.int .i64 a0_0,.int .i64 a0_1,.int .i64 a0_2,.slice A0_3 l0_3.length c0_3,.int .i64 a0_4] 65 (0,0)) (bk_ BK266.out)):gb290≠gb266));clear HO_7;clear HO_9;clear HO_11;clear HO_86;clear BK266;clear HB;have HO_7:=n0_;have HO_9:=n1_;have HO_11:=n2_;have HO_86:=n3_;have BK266:=n4_;have HB:=n5_;have BK290:=n6_;have GW290:=n7_;have GE290:=n8_;have NB266_290:=n9_;have NB290_266:=n10_;clear n0_ n1_ n2_ n3_ n4_ n5_ n6_ n7_ n8_ n9_ n10_;clear hb hbox hg;have hnb55:=NB290_266.out;have hnc55:=NB266_290.out;have hcz56_0:w54.cell? ⟨gb290,0,none⟩=some (.int .i64 0):=(blk_cell BK290.out 0).trans rfl;have hcz56_1:w54.cell? ⟨gb290,1,none⟩=some (.slice none 0 0):=(blk_cell BK290.out 1).trans rfl;have hfz56_0:=blk_frozen BK290.out 0;have hfz56_1:=blk_frozen BK290.out 1)|((with_reducible refine gate_store (t:=37) (p:=15) rfl ?_);refine store_event (t:=37) (p:=15) (v:= ?vo_w57) (w1:=((w54.setCell ⟨gb290,0,none⟩ (.int .i64 (wrap64 (x12_4+(wrap64 ((wrap64 ((rd t267 x88_4)))+1)))))).setCell ⟨gb290,1,none⟩ (.slice none 0 0))) ?hg ?ho ?hn ?hr ?_;(case ho=>rfl);(case hg=>rfl);(case hn=>rfl);(case hr=>first|(go_simp;done)|(go_simp;rfl));intro w57 hw;have n0_:Aside0 (Kd.R (Kd.int .u64) 48 w57 w.heap.size (fun k_=>some k_≠(u9:Value).ownBlock∧some k_≠(.slice (some ad288) t267.length co39:Value).ownBlock) v276 t273):=⟨(by rw[hw];exact(by(with_reducible repeat(first|apply Kd.rA_|apply Kd.rN_|apply Kd.rD_));exact Kd.R_mono (Kd.R_far (p:=⟨gb290,1,none⟩) (Kd.R_far (p:=⟨gb290,0,none⟩) (Kd.R_types HO_7.out BK290.out (by decide)) (fun _ hk=>hk.2) (.int .i64 (wrap64 (x12_4+(wrap64 ((wrap64 ((rd t267 x88_4)))+1)))))) (fun _ hk=>hk.2) (.slice none 0 0)) (fun _ hk=>⟨hk.1.1,hk.1.2⟩)))⟩;have n1_:Aside0 (Kd.Q (Kd.int .u64) 48 w57 w.heap.size (fun k_=>some k_≠(v276:Value).ownBlock∧some k_≠(.slice (some ad288) t267.length co39:Value).ownBlock) u9 x9_4):=⟨(by rw[hw];exact(by(with_reducible repeat(first|apply Kd.Q_alloc|apply Kd.Q_drewN|apply Kd.Q_drew));exact Kd.Q_mono (Kd.Q_far (p:=⟨gb290,1,none⟩) (Kd.Q_far (p:=⟨gb290,0,none⟩) (Kd.Q_types HO_9.out BK290.out (by decide)) (fun _ hk=>hk.2) (.int .i64 (wrap64 (x12_4+(wrap64 ((wrap64 ((rd t267 x88_4)))+1)))))) (fun _ hk=>hk.2) (.slice none 0 0)) (fun _ hk=>⟨hk.1.1,hk.1.2⟩)))⟩;have n2_:Aside0 (Kd.S k37 37 w57 w.heap.size (fun k_=>k_≠gb290) u11 x11_4):=⟨(by rw[hw];exact(by(with_reducible repeat(first|apply Kd.S_alloc|apply Kd.S_drewN|apply Kd.S_drew));exact Kd.S_mono (Kd.S_far (p:=⟨gb290,1,none⟩) (Kd.S_far (p:=⟨gb290,0,none⟩) (Kd.S_mono HO_11.out (fun k_ hk=>(⟨hk,hk.2⟩:_∧k_≠gb290))) (fun _ hk=>hk.2) (.int .i64 (wrap64 (x12_4+(wrap64 ((wrap64 ((rd t267 x88_4)))+1)))))) (fun _ hk=>hk.2) (.slice none 0 0)) (fun _ hk=>hk.1.2)))⟩;have n3_:Aside0 (Kd.R (Kd.int .u64) 48 w57 w.heap.size (fun k_=>some k_≠(v276:Value).ownBlock∧some k_≠(u9:Value).ownBlock) (.slice (some ad288) t267.length co39) t267):=⟨(by rw[hw];exact(by(with_reducible repeat(first|apply Kd.rA_|apply Kd.rN_|apply Kd.rD_));exact Kd.R_mono (Kd.R_far (p:=⟨gb290,1,none⟩) (Kd.R_far (p:=⟨gb290,0,none⟩) (Kd.R_types HO_86.out BK290.out (by decide)) (fun _ hk=>hk.2) (.int .i64 (wrap64 (x12_4+(wrap64 ((wrap64 ((rd t267 x88_4)))+1)))))) (fun _ hk=>hk.2) (.slice none 0 0)) (fun _ hk=>⟨hk.1.1,hk.1.2⟩)))⟩;have n4_:Aside0 (w57.heap[gb266]? =some (.cells #[.int .i64 a0_0,.int .i64 a0_1,.int .i64 a0_2,.slice A0_3 l0_3.length c0_3,.int .i64 a0_4] 65 (0,0))):=⟨(by rw[hw];exact(by(with_reducible repeat(first|refine blk_drewN ?_ _|refine blk_drew ?_|refine blk_alloc ?_ _));refine blk_far ?_ NB266_290.out _;(with_reducible repeat(first|refine blk_drewN ?_ _|refine blk_drew ?_|refine blk_alloc ?_ _));refine blk_far ?_ NB266_290.out _;(with_reducible repeat(first|refine blk_drewN ?_ _|refine blk_drew ?_|refine blk_alloc ?_ _));exact BK266.out))⟩;have n5_:Aside0 (w57.heap[gb290]? =some (.cells #[.int .i64 (wrap64 (x12_4+(wrap64 ((wrap64 ((rd t267 x88_4)))+1)))),.slice none 0 0] 37 (0,0))):=⟨(by rw[hw];exact(by(with_reducible repeat(first|refine blk_drewN ?_ _|refine blk_drew ?_|refine blk_alloc ?_ _));refine blk_put (cs:= #[.int .i64 (wrap64 (x12_4+(wrap64 ((wrap64 ((rd t267 x88_4)))+1)))),.slice none 0 0]) ?_ 1 _ rfl;(with_reducible repeat(first|refine blk_drewN ?_ _|refine blk_drew ?_|refine blk_alloc ?_ _));refine blk_put (cs:= #[.int .i64 0,.slice none 0 0]) ?_ 0 _ rfl;(with_reducible repeat(first|refine blk_drewN ?_ _|refine blk_drew ?_|refine blk_alloc ?_ _));exact BK290.out))⟩;have n6_:Aside0 (Below w.heap.size w w57):=⟨(by rw[hw];exact bs_)⟩;clear hw;clear HO_7;clear HO_9;clear HO_11;clear HO_86;clear BK266;clear BK290;clear HB;have HO_7:=n0_;have HO_9:=n1_;have HO_11:=n2_;have HO_86:=n3_;have BK266:=n4_;have BK290:=n5_;have HB:=n6_;clear n0_ n1_ n2_ n3_ n4_ n5_ n6_;obtain⟨Ao58,co58,eo58⟩:=Kd.R_slice HO_7.out;subst eo58;have p291:0<=(x88_4:Int):=od_;have q291:x88_4 < (t273.length:Int):=od_;obtain⟨ad291,e291,hx291_0⟩:=Kd.at_int (Kd.R_reads' HO_7.out).2.2 x88_4 p291 q291;cases e291;replace p291:=eq_true p291;replace q291:=eq_true q291;obtain⟨Ao60,co60,eo60,_⟩:=Kd.Q_slice HO_9.out;subst eo60;have q59:((ji51):Int)<=((x9_4.length:Int):Int):=od_;obtain⟨i059,hi059,_,hsz59,_⟩:=info_parts info48;have hroom59:x9_4.length<=co60:=(Kd.Q_reads' HO_9.out).2.1;have hC59:Kd.C (Kd.int .u64) _ Ao60 x9_4.length x9_4:=(Kd.Q_reads' HO_9.out).2.2;have hcut59:=cut_to (P:=Try.prog) 52 48 .u64 Try.underlying52 hi059 Ao60 x9_4.length co60 (ji51) od_ q59 hroom59;have hr59:=Kd.C_take (m:=((ji51):Int).toNat) hC59 (by omega);have hy59:y292.length=((ji51):Int).toNat:=(by rw[Ny292.out,List.length_take];omega);rw[<- Ny292.out]at hr59;rw[<- hy59]at hcut59;have HR295:=Aside0.mk hr59;have HC295:=Aside0.mk (show y292.length<=co60 from by omega);clear hr59 hC59 hroom59 hi059 hsz59;have KY59:=Aside0.mk hy59;clear hy59;have KL59:=Aside0.mk (show((ji51):Int).toNat<=x9_4.length from by omega);replace q59:=eq_true q59))
               go_loopg [16,120] kj42 (fun kq v16 v120 w'=>∃ (x16_6:Int) (x120_6:Int) (x291001_6:List Int) (u291001:Value),v16= .int .i64 x16_6∧v120= .int .i64 x120_6∧Aside0 (post_unpack.l1 kq t273 x9_4 x11_4 (wrap64 (x12_4+(wrap64 ((wrap64 ((rd t267 x88_4)))+1)))) x88_4 x16_6 t267 (t267.length:Int) x88_4 y292 (y292.length:Int) x120_6 a0_0 a0_1 a0_2 l0_3 a0_4 (wrap64 (x12_4+(wrap64 ((wrap64 ((rd t267 x88_4)))+1)))) x291001_6=some (r1,r2))∧Aside0 (kq<=kj42)∧Aside0 (Kd.R (Kd.int .u64) 48 w' w.heap.size (fun k_=>some k_≠((.slice Ao60 x9_4.length co60):Value).ownBlock∧some k_≠((.slice (some ad288) t267.length co39):Value).ownBlock) (.slice (some ad291) t273.length co58) t273)∧Aside0 (Kd.Q (Kd.int .u64) 48 w' w.heap.size (fun k_=>some k_≠((.slice (some ad291) t273.length co58):Value).ownBlock∧some k_≠((.slice (some ad288) t267.length co39):Value).ownBlock) (.slice Ao60 x9_4.length co60) x9_4)∧Aside0 (Kd.S k37 37 w' w.heap.size (fun k_=>some k_≠(u291001:Value).ownBlock∧k_≠gb290) u11 x11_4)∧Aside0 (Kd.R (Kd.int .u64) 48 w' w.heap.size (fun k_=>some k_≠((.slice (some ad291) t273.length co58):Value).ownBlock∧some k_≠((.slice Ao60 x9_4.length co60):Value).ownBlock) (.slice (some ad288) t267.length co39) t267)∧Aside0 (Kd.R (Kd.int .i64) 3 w' w.heap.size (fun _=>True) u291001 x291001_6)∧Aside0 (w'.heap[gb266]? =some (.cells #[.int .i64 a0_0,.int .i64 a0_1,.int .i64 a0_2,(.slice A0_3 l0_3.length c0_3),.int .i64 a0_4] 65 (0,0)))∧Aside0 (w'.heap[gb290]? =some (.cells #[.int .i64 (wrap64 (x12_4+(wrap64 ((wrap64 ((rd t267 x88_4)))+1)))),u291001] 37 (0,0)))∧Aside0 (Kd.C (Kd.int .u64) w' Ao60 y292.length y292)∧Aside0 (Below w.heap.size w w'))
               case atStart=>exact⟨((-1)),(0),(([]:List Int)),(.slice none 0 0),rs_,rs_,H',⟨Nat.le_refl _⟩,⟨Kd.ru_ HO_7.out⟩,⟨by(with_reducible repeat(first|apply Kd.Q_alloc|apply Kd.Q_drewN|apply Kd.Q_drew));exact HO_9.out⟩,⟨by(with_reducible repeat(first|apply Kd.S_alloc|apply Kd.S_drewN|apply Kd.S_drew));exact Kd.S_mono HO_11.out (fun _ hk=>⟨(by simp[Value.ownBlock]),hk⟩)⟩,⟨Kd.ru_ HO_86.out⟩,⟨ni_⟩,⟨bk_ BK266.out⟩,⟨bk_ BK290.out⟩,⟨by repeat(first|(with_reducible exact HR295.out)|(with_reducible refine Kd.cA_ ?_ _)|(with_reducible refine Kd.cN_ ?_ _)|(with_reducible refine Kd.cD_ ?_)|exact HR295.out)⟩,⟨bs_⟩⟩
               case round=>
                clear H'
                clear c49b0
                clear c50b0
                clear c52b0 c52b1
                clear c53b0 c53b1
                clear q59
                clear hcz56_0 hcz56_1
                clear hfz56_0 hfz56_1
                clear hx291_0
                clear p291
                clear q291
                obtain⟨x16_6,x120_6,x291001_6,u291001,rfl,rfl,HA,HK6,HO_7,HO_9,HO_11,HO_86,HO_291001,BK266,BK290,HR295,HB⟩:=hrel
                cases gk with
                |zero=>exact absurd HA.out (by simp[post_unpack.l1])
                |succ k6=>
                 have H:=HA.out
                 clear HA
                 simp only[post_unpack.l1]at H
                 by_cases c61:x120_6 < (y292.length:Int)
                 .rw[if_pos c61]at H
                  have c61b0:=decide_eq_true c61
                  clear c61
                  by_cases c62:0<=x120_6
                  rotate_left
                  .rw[if_neg c62]at H
                   cases H
                  rw[if_pos c62]at H
                  have c62b0:=decide_eq_true c62
                  clear c62
                  by_cases c63:x120_6 < (y292.length:Int)
                  rotate_left
                  .rw[if_neg c63]at H
                   cases H
                  rw[if_pos c63]at H
                  have c63b0:=decide_eq_true c63
                  clear c63
                  by_cases c64:(rd y292 x120_6) > 2147483647
                  .rw[if_pos c64]at H
                   have c64b0:=decide_eq_true c64
                   clear c64
                   simp only[Option.some.injEq,Prod.mk.injEq]at H
                   obtain⟨rfl,rfl⟩:=H
                   have p296:0<=(x120_6:Int):=od_
                   have q296:x120_6 < (y292.length:Int):=od_
                   obtain⟨ad296,e296,hx296_0⟩:=Kd.at_int (by repeat(first|(with_reducible exact HR295.out)|(with_reducible refine Kd.cA_ ?_ _)|(with_reducible refine Kd.cN_ ?_ _)|(with_reducible refine Kd.cD_ ?_)|exact HR295.out)) x120_6 p296 q296
                   cases e296
                   replace p296:=eq_true p296
                   replace q296:=eq_true q296
                   go_wp2
                   go_ret2
                   exact⟨_,by first|rfl|(simp[eWn_,eWs_]<;>rfl)|(simp only[<- hji22,<- hji51];first|rfl|(simp[eWn_,eWs_]<;>rfl))|(simp[*,eWn_,eWs_]<;>rfl),by first|exact Kd.S_nil _ _ _ _ _|exact Kd.N_nil _ _ _ _ _|exact Kd.V_nil _ _ _ _ _|exact Kd.Q_nil _ _ _ _ _|exact Kd.R_nil _ _ _ _ _,bs_⟩
                  .rw[if_neg c64]at H
                   have c64b0:=decide_eq_false c64
                   clear c64
                   by_cases c65:x291001_6.length < 17592186044416
                   rotate_left
                   .rw[if_neg c65]at H
                    cases H
                   rw[if_pos c65]at H
                   have LMc65:=Aside0.mk c65
                   clear c65
                   obtain⟨y297,hy297⟩:∃ y_:List Int,y_=(x291001_6++[wrap64 (x16_6+(wrap64 ((wrap64 (rd y292 x120_6))+1)))]):=⟨_,rfl⟩
                   replace H:(post_unpack.l1 k6 t273 x9_4 x11_4 (wrap64 (x12_4+(wrap64 ((wrap64 ((rd t267 x88_4)))+1)))) x88_4 (wrap64 (x16_6+(wrap64 ((wrap64 (rd y292 x120_6))+1)))) t267 (t267.length:Int) x88_4 y292 (y292.length:Int) (wrap64 (x120_6+1)) a0_0 a0_1 a0_2 l0_3 a0_4 (wrap64 (x12_4+(wrap64 ((wrap64 ((rd t267 x88_4)))+1)))) y297)=some (r1,r2):=hx_ hy297 H
                   have Ny297:=Aside0.mk hy297
                   clear hy297
                   have H':=Aside0.mk H
                   clear H
                   have p296:0<=(x120_6:Int):=od_
                   have q296:x120_6 < (y292.length:Int):=od_
                   obtain⟨ad296,e296,hx296_0⟩:=Kd.at_int (by repeat(first|(with_reducible exact HR295.out)|(with_reducible refine Kd.cA_ ?_ _)|(with_reducible refine Kd.cN_ ?_ _)|(with_reducible refine Kd.cD_ ?_)|exact HR295.out)) x120_6 p296 q296
                   cases e296
                   replace p296:=eq_true p296
                   replace q296:=eq_true q296
                   have hnb66:=NB290_266.out
                   have hnc66:=NB266_290.out
                   have hcz67_0:wr.cell? ⟨gb290,0,none⟩=some (.int .i64 (wrap64 (x12_4+(wrap64 ((wrap64 ((rd t267 x88_4)))+1))))):=(blk_cell BK290.out 0).trans rfl
                   have hcz67_1:wr.cell? ⟨gb290,1,none⟩=some (u291001):=(blk_cell BK290.out 1).trans rfl
                   have hfz67_0:=blk_frozen BK290.out 0
                   have hfz67_1:=blk_frozen BK290.out 1
                   go_wp2_with (first|((with_reducible refine gate_builtin (b:= .append) (xs:= #[.tmp 132,.tmp 134]) rfl ?_);(try(refine gate_guard (by rfl) ?_;dsimp only));at_builtin;refine Kd.R_append (Kd.int .i64) (w0:=w) w.heap.size rfl (.tmp 132) (.tmp 134) 35 3 (.int .i64 0) 8 rfl Try.underlying35 info3 rfl (by decide) (by omega) u291001 x291001_6 (wrap64 (x16_6+(wrap64 ((wrap64 (rd y292 x120_6))+1)))) [.int .i64 (wrap64 (x16_6+(wrap64 ((wrap64 (rd y292 x120_6))+1))))] (fun _=>True) (fun _=>False) rfl rfl ?aP (fun _ hk=>hk.elim) ?aF ?aO ?aB ?aS ?aL ?_;(case aP=>exact rfl);(case aB=>exact bs_);(case aF=>exact(fun _ _=>trivial));(case aO=>exact(Kd.ru_ HO_291001.out));(case aS=>exact(pbS_ bs_));(case aL=>have:=LMc65.out;omega);intro v298 w68 ho hb hg hat;rw[<- Ny297.out]at ho;have n0_:=Aside0.mk (Kd.R_over' (Kd.ru_ HO_7.out) (Kd.R_typed (Kd.ru_ HO_291001.out)) (by decide) hg);have n1_:=Aside0.mk (Kd.Q_over' (by(with_reducible repeat(first|apply Kd.Q_alloc|apply Kd.Q_drewN|apply Kd.Q_drew));exact HO_9.out) (Kd.R_typed (Kd.ru_ HO_291001.out)) (by decide) hg);have n2_:=Aside0.mk (Kd.S_after (ok:=(fun k_=>k_≠gb290)) (by(with_reducible repeat(first|apply Kd.S_alloc|apply Kd.S_drewN|apply Kd.S_drew));exact Kd.S_mono HO_11.out (fun _ hk=>⟨hk.2,hk.1⟩)) hg hat);have n3_:=Aside0.mk (Kd.R_over' (Kd.ru_ HO_86.out) (Kd.R_typed (Kd.ru_ HO_291001.out)) (by decide) hg);have n4_:=Aside0.mk (blk_grown (g:=gb266) (o:= .cells #[.int .i64 a0_0,.int .i64 a0_1,.int .i64 a0_2,.slice A0_3 l0_3.length c0_3,.int .i64 a0_4] 65 (0,0)) (bk_ BK266.out) hg (Kd.R_ne HO_291001.out BK266.out (by decide)));have n5_:=Aside0.mk (blk_grown (g:=gb290) (o:= .cells #[.int .i64 (wrap64 (x12_4+(wrap64 ((wrap64 ((rd t267 x88_4)))+1)))),u291001] 37 (0,0)) (bk_ BK290.out) hg (Kd.R_ne HO_291001.out BK290.out (by decide)));have n6_:=Aside0.mk (hb);have n7_:=Aside0.mk ((show Kd.C (Kd.int .u64) w68 (some ad296) y292.length y292 from by rw[Ny292.out];exact Kd.C_take (m:=((ji51):Int).toNat) ((Kd.Q_reads' (Kd.Q_over' (by(with_reducible repeat(first|apply Kd.Q_alloc|apply Kd.Q_drewN|apply Kd.Q_drew));exact HO_9.out) (Kd.R_typed (Kd.ru_ HO_291001.out)) (by decide) hg)).2.2) KL59.out));have n8_:=Aside0.mk (ho);clear HO_7;clear HO_9;clear HO_11;clear HO_86;clear BK266;clear BK290;clear HB;clear HR295;clear HO_291001;have HO_7:=n0_;have HO_9:=n1_;have HO_11:=n2_;have HO_86:=n3_;have BK266:=n4_;have BK290:=n5_;have HB:=n6_;have HR295:=n7_;have HO299:=n8_;clear n0_ n1_ n2_ n3_ n4_ n5_ n6_ n7_ n8_;clear ho hb hg hat;obtain⟨Ao69,co69,eo69⟩:=Kd.R_slice HO299.out;subst eo69;have hcz70_0:w68.cell? ⟨gb290,0,none⟩=some (.int .i64 (wrap64 (x12_4+(wrap64 ((wrap64 ((rd t267 x88_4)))+1))))):=(blk_cell BK290.out 0).trans rfl;have hcz70_1:w68.cell? ⟨gb290,1,none⟩=some (u291001):=(blk_cell BK290.out 1).trans rfl;have hfz70_0:=blk_frozen BK290.out 0;have hfz70_1:=blk_frozen BK290.out 1))
                   go_roundg k6
                   case measure=>have:=HJ2.out;have:=HJ13.out;have:=HJ25.out;have:=HK4.out;have:=HJ42.out;have:=HK6.out;omega
                   case rel=>exact⟨(wrap64 (x16_6+(wrap64 ((wrap64 (rd y292 x120_6))+1)))),(wrap64 (x120_6+1)),(y297),(.slice Ao69 y297.length co69),rs_,rs_,H',⟨by have:=HJ2.out;have:=HJ13.out;have:=HJ25.out;have:=HK4.out;have:=HJ42.out;have:=HK6.out;omega⟩,⟨by(with_reducible repeat(first|apply Kd.rA_|apply Kd.rN_|apply Kd.rD_));exact Kd.R_mono (Kd.R_far (p:=⟨gb290,1,none⟩) (Kd.R_types HO_7.out BK290.out (by decide)) (fun _ hk=>hk.2) (.slice Ao69 y297.length co69)) (fun _ hk=>⟨hk.1.1,hk.1.2⟩)⟩,⟨by(with_reducible repeat(first|apply Kd.Q_alloc|apply Kd.Q_drewN|apply Kd.Q_drew));exact Kd.Q_mono (Kd.Q_far (p:=⟨gb290,1,none⟩) (Kd.Q_types HO_9.out BK290.out (by decide)) (fun _ hk=>hk.2) (.slice Ao69 y297.length co69)) (fun _ hk=>⟨hk.1.1,hk.1.2⟩)⟩,⟨by(with_reducible repeat(first|apply Kd.S_alloc|apply Kd.S_drewN|apply Kd.S_drew));exact Kd.S_mono (Kd.S_far (p:=⟨gb290,1,none⟩) (Kd.S_mono HO_11.out (fun k_ hk=>(⟨hk,hk.1⟩:_∧k_≠gb290))) (fun _ hk=>hk.2) (.slice Ao69 y297.length co69)) (fun _ hk=>⟨hk.1.2,hk.1.1⟩)⟩,⟨by(with_reducible repeat(first|apply Kd.rA_|apply Kd.rN_|apply Kd.rD_));exact Kd.R_mono (Kd.R_far (p:=⟨gb290,1,none⟩) (Kd.R_types HO_86.out BK290.out (by decide)) (fun _ hk=>hk.2) (.slice Ao69 y297.length co69)) (fun _ hk=>⟨hk.1.1,hk.1.2⟩)⟩,⟨by(with_reducible repeat(first|apply Kd.rA_|apply Kd.rN_|apply Kd.rD_));exact Kd.R_mono (Kd.R_far (p:=⟨gb290,1,none⟩) (Kd.R_types HO299.out BK290.out (by decide)) (fun _ hk=>hk.2) (.slice Ao69 y297.length co69)) (fun _ hk=>trivial)⟩,⟨by(with_reducible repeat(first|refine blk_drewN ?_ _|refine blk_drew ?_|refine blk_alloc ?_ _));refine blk_far ?_ NB266_290.out _;(with_reducible repeat(first|refine blk_drewN ?_ _|refine blk_drew ?_|refine blk_alloc ?_ _));exact BK266.out⟩,⟨by(with_reducible repeat(first|refine blk_drewN ?_ _|refine blk_drew ?_|refine blk_alloc ?_ _));refine blk_put (cs:= #[.int .i64 (wrap64 (x12_4+(wrap64 ((wrap64 ((rd t267 x88_4)))+1)))),u291001]) ?_ 1 _ rfl;(with_reducible repeat(first|refine blk_drewN ?_ _|refine blk_drew ?_|refine blk_alloc ?_ _));exact BK290.out⟩,⟨(by rw[Ny292.out];exact Kd.C_take (m:=((ji51):Int).toNat) ((Kd.Q_reads' (by(with_reducible repeat(first|apply Kd.Q_alloc|apply Kd.Q_drewN|apply Kd.Q_drew));exact(Kd.Q_mono (Kd.Q_far (p:=⟨gb290,1,none⟩) (Kd.Q_types HO_9.out BK290.out (by decide)) (fun _ hk=>hk.2) (.slice Ao69 y297.length co69)) (fun _ h_=>h_.1)))).2.2) KL59.out)⟩,⟨bs_⟩⟩
                 .rw[if_neg c61]at H
                  have c61b0:=decide_eq_false c61
                  clear c61
                  by_cases c71:0<=x88_4
                  rotate_left
                  .rw[if_neg c71]at H
                   cases H
                  rw[if_pos c71]at H
                  have c71b0:=decide_eq_true c71
                  clear c71
                  by_cases c72:x88_4 < (t273.length:Int)
                  rotate_left
                  .rw[if_neg c72]at H
                   cases H
                  rw[if_pos c72]at H
                  have c72b0:=decide_eq_true c72
                  clear c72
                  obtain⟨ji73,hji73⟩:∃ j_:Int,(IntKind.u64.wrap ((rd t273 x88_4)+1))=j_:=⟨_,rfl⟩
                  clear hji51
                  replace H:(if 0<=(ji73)then(if(ji73)<=(x9_4.length:Int)then(if x11_4.length < 4398046511104 then(post_unpack.l0 k6 t273 (x9_4.drop ((ji73):Int).toNat) (x11_4++[(⟨(wrap64 (x12_4+(wrap64 ((wrap64 ((rd t267 x88_4)))+1)))),x291001_6⟩:S37)]) (wrap64 (x12_4+(wrap64 ((wrap64 ((rd t267 x88_4)))+1)))) t267 (t267.length:Int) (wrap64 (x88_4+1)) a0_0 a0_1 a0_2 l0_3 a0_4)else(none))else(none))else(none))=some (r1,r2):=hj_ hji73 H
                  by_cases c74:0<=(ji73)
                  rotate_left
                  .rw[if_neg c74]at H
                   cases H
                  rw[if_pos c74]at H
                  have c74b0:=eq_true c74
                  have c74b1:=decide_eq_true c74
                  clear c74
                  by_cases c75:(ji73)<=(x9_4.length:Int)
                  rotate_left
                  .rw[if_neg c75]at H
                   cases H
                  rw[if_pos c75]at H
                  have c75b0:=eq_true c75
                  have c75b1:=decide_eq_true c75
                  clear c75
                  obtain⟨y301,hy301⟩:∃ y_:List Int,y_=(x9_4.drop ((ji73):Int).toNat):=⟨_,rfl⟩
                  replace H:(if x11_4.length < 4398046511104 then(post_unpack.l0 k6 t273 y301 (x11_4++[(⟨(wrap64 (x12_4+(wrap64 ((wrap64 ((rd t267 x88_4)))+1)))),x291001_6⟩:S37)]) (wrap64 (x12_4+(wrap64 ((wrap64 ((rd t267 x88_4)))+1)))) t267 (t267.length:Int) (wrap64 (x88_4+1)) a0_0 a0_1 a0_2 l0_3 a0_4)else(none))=some (r1,r2):=hx_ hy301 H
                  have Ny301:=Aside0.mk hy301
                  clear hy301
                  by_cases c76:x11_4.length < 4398046511104
                  rotate_left
                  .rw[if_neg c76]at H
                   cases H
                  rw[if_pos c76]at H
                  have LMc76:=Aside0.mk c76
                  clear c76
                  obtain⟨y304,hy304⟩:∃ y_:List (S37),y_=(x11_4++[(⟨(wrap64 (x12_4+(wrap64 ((wrap64 ((rd t267 x88_4)))+1)))),x291001_6⟩:S37)]):=⟨_,rfl⟩
                  replace H:(post_unpack.l0 k6 t273 y301 y304 (wrap64 (x12_4+(wrap64 ((wrap64 ((rd t267 x88_4)))+1)))) t267 (t267.length:Int) (wrap64 (x88_4+1)) a0_0 a0_1 a0_2 l0_3 a0_4)=some (r1,r2):=hx_ hy304 H
                  have Ny304:=Aside0.mk hy304
                  clear hy304
                  have H':=Aside0.mk H
                  clear H
                  have p300:0<=(x88_4:Int):=od_
                  have q300:x88_4 < (t273.length:Int):=od_
                  obtain⟨ad300,e300,hx300_0⟩:=Kd.at_int (Kd.R_reads' HO_7.out).2.2 x88_4 p300 q300
                  obtain rfl:ad291=ad300:=(by injection e300)
                  replace p300:=eq_true p300
                  replace q300:=eq_true q300
                  have q77:((ji73):Int)<=((x9_4.length:Int):Int):=od_
                  obtain⟨i077,hi077,_,hsz77,_⟩:=info_parts info48
                  have hcut77:=cut_from (P:=Try.prog) 52 48 .u64 Try.underlying52 hi077 1 hsz77 Ao60 x9_4.length co60 (ji73) od_ q77
                  have hr77:=Kd.Q_drop (k:=((ji73):Int).toNat) HO_9.out (by omega)
                  obtain⟨A77,hA77⟩:∃ A1,A1=(if co60=((ji73):Int).toNat then Ao60 else(Ao60:Option Addr).map (·.add (((ji73):Int).toNat*1))):=⟨_,rfl⟩
                  obtain⟨c77,hc77⟩:∃ c1,c1=co60 - ((ji73):Int).toNat:=⟨_,rfl⟩
                  have hy77:y301.length=x9_4.length - ((ji73):Int).toNat:=(by rw[Ny301.out,List.length_drop])
                  rw[<- Ny301.out]at hr77
                  rw[<- hy77,<- hA77,<- hc77]at hcut77
                  replace hr77:Kd.Q (Kd.int .u64) 48 wr w.heap.size (fun k_=>some k_≠(.slice (some ad291) t273.length co58:Value).ownBlock∧some k_≠(.slice (some ad288) t267.length co39:Value).ownBlock) (.slice A77 y301.length c77) y301:=(by rw[hA77,hc77,hy77];exact hr77)
                  have HE77:Aside0 ((Value.slice A77 y301.length c77).ownBlock=(.slice Ao60 x9_4.length co60:Value).ownBlock):=⟨by rw[hA77];split<;>(cases(Ao60:Option Addr)<;>first|rfl|(simp only[Option.map,Value.ownBlock];exact congrArg some (add_block _ _)))⟩
                  clear hy77 hi077 hsz77 HO_9 hA77 hc77
                  have HO303:=Aside0.mk hr77
                  clear hr77
                  replace q77:=eq_true q77
                  have n_:=Aside0.mk (Kd.R_mono (ok':=fun k_=>(some k_≠(.slice A77 y301.length c77:Value).ownBlock∧some k_≠(.slice (some ad288) t267.length co39:Value).ownBlock)) HO_7.out (fun k_ hk=>⟨(by rw[HE77.out];exact hk.1),hk.2⟩))
                  clear HO_7
                  have HO_7:=n_
                  clear n_
                  have n_:=Aside0.mk (Kd.R_mono (ok':=fun k_=>(some k_≠(.slice (some ad291) t273.length co58:Value).ownBlock∧some k_≠(.slice A77 y301.length c77:Value).ownBlock)) HO_86.out (fun k_ hk=>⟨hk.1,(by rw[HE77.out];exact hk.2)⟩))
                  clear HO_86
                  have HO_86:=n_
                  clear n_
                  have hnb78:=NB290_266.out
                  have hnc78:=NB266_290.out
                  have hcz79_0:wr.cell? ⟨gb290,0,none⟩=some (.int .i64 (wrap64 (x12_4+(wrap64 ((wrap64 ((rd t267 x88_4)))+1))))):=(blk_cell BK290.out 0).trans rfl
                  have hcz79_1:wr.cell? ⟨gb290,1,none⟩=some (u291001):=(blk_cell BK290.out 1).trans rfl
                  have hfz79_0:=blk_frozen BK290.out 0
                  have hfz79_1:=blk_frozen BK290.out 1
                  obtain⟨Ao81,co81,eo81⟩:=Kd.R_slice HO_291001.out
                  subst eo81
                  go_wp2_with (first|((with_reducible refine gate_builtin (b:= .append) (xs:= #[.tmp 145,.tmp 147]) rfl ?_);(try(refine gate_guard (by rfl) ?_;dsimp only));at_builtin;refine Kd.S_append k37 (w0:=w) w.heap.size rfl (.tmp 145) (.tmp 147) 23 37 (.agg #[(.int .i64 0),(.slice none 0 0)]) 32 rfl Try.underlying23 info37 rfl (by decide) (by omega) u11 x11_4 (⟨(wrap64 (x12_4+(wrap64 ((wrap64 ((rd t267 x88_4)))+1)))),x291001_6⟩:S37) [.int .i64 (wrap64 (x12_4+(wrap64 ((wrap64 ((rd t267 x88_4)))+1)))),.slice Ao81 x291001_6.length co81] (fun k_=>k_≠gb290) (fun k_=>some k_=(.slice Ao81 x291001_6.length co81:Value).ownBlock) rfl rfl ?aP (fun k_ hk_=>((Kd.R_mono (ok':=fun k_=>((fun k_=>k_≠gb290)) k_∧some k_≠(u11:Value).ownBlock) (Kd.R_types (Kd.R_apart' (HO_291001.out) (Kd.S_typed HO_11.out) (by decide)) BK290.out (by decide)) (fun k_ hk=>⟨hk.2,hk.1.2⟩))).1 k_ hk_.symm) ?aF ?aO ?aB ?aS ?aL ?_;(case aP=>exact k37_mkM _ _ _ (⟨(wrap64 (x12_4+(wrap64 ((wrap64 ((rd t267 x88_4)))+1)))),x291001_6⟩:S37) (Kd.R_mono (Kd.R_tight rfl (Kd.R_mono (ok':=fun k_=>((fun k_=>k_≠gb290)) k_∧some k_≠(u11:Value).ownBlock) (Kd.R_types (Kd.R_apart' (HO_291001.out) (Kd.S_typed HO_11.out) (by decide)) BK290.out (by decide)) (fun k_ hk=>⟨hk.2,hk.1.2⟩))) (fun _ h_=>h_)));(case aB=>exact bs_);(case aF=>exact(fun k_ hk=>Kd.freshB (g:=gb290) (o:= .cells #[.int .i64 (wrap64 (x12_4+(wrap64 ((wrap64 ((rd t267 x88_4)))+1)))),.slice Ao81 x291001_6.length co81] 37 (0,0)) (bk_ BK290.out) k_ hk));(case aO=>exact(by(with_reducible repeat(first|apply Kd.S_alloc|apply Kd.S_drewN|apply Kd.S_drew));exact Kd.S_mono HO_11.out (fun k_ hk=>⟨hk.2,fun e_=>hk.1 e_⟩)));(case aS=>exact(pbS_ bs_));(case aL=>have:=LMc76.out;omega);intro v305 w80 ho hb hg hat;rw[<- Ny304.out]at ho;have n0_:=Aside0.mk (Kd.R_over' (Kd.ru_ HO_7.out) (Kd.S_typed (Kd.su_ HO_11.out)) (by decide) hg);have n1_:=Aside0.mk (Kd.Q_over' (by(with_reducible repeat(first|apply Kd.Q_alloc|apply Kd.Q_drewN|apply Kd.Q_drew));exact HO303.out) (Kd.S_typed (Kd.su_ HO_11.out)) (by decide) hg);have n2_:=Aside0.mk (Kd.R_over' (Kd.ru_ HO_86.out) (Kd.S_typed (Kd.su_ HO_11.out)) (by decide) hg);have n3_:=Aside0.mk (blk_grown (g:=gb266) (o:= .cells #[.int .i64 a0_0,.int .i64 a0_1,.int .i64 a0_2,.slice A0_3 l0_3.length c0_3,.int .i64 a0_4] 65 (0,0)) (bk_ BK266.out) hg (Kd.S_ne HO_11.out BK266.out (by decide)));have n4_:=Aside0.mk (blk_grown (g:=gb290) (o:= .cells #[.int .i64 (wrap64 (x12_4+(wrap64 ((wrap64 ((rd t267 x88_4)))+1)))),.slice Ao81 x291001_6.length co81] 37 (0,0)) (bk_ BK290.out) hg (Kd.S_away HO_11.out (fun _ hk=>hk.2)));have n5_:=Aside0.mk (hb);have n6_:=Aside0.mk (ho);clear HO_7;clear HO303;clear HO_86;clear BK266;clear BK290;clear HB;clear HO_11;clear HO_291001;have HO_7:=n0_;have HO303:=n1_;have HO_86:=n2_;have BK266:=n3_;have BK290:=n4_;have HB:=n5_;have HO306:=n6_;clear n0_ n1_ n2_ n3_ n4_ n5_ n6_;clear ho hb hg hat))
                  subst hji73
                  go_roundg k6
                  case measure=>have:=HJ2.out;have:=HJ13.out;have:=HJ25.out;have:=HK4.out;have:=HJ42.out;have:=HK6.out;omega
                  case rel=>exact⟨(y301),(y304),((wrap64 (x12_4+(wrap64 ((wrap64 ((rd t267 x88_4)))+1))))),(wrap64 (x88_4+1)),rs_,rs_,H',⟨by have:=HJ2.out;have:=HJ13.out;have:=HJ25.out;have:=HK4.out;have:=HJ42.out;have:=HK6.out;omega⟩,⟨Kd.ru_ HO_7.out⟩,⟨by(with_reducible repeat(first|apply Kd.Q_alloc|apply Kd.Q_drewN|apply Kd.Q_drew));exact HO303.out⟩,⟨by(with_reducible repeat(first|apply Kd.S_alloc|apply Kd.S_drewN|apply Kd.S_drew));exact Kd.S_mono HO306.out (fun _ hk=>trivial)⟩,⟨Kd.ru_ HO_86.out⟩,⟨bk_ BK266.out⟩,⟨bs_⟩⟩
def num_TakeRow.f (k:Nat) (l0:List Int) (a1:Int):Option (List Int×Int×Int):=if a1 < 0 then(some (([]:List Int),0,1))else((num_Take.f k l0).bind fun bt307=>(if bt307.2.2=0 then(if bt307.1 > (IntKind.u64.wrap (a1))then(some (([]:List Int),0,5))else(if(wrap64 (bt307.1)) > (wrap64 ((l0.length:Int) - bt307.2.1))then(some (([]:List Int),0,3))else(if 0<=bt307.2.1 then(if bt307.2.1<=(wrap64 (bt307.2.1+(wrap64 (bt307.1))))then(if(wrap64 (bt307.2.1+(wrap64 (bt307.1))))<=(l0.length:Int)then((slices_Clone_byte_byte.f ((l0.take ((wrap64 (bt307.2.1+(wrap64 (bt307.1)))):Int).toNat).drop (bt307.2.1:Int).toNat)).bind fun t311=>(some (t311,wrap64 (bt307.2.1+(wrap64 (bt307.1))),0)))else(none))else(none))else(none))))else(some (([]:List Int),0,bt307.2.2))))
theorem num_TakeRow.mono:∀ a0 a1 k,LeO (num_TakeRow.f k a0 a1) (num_TakeRow.f (k+1) a0 a1):=by
 intro a0 a1 k
 unfold num_TakeRow.f
 repeat' first
   |(with_reducible exact num_Take.mono _ _)
   |(with_reducible exact LeO.refl _)
   |(with_reducible exact LeO.none _)
   |(with_reducible refine LeO.ite ?_ ?_)
   |(with_reducible refine LeO.bind ?_ (fun _=>?_))
set_option maxHeartbeats 8000000 in
set_option maxRecDepth 100000 in
theorem num_TakeRow.calls (k:Nat) (A0:Option Addr) (c0:Nat) (l0:List Int) (a1:Int) (r1:List Int) (r2:Int) (r3:Int) (w:World) (hr0:Kd.C (Kd.int .u8) w A0 l0.length l0) (hc0:l0.length<=c0) (h:num_TakeRow.f k l0 a1=some (r1,r2,r3)):
  Calls Try.prog 57 #[.slice A0 l0.length c0,.int .i64 a1] w fun e w'=>∃ v0_:Value,e= .returned (.tuple #[v0_,.int .i64 r2,.int .i64 r3])∧Kd.R (Kd.int .u8) 5 w' w.heap.size (fun _=>True) v0_ r1∧Below w.heap.size w w':=by
 have HR0:=Aside0.mk hr0
 have HC0:=Aside0.mk hc0
 clear hr0 hc0
 have HB:=Aside0.mk (Below.refl w.heap.size w)
 have H:(if a1 < 0 then(some (([]:List Int),0,1))else((num_Take.f k l0).bind fun bt307=>(if bt307.2.2=0 then(if bt307.1 > (IntKind.u64.wrap (a1))then(some (([]:List Int),0,5))else(if(wrap64 (bt307.1)) > (wrap64 ((l0.length:Int) - bt307.2.1))then(some (([]:List Int),0,3))else(if 0<=bt307.2.1 then(if bt307.2.1<=(wrap64 (bt307.2.1+(wrap64 (bt307.1))))then(if(wrap64 (bt307.2.1+(wrap64 (bt307.1))))<=(l0.length:Int)then((slices_Clone_byte_byte.f ((l0.take ((wrap64 (bt307.2.1+(wrap64 (bt307.1)))):Int).toNat).drop (bt307.2.1:Int).toNat)).bind fun t311=>(some (t311,wrap64 (bt307.2.1+(wrap64 (bt307.1))),0)))else(none))else(none))else(none))))else(some (([]:List Int),0,bt307.2.2)))))=some (r1,r2,r3):=h
 clear h
 by_cases c3:a1 < 0
 .rw[if_pos c3]at H
  have c3b0:=decide_eq_true c3
  clear c3
  simp only[Option.some.injEq,Prod.mk.injEq]at H
  obtain⟨rfl,rfl,rfl⟩:=H
  go_enter Try.func57,Try.ntmps57
  go_wp2
  go_ret3
  exact⟨_,rf_,ni_,bw_⟩
 .rw[if_neg c3]at H
  have c3b0:=decide_eq_false c3
  clear c3
  replace H:=Option.bind_eq_some_iff.mp H
  obtain⟨⟨t307,t308,t309⟩,A40,H⟩:=H
  try dsimp only at H
  have A4:=Aside0.mk A40
  clear A40
  by_cases c5:t309=0
  rotate_left
  .rw[if_neg c5]at H
   have c5b0:=beq_eq_false_iff_ne.mpr c5
   have c5b1:=bne_iff_ne.mpr c5
   simp only[Option.some.injEq,Prod.mk.injEq]at H
   obtain⟨rfl,rfl,rfl⟩:=H
   go_enter Try.func57,Try.ntmps57
   go_wp2_with (first|((with_reducible refine gaC_ (f:=55) rfl ?_);refine goesL_ (some 14) rfl rfl Try.func55 (by kernel_rfl) rfl #[.slice A0 l0.length c0] rfl am_ ?_;(with_reducible refine(num_Take.calls k _ _ l0 t307 t308 t309 _ ?side1 ?side2 A4.out).mono ?_);(case side1=>exact Kd.cu_ HR0.out);(case side2=>exact HC0.out);rintro e w' ⟨rfl,⟨nd,rfl⟩⟩;refine⟨_,rfl,?_⟩))
   go_ret3
   exact⟨_,rf_,ni_,bw_⟩
  rw[if_pos c5]at H
  have c5b0:=beq_iff_eq.mpr c5
  have c5b1:=bne_eq_false_iff_eq.mpr c5
  clear c5
  by_cases c6:t307 > (IntKind.u64.wrap (a1))
  .rw[if_pos c6]at H
   have c6b0:=decide_eq_true c6
   clear c6
   simp only[Option.some.injEq,Prod.mk.injEq]at H
   obtain⟨rfl,rfl,rfl⟩:=H
   go_enter Try.func57,Try.ntmps57
   go_wp2_with (first|((with_reducible refine gaC_ (f:=55) rfl ?_);refine goesL_ (some 14) rfl rfl Try.func55 (by kernel_rfl) rfl #[.slice A0 l0.length c0] rfl am_ ?_;(with_reducible refine(num_Take.calls k _ _ l0 t307 t308 t309 _ ?side1 ?side2 A4.out).mono ?_);(case side1=>exact Kd.cu_ HR0.out);(case side2=>exact HC0.out);rintro e w' ⟨rfl,⟨nd,rfl⟩⟩;refine⟨_,rfl,?_⟩))
   go_ret3
   exact⟨_,rf_,ni_,bw_⟩
  .rw[if_neg c6]at H
   have c6b0:=decide_eq_false c6
   clear c6
   by_cases c7:(wrap64 (t307)) > (wrap64 ((l0.length:Int) - t308))
   .rw[if_pos c7]at H
    have c7b0:=decide_eq_true c7
    clear c7
    simp only[Option.some.injEq,Prod.mk.injEq]at H
    obtain⟨rfl,rfl,rfl⟩:=H
    go_enter Try.func57,Try.ntmps57
    go_wp2_with (first|((with_reducible refine gaC_ (f:=55) rfl ?_);refine goesL_ (some 14) rfl rfl Try.func55 (by kernel_rfl) rfl #[.slice A0 l0.length c0] rfl am_ ?_;(with_reducible refine(num_Take.calls k _ _ l0 t307 t308 t309 _ ?side1 ?side2 A4.out).mono ?_);(case side1=>exact Kd.cu_ HR0.out);(case side2=>exact HC0.out);rintro e w' ⟨rfl,⟨nd,rfl⟩⟩;refine⟨_,rfl,?_⟩))
    go_ret3
    exact⟨_,rf_,ni_,bw_⟩
   .rw[if_neg c7]at H
    have c7b0:=decide_eq_false c7
    clear c7
    by_cases c8:0<=t308
    rotate_left
    .rw[if_neg c8]at H
     cases H
    rw[if_pos c8]at H
    have c8b0:=eq_true c8
    have c8b1:=decide_eq_true c8
    clear c8
    by_cases c9:t308<=(wrap64 (t308+(wrap64 (t307))))
    rotate_left
    .rw[if_neg c9]at H
     cases H
    rw[if_pos c9]at H
    have c9b0:=eq_true c9
    have c9b1:=decide_eq_true c9
    by_cases c10:(wrap64 (t308+(wrap64 (t307))))<=(l0.length:Int)
    rotate_left
    .rw[if_neg c10]at H
     cases H
    rw[if_pos c10]at H
    have c10b0:=eq_true c10
    have c10b1:=decide_eq_true c10
    replace H:=Option.bind_eq_some_iff.mp H
    obtain⟨t311,A110,H⟩:=H
    try dsimp only at H
    have A11:=Aside0.mk A110
    clear A110
    simp only[Option.some.injEq,Prod.mk.injEq]at H
    obtain⟨rfl,rfl,rfl⟩:=H
    go_enter Try.func57,Try.ntmps57
    go_wp2_with (first|((with_reducible refine gaC_ (f:=55) rfl ?_);refine goesL_ (some 14) rfl rfl Try.func55 (by kernel_rfl) rfl #[.slice A0 l0.length c0] rfl am_ ?_;(with_reducible refine(num_Take.calls k _ _ l0 t307 t308 t309 _ ?side1 ?side2 A4.out).mono ?_);(case side1=>exact Kd.cu_ HR0.out);(case side2=>exact HC0.out);rintro e w' ⟨rfl,⟨nd,rfl⟩⟩;refine⟨_,rfl,?_⟩;obtain⟨i012,hi012,_,hsz12,_⟩:=info_parts info5;obtain⟨A12,hcut12,hA12,hC12⟩:=print_mid_of (P:=Try.prog) (Value.int .u8) 0 22 5 .i64 .i64 Try.underlying22 hi012 hsz12 A0 c0 l0 t308 (wrap64 (t308+(wrap64 (t307)))) od_ (by first|omega|exact od_) od_ HC0.out;have HR310:=Aside0.mk (Kd.C_of_reads (h1:=fun _=>rfl) (hA12 _ (Kd.reads_of_C HR0.out)));have HC310:=Aside0.mk hC12;clear hA12 hC12 hi012 hsz12)|((with_reducible refine gaC_ (f:=43) rfl ?_);refine goesL_ (some 43) rfl rfl Try.func43 (by kernel_rfl) rfl #[.slice A12 ((l0.take ((wrap64 (t308+(wrap64 (t307)))):Int).toNat).drop (t308:Int).toNat).length (c0 - t308.toNat)] rfl (by(try simp only[List.map_toArray,List.map_cons,List.map_nil]);first|done|(rw[show((l0.take ((wrap64 (t308+(wrap64 (t307)))):Int).toNat).drop (t308:Int).toNat).length=((wrap64 (t308+(wrap64 (t307)))).toNat - t308.toNat) from(by rw[List.length_drop,List.length_take];have h_:((wrap64 (t308+(wrap64 (t307)))):Int)<=(l0.length:Int):=od_;omega)]<;>rfl)|rfl|(simp only[List.length_drop,List.length_take];rfl)) ?_;(with_reducible refine(slices_Clone_byte_byte.calls _ _ ((l0.take ((wrap64 (t308+(wrap64 (t307)))):Int).toNat).drop (t308:Int).toNat) t311 _ ?side1 ?side2 A11.out).mono ?_);(case side1=>exact Kd.cu_ HR310.out);(case side2=>exact HC310.out);rintro e w13 ⟨v312,rfl,ho0,hb⟩;refine⟨_,rfl,?_⟩;have HO313:=Aside0.mk (Kd.R_lower ho0 (pbS_ bw_));replace HB:=Aside0.mk (below_step bw_ hb)))
    go_ret3
    exact⟨_,rf_,by(with_reducible repeat(first|apply Kd.rA_|apply Kd.rN_|apply Kd.rD_));exact HO313.out,bw_⟩
end Go.Proofs.Ytooeclfeallkkaa.P
end
section
namespace Go.Proofs.Ytooeclfeallkkaa.P
open Go.RowKit Go.Proofs.YtooeclfeallkkaaW.PrintWords Go.Proofs.YtooeclfeallkkaaW.PrintLast Go.Proofs.YtooeclfeallkkaaW.PrintMore
attribute [local go_sem] max2_int min2_int max_two min_two max_three min_three max_four min_four
set_option linter.unusedVariables false
set_option linter.unusedSimpArgs false
section
attribute [local go_sem] Oper.semAt_some
set_option maxHeartbeats 1000000 in
theorem qblocks_in (k:Nat) (A:Option Addr) (c:Nat) (l:List Int) (r1 r2 r3:Int) (w:World) (hr:Kd.C (Kd.int .u8) w A l.length l) (hc:l.length<=c) (h:num_Take.f k l=some (r1,r2,r3)):
  CallsIn Fence.wide 8 Try.prog 34 #[.slice A l.length c] w fun e w'=>e= .returned (.tuple #[.int .i64 r2,.func (.func 56) #[] #[.pointer (some ⟨w.heap.size+3,0,none⟩),.pointer (some ⟨w.heap.size+1,0,none⟩),.pointer (some ⟨w.heap.size+2,0,none⟩),.pointer (some ⟨w.heap.size,0,none⟩)]])
   ∧w'.heap.size=w.heap.size+4∧Below w.heap.size w w'∧Boxed w' w.heap.size 22 (.slice A l.length c)∧Boxed w' (w.heap.size+1) 48 (.int .u64 r1)∧Boxed w' (w.heap.size+2) 3 (.int .i64 r2)∧Boxed w' (w.heap.size+3) 28 (.int .i64 r3):=by
 have HR:=Aside0.mk hr
 have HC:=Aside0.mk hc
 have HH:=Aside0.mk h
 clear hr hc h
 refine callsIn_of_wp Try.func34 rfl trivial ?_ rfl
 simp only[Try.ntmps34,List.size_toArray,List.length_cons,List.length_nil,Nat.reduceAdd,Nat.reduceSub,Array.replicate_succ,Array.replicate_zero,List.push_toArray,List.append_toArray,List.nil_append,List.cons_append]
 gi_wp2_with (first|(refine⟨trivial,?_⟩;gi_at_call 55;(with_reducible refine(callsIn_wide.2 (num_Take.calls k A c l r1 r2 r3 _ ?side1 HC.out HH.out)).mono ?_);(case side1=>exact Kd.cA_ HR.out _);rintro e w1 ⟨rfl,⟨nd,rfl⟩⟩)|fail)
 refine bodyPost_ret (results_tmp2 rfl _ _ _) rfl ?_
 obtain⟨w1,hw1⟩:∃ w1,(w.alloc (Obj.cells #[Value.slice A l.length c] 22)).drewN nd=w1:=⟨_,rfl⟩
 rw[hw1]
 have s1:w1.heap.size=w.heap.size+1:=by rw[<- hw1];simp
 have b0:Boxed w1 w.heap.size 22 (.slice A l.length c):=by rw[<- hw1];exact Boxed.new w _ _
 have h0:Below w.heap.size w w1:=by rw[<- hw1];exact pbN_ (pbA_ (Below.refl _ _) _) _
 have b1:=Boxed.new w1 48 (.int .u64 r1)
 have b2:=Boxed.new (w1.alloc (Obj.cells #[Value.int IntKind.u64 r1] 48)) 3 (.int .i64 r2)
 have b3:=Boxed.new ((w1.alloc (Obj.cells #[Value.int IntKind.u64 r1] 48)).alloc (Obj.cells #[Value.int IntKind.i64 r2] 3)) 28 (.int .i64 r3)
 simp only[World.size_alloc,s1]at b1 b2 b3
 exact⟨rfl,by simp[s1],pbA_ (pbA_ (pbA_ h0 _) _) _,((b0.alloc _).alloc _).alloc _,(b1.alloc _).alloc _,b2.alloc _,b3⟩
abbrev QB:=Int×Int×Int×List Int×Int
def QB.zero:QB:=(0,0,0,[],0)
noncomputable def qblocks.l0:Nat->List Int->Int->Int->Int->Option (List QB)
 |0,_,_,_,_=>none
 |k+1,b,left,here,ahead=>if 0 < left then
   (if 0 <= here ∧ here <= (b.length : Int) then
    (num_Take.f k (b.drop here.toNat)).bind fun t=>if t.2.2=0∧t.1<=4095 then
     (if 0 <= wrap64 (here + t.2.1) ∧ wrap64 (here + t.2.1) <= (b.length : Int) then
      (num_TakeRow.f k (b.drop (wrap64 (here+t.2.1)).toNat) (b.length:Int)).bind fun r=>if r.2.2=0 then
       (qblocks.l0 k b (wrap64 (left - 32)) (wrap64 (here+wrap64 (t.2.1+r.2.1))) (wrap64 t.1)).bind fun rest=>some ((if 32 < left then 32 else left,ahead,wrap64 t.1,r.1,wrap64 (here+wrap64 (t.2.1+r.2.1))) :: rest)
      else some [QB.zero]
     else none)
    else some [QB.zero]
   else none)
  else some []
noncomputable def qblocks.f (k:Nat) (b:List Int) (cnt at_ e:Int):Option (List QB):=if e=0∧cnt<=4096 then qblocks.l0 k b (wrap64 cnt) at_ (-1)else some [QB.zero]
theorem qblocks.mono_l:∀ k b a0 a1 a2,LeO (qblocks.l0 k b a0 a1 a2) (qblocks.l0 (k+1) b a0 a1 a2)
 |0,_,_,_,_=>LeO.none _
 |k+1,b,a0,a1,a2=>by
  rw[qblocks.l0,qblocks.l0]
  exact LeO.ite (LeO.ite (LeO.bind (num_Take.mono _ _) fun _=>LeO.ite (LeO.ite (LeO.bind (num_TakeRow.mono _ _ _) fun _=>LeO.ite (LeO.bind (qblocks.mono_l k _ _ _ _) fun _=>LeO.refl _) (LeO.refl _)) (LeO.none _)) (LeO.refl _)) (LeO.none _)) (LeO.refl _)
theorem qblocks.mono (k:Nat) (b:List Int) (cnt at_ e:Int):LeO (qblocks.f k b cnt at_ e) (qblocks.f (k+1) b cnt at_ e):=by
 unfold qblocks.f
 exact LeO.ite (qblocks.mono_l _ _ _ _ _) (LeO.refl _)
abbrev QX:=QB×Option Addr×Nat
def qencB (x:QX):Array Value:= #[.agg #[.int .i64 x.1.1,.int .i64 x.1.2.1,.int .i64 x.1.2.2.1,.slice x.2.1 x.1.2.2.2.1.length x.2.2,.int .i64 x.1.2.2.2.2]]
def QNx (bl:List QB) (pre:List QX) (x:QX) (W:World):Prop:=bl[pre.length]? =some x.1∧pre.map (·.1)=bl.take pre.length∧Kd.C (Kd.int .u8) W x.2.1 x.1.2.2.2.1.length x.1.2.2.2.1∧x.1.2.2.2.1.length<=x.2.2
def qcutA (A:Option Addr) (c h:Nat):Option Addr:=if c=h then A else A.map (·.add (h*1))
theorem qcut_run (A:Option Addr) (len c:Nat) (h:Int) (h0:0<=h) (h1:h<=(len:Int)) (W:World):
  (Instr.slice 22 (.slice A len c) (some (.int .i64 h)) none none).run Try.prog W= .ok (.slice (qcutA A c h.toNat) (len - h.toNat) (c - h.toNat)) W:=by
 obtain⟨i0,hi0,_,hsz,_⟩:=info_parts info5
 have hel:Try.prog.elem 22=5:=by simp[Program.elem,Try.underlying22]
 have hu:Try.prog.underlying 22=some (.slice (Try.prog.elem 22)):=by rw[hel];exact Try.underlying22
 rw[run_slice_l W 22 A len c hu .i64 _ h0 h1,hel]
 simp[sizeOf,typeInfo,hi0,hsz,sliced,qcutA,Result.andThen]
theorem qcut_C {W:World} {A:Option Addr} {c:Nat} {l:List Int} (h:Kd.C (Kd.int .u8) W A l.length l) (hc:l.length<=c) {m:Nat} (hm:m<=l.length):Kd.C (Kd.int .u8) W (qcutA A c m) (l.drop m).length (l.drop m):=Kd.C_drop h hm hc
theorem qgrown_below {A B:World} (h:Below A.heap.size A B):A.grownBy B none:=⟨h.os,h.tape,h.output,h.size,fun k hk _=>h.block k hk⟩
def QAt (k:Nat) (b:List Int) (bl:List QB) (left here ahead:Int) (pre:List QX):Prop:=∃ kq rest,qblocks.l0 kq b left here ahead=some rest∧pre.map (·.1)++rest=bl
theorem qzero_nx {bl:List QB} {pre:List QX} {W:World} (h:pre.map (·.1)++[QB.zero]=bl):QNx bl pre (QB.zero,none,0) W:=
 ⟨by rw[<- h,List.getElem?_append_right (by simp)];simp,by rw[<- h];simp,Kd.C_nil _ _,Nat.le_refl _⟩
set_option maxRecDepth 100000 in
set_option maxHeartbeats 4000000 in
theorem qblocks1_seq (k:Nat) (A:Option Addr) (c:Nat) (b:List Int) (cnt at_ er:Int) (bl:List QB) (Bs:Nat) (w:World) (hr:Kd.C (Kd.int .u8) w A b.length b) (hc:b.length<=c) (hB:Bs+3 < w.heap.size)
  (b0:Boxed w Bs 22 (.slice A b.length c)) (b1:Boxed w (Bs+1) 48 (.int .u64 cnt)) (b2:Boxed w (Bs+2) 3 (.int .i64 at_)) (b3:Boxed w (Bs+3) 28 (.int .i64 er)) (h:qblocks.f k b cnt at_ er=some bl):
  SeqTold Fence.wide 8 Try.prog 56 #[.pointer (some ⟨Bs+3,0,none⟩),.pointer (some ⟨Bs+1,0,none⟩),.pointer (some ⟨Bs+2,0,none⟩),.pointer (some ⟨Bs,0,none⟩)] qencB (QNx bl) (Below w.heap.size) (fun xs=>xs.map (·.1)=bl) (fun _=>True) w:=by
 intro l J Jx W hW hJ hJx hY h0
 have HR:=Aside0.mk hr
 have HC:=Aside0.mk hc
 have c0:Boxed W Bs _ _:=(hW.block Bs (by omega)).trans b0
 have c1:Boxed W (Bs+1) _ _:=(hW.block (Bs+1) (by omega)).trans b1
 have c2:Boxed W (Bs+2) _ _:=(hW.block (Bs+2) (by omega)).trans b2
 have c3:Boxed W (Bs+3) _ _:=(hW.block (Bs+3) (by omega)).trans b3
 have C0:=Aside0.mk c0
 have C1:=Aside0.mk c1
 have C2:=Aside0.mk c2
 have C3:=Aside0.mk c3
 have d1:=c1.cell
 have d2:=c2.cell
 have d3:=c3.cell
 have HY:=Aside0.mk hY
 have HJ:=Aside0.mk hJ
 have HJX:=Aside0.mk hJx
 have HJ0:=Aside0.mk h0
 have HW:=Aside0.mk hW
 have HBs:=Aside0.mk hB
 have HF:=Aside0.mk h
 clear c0 c1 c2 c3 hr hc hY hJ hJx h0 hW hB b0 b1 b2 b3
 refine callsIn_of_wp Try.func56 rfl trivial ?_ rfl
 simp only[Try.ntmps56,List.size_toArray,List.length_cons,List.length_nil,Nat.reduceAdd,Nat.reduceSub,Array.replicate_succ,Array.replicate_zero,List.push_toArray,List.append_toArray,List.nil_append,List.cons_append]
 clear h
 by_cases he:er=0
 rotate_left
 .have hp:([]:List QX).map (·.1)++[QB.zero]=bl:=by
   have h_:=HF.out
   unfold qblocks.f at h_
   rw[if_neg (fun h2=>he h2.1)]at h_
   exact Option.some.inj h_
  obtain⟨fn,tmps,assign,body,hy,hRd⟩:=HY.out [] (QB.zero,none,0) W HJ0.out (qzero_nx hp)
  have HRD:=Aside0.mk hRd
  have HP:=Aside0.mk hp
  simp only[qencB,QB.zero,List.length_nil]at hy
  clear hRd hp
  gi_wp2
  refine HRD.out.mono ?_
  rintro e W3 (⟨rfl,hJ4,hk4⟩|⟨rfl,hJx4⟩)
  .gi_wp2
   exact bodyPost_ret (results_none rfl _ _ _) rfl ⟨⟨_,rfl⟩,.inl ⟨_,by rw[<- HP.out];simp,hJ4⟩⟩
  .gi_wp2
   exact bodyPost_ret (results_none rfl _ _ _) rfl ⟨⟨_,rfl⟩,.inr ⟨_,trivial,hJx4⟩⟩
 subst he
 by_cases hn:cnt<=4096
 rotate_left
 .have hp:([]:List QX).map (·.1)++[QB.zero]=bl:=by
   have h_:=HF.out
   unfold qblocks.f at h_
   rw[if_neg (fun h2=>hn h2.2)]at h_
   exact Option.some.inj h_
  obtain⟨fn,tmps,assign,body,hy,hRd⟩:=HY.out [] (QB.zero,none,0) W HJ0.out (qzero_nx hp)
  have HRD:=Aside0.mk hRd
  have HP:=Aside0.mk hp
  simp only[qencB,QB.zero,List.length_nil]at hy
  clear hRd hp
  gi_wp2
  refine HRD.out.mono ?_
  rintro e W3 (⟨rfl,hJ4,hk4⟩|⟨rfl,hJx4⟩)
  .gi_wp2
   exact bodyPost_ret (results_none rfl _ _ _) rfl ⟨⟨_,rfl⟩,.inl ⟨_,by rw[<- HP.out];simp,hJ4⟩⟩
  .gi_wp2
   exact bodyPost_ret (results_none rfl _ _ _) rfl ⟨⟨_,rfl⟩,.inr ⟨_,trivial,hJx4⟩⟩
 have HF2:=Aside0.mk (show qblocks.l0 k b (wrap64 cnt) at_ (-1)=some bl by have h_:=HF.out;unfold qblocks.f at h_;rw[if_pos ⟨rfl,hn⟩]at h_;exact h_)
 have g1:decide (4096 < cnt)=false:=decide_eq_false (by omega)
 gi_wp2
 gi_loopw [6,7,8] (fun v6 v7 v8 wr=>∃ (left here ahead:Int) (pre:List QX),v6= .int .i64 here∧v7= .int .i64 ahead∧v8= .int .i64 left∧Aside0 (left < 9223372036854775808)∧Aside0 (QAt k b bl left here ahead pre)∧Aside0 (J pre wr)∧Aside0 (Below w.heap.size W wr)) (fun _ _ v8 _=>(intOf v8).toNat)
 case atStart=>exact⟨wrap64 cnt,at_, -1,[],rfl,rfl,rfl,⟨by unfold wrap64;omega⟩,⟨k,bl,HF2.out,rfl⟩,HJ0,⟨Below.refl _ _⟩⟩
 case round=>
  obtain⟨left,here,ahead,pre,rfl,rfl,rfl,hle,hat,hJs,hBl⟩:=hrel
  obtain⟨kq,rest,hq,hpre⟩:=hat.out
  have HPRE:=Aside0.mk hpre
  clear hpre hat
  cases kq with
  |zero=>cases hq
  |succ kq=>
  rw[qblocks.l0]at hq
  have e0:Boxed wr Bs 22 (.slice A b.length c):=(hBl.out.block Bs (by have:=HW.out.size;have:=HBs.out;omega)).trans C0.out
  have e0c:=e0.cell
  have HE0:=Aside0.mk e0
  have HRr:Aside0 (Kd.C (Kd.int .u8) wr A b.length b):=⟨Kd.C_below HR.out (HW.out.trans hBl.out)⟩
  clear e0
  by_cases hlt:0 < left
  rotate_left
  .rw[if_neg hlt]at hq
   have hrest:=(Option.some.inj hq).symm
   have hp:=HPRE.out
   rw[hrest,List.append_nil]at hp
   have HP:=Aside0.mk hp
   clear hq hrest hp
   gi_wp2
   go_end0
   exact⟨⟨_,rfl⟩,.inl ⟨pre,HP.out,hJs.out⟩⟩
  rw[if_pos hlt]at hq
  by_cases hh:0<=here∧here<=(b.length:Int)
  case neg=>rw[if_neg hh]at hq;cases hq
  rw[if_pos hh]at hq
  obtain⟨⟨t1,t2,t3⟩,ht,hq⟩:=Option.bind_eq_some_iff.1 hq
  dsimp only at hq
  have hcut:=qcut_run A b.length c here hh.1 hh.2
  have hCd:=num_Take.calls kq _ (c - here.toNat) (b.drop here.toNat) t1 t2 t3 wr (qcut_C HRr.out HC.out (by omega)) (by have:=HC.out;rw[List.length_drop];omega) ht
  rw[List.length_drop]at hCd
  have HCD:=Aside0.mk hCd
  have HQ:=Aside0.mk hq
  have HH:=Aside0.mk hh
  clear ht hq hh hCd
  by_cases hok:t3=0∧t1<=4095
  rotate_left
  .have hq:=HQ.out
   rw[if_neg hok]at hq
   have hrest:=(Option.some.inj hq).symm
   have hp:=HPRE.out
   rw[hrest]at hp
   have hJa:∀ nd,J pre (wr.drewN nd):=fun nd=>HJ.out pre wr _ none hJs.out ⟨rfl,rfl,rfl,Nat.le_refl _,fun k _ _=>rfl⟩ (fun r e=>by cases e)
   have HJa:=Aside0.mk hJa
   have HP:=Aside0.mk hp
   clear hq hrest hp hJa
   by_cases ht3:t3=0
   rotate_left
   .clear hok
    gi_wp2_with (first|(refine⟨trivial,?_⟩;gi_at_call 55;(with_reducible refine(callsIn_wide.2 HCD.out).mono ?_);rintro e w1 ⟨rfl,⟨nd,rfl⟩⟩;obtain⟨fn,tmps,assign,body,hy,hRd⟩:=HY.out pre (QB.zero,none,0) (wr.drewN nd) (HJa.out nd) (qzero_nx HP.out);have HRD:=Aside0.mk hRd;simp only[qencB,QB.zero,List.length_nil]at hy;clear hRd)|fail)
    refine HRD.out.mono ?_
    rintro e W3 (⟨rfl,hJ4,hk4⟩|⟨rfl,hJx4⟩)
    .gi_wp2
     exact bodyPost_ret (results_none rfl _ _ _) rfl ⟨⟨_,rfl⟩,.inl ⟨_,by rw[<- HP.out];simp,hJ4⟩⟩
    .gi_wp2
     exact bodyPost_ret (results_none rfl _ _ _) rfl ⟨⟨_,rfl⟩,.inr ⟨_,trivial,hJx4⟩⟩
   subst ht3
   have ht1: ¬ t1<=4095:=fun h_=>hok ⟨rfl,h_⟩
   clear hok
   gi_wp2_with (first|(refine⟨trivial,?_⟩;gi_at_call 55;(with_reducible refine(callsIn_wide.2 HCD.out).mono ?_);rintro e w1 ⟨rfl,⟨nd,rfl⟩⟩;obtain⟨fn,tmps,assign,body,hy,hRd⟩:=HY.out pre (QB.zero,none,0) (wr.drewN nd) (HJa.out nd) (qzero_nx HP.out);have HRD:=Aside0.mk hRd;simp only[qencB,QB.zero,List.length_nil]at hy;clear hRd)|fail)
   refine HRD.out.mono ?_
   rintro e W3 (⟨rfl,hJ4,hk4⟩|⟨rfl,hJx4⟩)
   .gi_wp2
    exact bodyPost_ret (results_none rfl _ _ _) rfl ⟨⟨_,rfl⟩,.inl ⟨_,by rw[<- HP.out];simp,hJ4⟩⟩
   .gi_wp2
    exact bodyPost_ret (results_none rfl _ _ _) rfl ⟨⟨_,rfl⟩,.inr ⟨_,trivial,hJx4⟩⟩
  obtain⟨rfl,ht1⟩:=hok
  gi_wp2_with (first|(refine⟨trivial,?_⟩;gi_at_call 55;(with_reducible refine(callsIn_wide.2 HCD.out).mono ?_);rintro e w1 ⟨rfl,⟨nd,rfl⟩⟩)|fail)
  have hq:=HQ.out
  rw[if_pos ⟨by first|rfl|trivial,ht1⟩]at hq
  by_cases hh2:0<=wrap64 (here+t2)∧wrap64 (here+t2)<=(b.length:Int)
  case neg=>rw[if_neg hh2]at hq;cases hq
  rw[if_pos hh2]at hq
  obtain⟨⟨r1,r2,r3⟩,hr,hq⟩:=Option.bind_eq_some_iff.1 hq
  dsimp only at hq
  have hcut2:=qcut_run A b.length c (wrap64 (here+t2)) hh2.1 hh2.2
  have HCD2:∀ W',Kd.C (Kd.int .u8) W' A b.length b->Calls Try.prog 57 #[.slice (qcutA A c (wrap64 (here+t2)).toNat) (b.length - (wrap64 (here+t2)).toNat) (c - (wrap64 (here+t2)).toNat),.int .i64 (b.length:Int)] W' _:=fun W' hC=>by
   have h_:=num_TakeRow.calls kq _ (c - (wrap64 (here+t2)).toNat) (b.drop (wrap64 (here+t2)).toNat) (b.length:Int) r1 r2 r3 W' (qcut_C hC HC.out (by omega)) (by have:=HC.out;rw[List.length_drop];omega) hr
   rw[List.length_drop]at h_
   exact h_
  have HQ2:=Aside0.mk hq
  have HH2:=Aside0.mk hh2
  clear hq hh2 hr
  refine wpIn_wide.2 ?_
  have HRd:Aside0 (Kd.C (Kd.int .u8) (wr.drewN nd).drew A b.length b):=⟨HRr.out⟩
  have hBd:Aside0 (Below w.heap.size W (wr.drewN nd).drew):=⟨pb1_ (pbN_ hBl.out _)⟩
  have hJd:Aside0 (J pre (wr.drewN nd).drew):=⟨HJ.out pre wr _ none hJs.out ⟨rfl,rfl,rfl,Nat.le_refl _,fun k _ _=>rfl⟩ (fun r e=>by cases e)⟩
  have HE0d:Aside0 (Bs < (wr.drewN nd).drew.heap.size):=⟨HE0.out.lt⟩
  refine start_ (n:=15) (S:=fun w'=>w'.cell? ⟨Bs,0,none⟩=some (.slice A b.length c)) (ds:=[]) #[false,false,false,false,false,false,false,false,false,false,false,false,false,false,false] (by kernel_rfl) rfl rfl e0c (fun hHeld=>?_)
  generalize (wr.drewN nd).drew=w2 at HRd hBd hJd HE0d hHeld ⊢
  refine take_ (i:=0) (N:=some 48) (v:=?_) (a':=?_) #[tT,fF,fF,fF,fF,fF,fF,fF,fF,fF,fF,fF,fF,fF,fF] rfl rfl (by kernel_rfl) (fun _ _ _ h=>h) (Or.inl ⟨by rfl,?_⟩) hHeld ?_ ?_
  rotate_left
  .rintro w' s0
   go_simp
   with_reducible rfl
  rotate_left
  .simp only[Act.put,List.setIfInBounds_toArray,List.set_cons_zero,List.set_cons_succ,i64_w,i32_w]
   rfl
  refine pure_ (i:=1) (N:=some 49) (v:=?_) (a':=?_) #[tT,tT,fF,fF,fF,fF,fF,fF,fF,fF,fF,fF,fF,fF,fF] rfl rfl (by kernel_rfl) (fun _ _ _ h=>h) (Or.inl ⟨by rfl,?_⟩) ?_ ?_
  rotate_left
  .intro w'
   go_simp
   with_reducible rfl
  rotate_left
  .simp only[Act.put,List.setIfInBounds_toArray,List.set_cons_zero,List.set_cons_succ,i64_w,i32_w]
   rfl
  refine pure_ (i:=2) (N:=some 50) (v:=?_) (a':=?_) #[tT,tT,tT,fF,fF,fF,fF,fF,fF,fF,fF,fF,fF,fF,fF] rfl rfl (by kernel_rfl) (fun _ _ _ h=>h) (Or.inl ⟨by rfl,?_⟩) ?_ ?_
  rotate_left
  .intro w'
   go_simp
   with_reducible rfl
  rotate_left
  .simp only[Act.put,List.setIfInBounds_toArray,List.set_cons_zero,List.set_cons_succ,i64_w,i32_w]
   rfl
  refine pure_ (i:=3) (N:=some 51) (v:=?_) (a':=?_) #[tT,tT,tT,tT,fF,fF,fF,fF,fF,fF,fF,fF,fF,fF,fF] rfl rfl (by kernel_rfl) (fun _ _ _ h=>h) (Or.inl ⟨by rfl,?_⟩) ?_ ?_
  rotate_left
  .intro w'
   go_simp
   with_reducible rfl
  rotate_left
  .simp only[Act.put,List.setIfInBounds_toArray,List.set_cons_zero,List.set_cons_succ,i64_w,i32_w]
   rfl
  refine pure_ (i:=4) (N:=some 52) (v:=?_) (a':=?_) #[tT,tT,tT,tT,tT,fF,fF,fF,fF,fF,fF,fF,fF,fF,fF] rfl rfl (by kernel_rfl) (fun _ _ _ h=>h) (Or.inl ⟨by rfl,?_⟩) ?_ ?_
  rotate_left
  .intro w'
   go_simp
   with_reducible rfl
  rotate_left
  .simp only[Act.put,List.setIfInBounds_toArray,List.set_cons_zero,List.set_cons_succ,i64_w,i32_w]
   rfl
  refine take_ (i:=5) (N:=some 53) (v:=?_) (a':=?_) #[tT,tT,tT,tT,tT,tT,fF,fF,fF,fF,fF,fF,fF,fF,fF] rfl rfl (by kernel_rfl) (fun _ _ _ h=>h) (Or.inl ⟨by rfl,?_⟩) hHeld ?_ ?_
  rotate_left
  .rintro w' s0
   go_simp
   with_reducible rfl
  rotate_left
  .simp only[Act.put,List.setIfInBounds_toArray,List.set_cons_zero,List.set_cons_succ,i64_w,i32_w]
   rfl
  refine pure_ (i:=6) (N:=some 54) (v:=?_) (a':=?_) #[tT,tT,tT,tT,tT,tT,tT,fF,fF,fF,fF,fF,fF,fF,fF] rfl rfl (by kernel_rfl) (fun _ _ _ h=>h) (Or.inl ⟨by rfl,?_⟩) ?_ ?_
  rotate_left
  .intro w'
   go_simp
   with_reducible rfl
  rotate_left
  .simp only[Act.put,List.setIfInBounds_toArray,List.set_cons_zero,List.set_cons_succ,i64_w,i32_w]
   rfl
  refine one_ (i:=7) (N:=some 55) #[tT,tT,tT,tT,tT,tT,tT,tT,fF,fF,fF,fF,fF,fF,fF] rfl rfl (by kernel_rfl) (by decide) (fun K hK=>?_)
  refine goes_ Try.func57 (by kernel_rfl) rfl #[.slice (qcutA A c (wrap64 (here+t2)).toNat) (b.length - (wrap64 (here+t2)).toNat) (c - (wrap64 (here+t2)).toNat),.int .i64 (b.length:Int)] (by rfl) rfl rfl (by simp only[List.map_toArray,List.map_cons,List.map_nil];congr 1) ?_
  with_reducible refine(HCD2 _ HRd.out).mono ?_
  rintro e w3 ⟨v3,rfl,hR3,hB3⟩
  refine⟨_,rfl,?_⟩
  obtain⟨A3,c3,rfl⟩:=Kd.R_slice hR3
  have HR3:=Aside0.mk hR3
  have HB3:=Aside0.mk hB3
  have hHeld3:w3.cell? ⟨Bs,0,none⟩=some (.slice A b.length c):=(hB3.cell (p:=⟨Bs,0,none⟩) HE0d.out).trans hHeld
  clear hR3 hB3
  refine hK _ _ hHeld3 (fun hHeld=>?_)
  refine norm_ (a':=?_) ?_ ?_
  rotate_left
  .show Act.put _ (some 55) _=_
   simp only[Act.put,List.setIfInBounds_toArray,List.set_cons_zero,List.set_cons_succ,i64_w,i32_w]
   rfl
  refine pure_ (i:=8) (N:=some 47) (v:=?_) (a':=?_) #[tT,tT,tT,tT,tT,tT,tT,tT,tT,fF,fF,fF,fF,fF,fF] rfl rfl (by kernel_rfl) (fun _ _ _ h=>h) (Or.inl ⟨by rfl,?_⟩) ?_ ?_
  rotate_left
  .intro w'
   go_simp
   with_reducible rfl
  rotate_left
  .simp only[Act.put,List.setIfInBounds_toArray,List.set_cons_zero,List.set_cons_succ,i64_w,i32_w]
   rfl
  refine pure_ (i:=9) (N:=some 56) (v:=?_) (a':=?_) #[tT,tT,tT,tT,tT,tT,tT,tT,tT,tT,fF,fF,fF,fF,fF] rfl rfl (by kernel_rfl) (fun _ _ _ h=>h) (Or.inl ⟨by rfl,?_⟩) ?_ ?_
  rotate_left
  .intro w'
   go_simp
   with_reducible rfl
  rotate_left
  .simp only[Act.put,List.setIfInBounds_toArray,List.set_cons_zero,List.set_cons_succ,i64_w,i32_w]
   rfl
  refine pure_ (i:=10) (N:=some 57) (v:=?_) (a':=?_) #[tT,tT,tT,tT,tT,tT,tT,tT,tT,tT,tT,fF,fF,fF,fF] rfl rfl (by kernel_rfl) (fun _ _ _ h=>h) (Or.inl ⟨by rfl,?_⟩) ?_ ?_
  rotate_left
  .intro w'
   go_simp
   with_reducible rfl
  rotate_left
  .simp only[Act.put,List.setIfInBounds_toArray,List.set_cons_zero,List.set_cons_succ,i64_w,i32_w]
   rfl
  refine pure_ (i:=11) (N:=some 58) (v:=?_) (a':=?_) #[tT,tT,tT,tT,tT,tT,tT,tT,tT,tT,tT,tT,fF,fF,fF] rfl rfl (by kernel_rfl) (fun _ _ _ h=>h) (Or.inl ⟨by rfl,?_⟩) ?_ ?_
  rotate_left
  .intro w'
   go_simp
   with_reducible rfl
  rotate_left
  .simp only[Act.put,List.setIfInBounds_toArray,List.set_cons_zero,List.set_cons_succ,i64_w,i32_w]
   rfl
  refine pure_ (i:=12) (N:=some 12) (v:=?_) (a':=?_) #[tT,tT,tT,tT,tT,tT,tT,tT,tT,tT,tT,tT,tT,fF,fF] rfl rfl (by kernel_rfl) (fun _ _ _ h=>h) (Or.inl ⟨by rfl,?_⟩) ?_ ?_
  rotate_left
  .intro w'
   go_simp
   with_reducible rfl
  rotate_left
  .simp only[Act.put,List.setIfInBounds_toArray,List.set_cons_zero,List.set_cons_succ,i64_w,i32_w]
   rfl
  refine pure_ (i:=13) (N:=some 13) (v:=?_) (a':=?_) #[tT,tT,tT,tT,tT,tT,tT,tT,tT,tT,tT,tT,tT,tT,fF] rfl rfl (by kernel_rfl) (fun _ _ _ h=>h) (Or.inl ⟨by rfl,?_⟩) ?_ ?_
  rotate_left
  .intro w'
   go_simp
   with_reducible rfl
  rotate_left
  .simp only[Act.put,List.setIfInBounds_toArray,List.set_cons_zero,List.set_cons_succ,i64_w,i32_w]
   rfl
  refine pure_ (i:=14) (N:=some 11) (v:=?_) (a':=?_) #[tT,tT,tT,tT,tT,tT,tT,tT,tT,tT,tT,tT,tT,tT,tT] rfl rfl (by kernel_rfl) (fun _ _ _ h=>h) (Or.inl ⟨by rfl,?_⟩) ?_ ?_
  rotate_left
  .intro w'
   go_simp
   with_reducible rfl
  rotate_left
  .simp only[Act.put,List.setIfInBounds_toArray,List.set_cons_zero,List.set_cons_succ,i64_w,i32_w]
   rfl
  refine done_ (by kernel_rfl) ?_
  have hB3:=HB3.out
  have hB4:Aside0 (Below w.heap.size W w3):=⟨hBd.out.trans (hB3.mono (by have:=hBd.out.size;have:=HW.out.size;omega))⟩
  have hJ3:Aside0 (J pre w3):=⟨HJ.out pre w2 _ none hJd.out (qgrown_below hB3) (fun r e=>by cases e)⟩
  clear hB3
  by_cases hr3:r3=0
  rotate_left
  .have hq:=HQ2.out
   rw[if_neg hr3]at hq
   have hrest:=(Option.some.inj hq).symm
   have hp:=HPRE.out
   rw[hrest]at hp
   obtain⟨fn,tmps,assign,body,hy,hRd⟩:=HY.out pre (QB.zero,none,0) w3 hJ3.out (qzero_nx hp)
   have HRD:=Aside0.mk hRd
   have HP:=Aside0.mk hp
   simp only[qencB,QB.zero,List.length_nil]at hy
   clear hq hrest hRd hp
   gi_wp2
   refine HRD.out.mono ?_
   rintro e W3 (⟨rfl,hJ4,hk4⟩|⟨rfl,hJx4⟩)
   .gi_wp2
    exact bodyPost_ret (results_none rfl _ _ _) rfl ⟨⟨_,rfl⟩,.inl ⟨_,by rw[<- HP.out];simp,hJ4⟩⟩
   .gi_wp2
    exact bodyPost_ret (results_none rfl _ _ _) rfl ⟨⟨_,rfl⟩,.inr ⟨_,trivial,hJx4⟩⟩
  subst hr3
  have hq:=HQ2.out
  rw[if_pos rfl]at hq
  obtain⟨rs,hrs,hq⟩:=Option.bind_eq_some_iff.1 hq
  obtain⟨here2,hh2⟩:∃ x,wrap64 (here+wrap64 (t2+r2))=x:=⟨_,rfl⟩
  obtain⟨mm,hmm⟩:∃ mm,(if 32 < left then 32 else left)=mm:=⟨_,rfl⟩
  have hmn:min left 32=mm:=by rw[<- hmm];split<;>omega
  rw[hmm]at hq
  obtain⟨X,hX⟩:∃ X:QB,Aside0 (X=(mm,ahead,wrap64 t1,r1,here2)):=⟨_,⟨rfl⟩⟩
  rw[hh2]at hrs hq
  rw[<- hX.out]at hq
  have hrest:=(Option.some.inj hq).symm
  have hNx:QNx bl pre (X,A3,c3) w3:=by
   have e_:=HPRE.out
   rw[hrest]at e_
   refine⟨?_,?_,?_,?_⟩
   .rw[<- e_,List.getElem?_append_right (by simp)];simp
   .rw[<- e_];simp
   .rw[hX.out];exact(Kd.R_reads' HR3.out).2.2
   .rw[hX.out];exact(Kd.R_reads' HR3.out).2.1
  obtain⟨fn,tmps,assign,body,hy,hRd⟩:=HY.out pre (X,A3,c3) w3 hJ3.out hNx
  rw[hX.out]at hy
  dsimp only[qencB]at hy
  have HRS:=Aside0.mk hrs
  have HREST:=Aside0.mk hrest
  have HNX:=Aside0.mk hNx
  have HRD:=Aside0.mk hRd
  have HHH:=Aside0.mk hh2
  clear hq hrs hrest hNx hRd
  gi_wp2
  refine HRD.out.mono ?_
  rintro e W3 (⟨rfl,hJ4,hk4⟩|⟨rfl,hJx4⟩)
  .gi_wp2
   go_roundw
   case rel=>exact⟨wrap64 (left - 32),here2,wrap64 t1,pre++[(X,A3,c3)],rfl,rfl,rfl,⟨by unfold wrap64;omega⟩,⟨kq,rs,HRS.out,by rw[<- HPRE.out,HREST.out];simp⟩,⟨hJ4⟩,⟨hB4.out.trans hk4⟩⟩
   case measure=>(have:=hle.out;simp[intOf];unfold wrap64;omega)
  .gi_wp2
   exact bodyPost_ret (results_none rfl _ _ _) rfl ⟨⟨_,rfl⟩,.inr ⟨_,trivial,hJx4⟩⟩
end
section
attribute [local go_sem] Oper.semAt_some
noncomputable def post_Take.l0 (k:Nat):List QB->List S37->Int->Option (List S37×Int×Int)
 |[],l,e=>some (l,e,0)
 |x :: r,l,_=>(post_unpack.f k x.1 x.2.1 x.2.2.1 x.2.2.2.1 x.2.2.2.2).bind fun u=>if x.1=0∨u.2=false then some ([],0,2)else if l.length+u.1.length<=1000000 then post_Take.l0 k r (l++u.1) x.2.2.2.2 else none
noncomputable def post_Take.f (k:Nat) (b:List Int):Option (List S37×Int×Int):=
 (num_Take.f k b).bind fun t=>(qblocks.f k b t.1 t.2.1 t.2.2).bind fun bl=>post_Take.l0 k bl [] t.2.1
theorem post_Take.mono_l (k:Nat):∀ bl l e,LeO (post_Take.l0 k bl l e) (post_Take.l0 (k+1) bl l e)
 |[],_,_=>LeO.refl _
 |_ :: r,_,_=>by
  rw[post_Take.l0,post_Take.l0]
  exact LeO.bind (post_unpack.mono _ _ _ _ _ _) fun _=>LeO.ite (LeO.refl _) (LeO.ite (post_Take.mono_l k r _ _) (LeO.none _))
theorem post_Take.mono:∀ a0 k,LeO (post_Take.f k a0) (post_Take.f (k+1) a0):=by
 intro a0 k
 unfold post_Take.f
 exact LeO.bind (num_Take.mono _ _) fun _=>LeO.bind (qblocks.mono _ _ _ _ _) fun _=>post_Take.mono_l _ _ _ _
def post_Take.Held (k:Nat) (bl:List QB) (r:List S37×Int×Int) (w1:World) (B:Nat) (pre:List QX) (W:World):Prop:=
 (∃ (l:List S37) (e:Int) (v:Value),Aside0 (pre.map (·.1)=bl.take pre.length->post_Take.l0 k (bl.drop pre.length) l e=some r)∧Boxed W (B+1) 23 v∧Kd.R k37 37 W (B+2) (fun _=>True) v l∧Boxed W B 3 (.int .i64 e)∧B+2<=W.heap.size)∧Below w1.heap.size w1 W
theorem qR_own {α:Type} {d:Kd α} {e base:Nat} {v:Value} {xs:List α} {X Y:World} {row:Option Nat} (h:d.R e X base (fun _=>True) v xs) (hg:X.grownBy Y row) (hrow:∀ r,row=some r->∃ o:Obj,X.heap[r]? =some o∧o.isCells=false):d.R e Y base (fun _=>True) v xs:=by
 refine Kd.R_mono (Kd.R_grown (Kd.R_bound h) hg ?_) (fun _ _=>trivial)
 rintro k ⟨_,_,_,q,_,cells,hc⟩ he
 obtain⟨o,ho,hn⟩:=hrow k he.symm
 rw[hc]at ho
 cases ho
 cases hn
theorem post_Take.held_own (k:Nat) (bl:List QB) (r:List S37×Int×Int) (w1:World) (B B0:Nat) (h:w1.heap.size<=B0):OwnFrom B0 (post_Take.Held k bl r w1 B):=by
 refine OwnFrom.and (Own.from ?_ _) (ownFrom_below (Nat.le_refl _) h)
 rintro s X Y row ⟨l,e,v,hp,hv,hR,he,hs⟩ hg hrow
 exact⟨l,e,v,hp,boxed_own (B+1) 23 (fun _=>v) s X Y row hv hg hrow,qR_own hR hg hrow,boxed_own B 3 (fun _=> .int .i64 e) s X Y row he hg hrow,Nat.le_trans hs hg.size⟩
def post_Take.Bad (r:List S37×Int×Int) (w:World) (c:Code) (_pre:List QX) (W:World):Prop:=
 (Aside0 (c= .ret∧r=([],0,2))∧Boxed W w.heap.size 23 (.slice none 0 0)∧Boxed W (w.heap.size+1) 3 (.int .i64 0)∧Boxed W (w.heap.size+2) 28 (.int .i64 2))∧Below w.heap.size w W
theorem post_Take.bad_own (r:List S37×Int×Int) (w:World) (c:Code) (B0:Nat) (h:w.heap.size<=B0):OwnFrom B0 (post_Take.Bad r w c):=by
 refine OwnFrom.and (Own.from ?_ _) (ownFrom_below (Nat.le_refl _) h)
 rintro s X Y row ⟨hp,h1,h2,h3⟩ hg hrow
 exact⟨hp,boxed_own _ 23 (fun _=> .slice none 0 0) s X Y row h1 hg hrow,boxed_own _ 3 (fun _=> .int .i64 0) s X Y row h2 hg hrow,boxed_own _ 28 (fun _=> .int .i64 2) s X Y row h3 hg hrow⟩
def QAx (bl:List QB) (n:Nat) (pre:List QX) (x:QX) (B:Nat) (W:World):Prop:=
 Aside0 (n<=B∧bl[pre.length]? =some x.1∧pre.map (·.1)=bl.take pre.length∧x.1.2.2.2.1.length<=x.2.2)∧W.heap[B]? =some (.cells #[.int .i64 x.1.1,.int .i64 x.1.2.1,.int .i64 x.1.2.2.1,.slice x.2.1 x.1.2.2.2.1.length x.2.2,.int .i64 x.1.2.2.2.2] 65 (0,0))∧Kd.C (Kd.int .u8) W x.2.1 x.1.2.2.2.1.length x.1.2.2.2.1
theorem qC_cells {W W':World} {A:Option Addr} {n:Nat} {xs:List Int} (h:Kd.C (Kd.int .u8) W A n xs) (hc:∀ p v,W.cell? p=some v->W'.cell? p=some v):Kd.C (Kd.int .u8) W' A n xs:=by
 obtain⟨h1,h2,h3⟩:=h
 refine⟨h1,h2,fun hp=>?_⟩
 obtain⟨ad,rfl,h4⟩:=h3 hp
 refine⟨ad,rfl,fun j p hj=>?_⟩
 obtain⟨c,hl,hK,hcc⟩:=h4 j p hj
 exact⟨c,hl,hK,fun i u hi=>hc _ _ (hcc i u hi)⟩
theorem qcell_kept {X Y:World} {row:Option Nat} (hg:X.grownBy Y row) (hrow:∀ r,row=some r->∃ o:Obj,X.heap[r]? =some o∧o.isCells=false) (p:Addr) (v:Value) (h:X.cell? p=some v):Y.cell? p=some v:=by
 have hlt:=World.block_lt_of_cell? X _ h
 have hne:some p.block≠row:=by
  intro e
  obtain⟨o,ho,hn⟩:=hrow _ e.symm
  unfold World.cell? at h
  rw[ho]at h
  cases o<;>simp_all [Obj.isCells]
 unfold World.cell? at h ⊢
 rw[hg.block _ hlt hne]
 exact h
theorem qax_own (bl:List QB) (n:Nat) (pre:List QX) (x:QX) (B0:Nat):OwnFrom B0 (QAx bl n pre x):=by
 refine Own.from ?_ _
 rintro B X Y row ⟨hp,hb,hC⟩ hg hrow
 refine⟨hp,(hg.block B (Array.getElem?_eq_some_iff.1 hb).1 ?_).trans hb,qC_cells hC (qcell_kept hg hrow)⟩
 intro e
 obtain⟨o,ho,hn⟩:=hrow _ e.symm
 rw[hb]at ho
 cases ho
 cases hn
theorem wpIn_calm {F:Fence} {n:Nat} {P:Program} {c:Code} {K:Act->World->Prop} {Q:Exit->Act->World->Prop} {a:Act} {w:World} (h:c.wpIn F n P (fun e a w=>e= .normal∧K a w) a w):c.wpIn F n P (Exit.then K Q) a w:=
 wpIn_mono h (by rintro e a w ⟨rfl,h⟩;exact h)
theorem wpIn_calm2 {F:Fence} {n:Nat} {P:Program} {c:Code} {Q:Exit->Act->World->Prop} {a:Act} {w:World} (h:c.wpIn F n P (fun e a w=>e= .normal∧Q .normal a w) a w):c.wpIn F n P Q a w:=
 wpIn_mono h (by rintro e a w ⟨rfl,h⟩;exact h)
theorem qstore_ {P:Program} {ops:Array Oper} {Q:Exit->Act->World->Prop} {oi:Oper} {N:Option Tmp} {a:Act} {w w1:World} {K:Act->World->Prop} (hw:Region.wanted oi (yielded ops a.tmps)=true) (hN:oi.dst=N) (hrun:(execOp a.eval oi).run P w= .ok .skip w1) (h:K (a.put N undef) w1):
  if Region.wanted oi (yielded ops a.tmps)=true then Oper.wp P oi a w K Q else K (a.put N undef) w:=by
 rw[if_pos hw]
 unfold Oper.wp
 rw[hrun]
 show K (a.put oi.dst undef) w1
 rw[hN]
 exact h
theorem qvalue_ {P:Program} {ops:Array Oper} {Q:Exit->Act->World->Prop} {oi:Oper} {N:Option Tmp} {a:Act} {w:World} {v:Value} {K:Act->World->Prop} (hw:Region.wanted oi (yielded ops a.tmps)=true) (hN:oi.dst=N) (hrun:(execOp a.eval oi).run P w= .ok (.value v) w) (h:K (a.put N v) w):
  if Region.wanted oi (yielded ops a.tmps)=true then Oper.wp P oi a w K Q else K (a.put N undef) w:=by
 rw[if_pos hw]
 unfold Oper.wp
 rw[hrun]
 show K (a.put oi.dst v) w
 rw[hN]
 exact h
set_option maxRecDepth 100000 in
set_option maxHeartbeats 8000000 in
theorem post_Take.calls (k:Nat) (A0:Option Addr) (c0:Nat) (l0:List Int) (r1:List S37) (r2:Int) (r3:Int) (w:World) (hr0:Kd.C (Kd.int .u8) w A0 l0.length l0) (hc0:l0.length<=c0) (h:post_Take.f k l0=some (r1,r2,r3)):
    Calls Try.prog 22 #[.slice A0 l0.length c0] w fun e w'=>∃ v0_:Value,e= .returned (.tuple #[v0_,.int .i64 r2,.int .i64 r3])∧Kd.N k37 37 w' w.heap.size (fun k_=>(w.heap.size<=k_)) v0_ r1∧Below w.heap.size w w':=by
  unfold post_Take.f at h
  obtain⟨⟨t1,t2,t3⟩,ht,h⟩:=Option.bind_eq_some_iff.1 h
  obtain⟨bl,hbl,h⟩:=Option.bind_eq_some_iff.1 h
  dsimp only at hbl h
  have HR0:=Aside0.mk hr0
  have HC0:=Aside0.mk hc0
  have HT:=Aside0.mk ht
  have HBL:=Aside0.mk hbl
  have HH:=Aside0.mk h
  clear hr0 hc0 ht hbl h
  refine(callsIn_wide (n:=9)).1 ?_
  refine callsIn_of_wp_marks Try.func22 rfl trivial ?_ rfl
  simp only[Try.ntmps22,List.size_toArray,List.length_cons,List.length_nil,Nat.reduceAdd,Nat.reduceSub,Array.replicate_succ,Array.replicate_zero,List.push_toArray,List.append_toArray,List.nil_append,List.cons_append]
  gi_wp2_with (first|(refine⟨trivial,?_⟩;gi_at_call 34;(with_reducible refine(qblocks_in k A0 c0 l0 t1 t2 t3 _ ?side1 HC0.out HT.out).mono ?_);(case side1=>exact Kd.cA_ (Kd.cA_ (Kd.cA_ HR0.out _) _) _);rintro e w1 ⟨rfl,hs1,hB1,b0,b1,b2,b3⟩;have HS1:=Aside0.mk hs1;have HB1:=Aside0.mk hB1;have B0:=Aside0.mk b0;have B1:=Aside0.mk b1;have B2:=Aside0.mk b2;have B3:=Aside0.mk b3;clear hs1 hB1 b0 b1 b2 b3)|fail)
  obtain⟨W0,hW0⟩:∃ W0,Aside0 (W0=(w1.alloc (Obj.cells #[Value.int IntKind.i64 t2] 3)).alloc (Obj.cells #[Value.slice none 0 0] 23)):=⟨_,⟨rfl⟩⟩
  have hW0s:Aside0 (W0.heap.size=w1.heap.size+2):=⟨by rw[hW0.out];simp⟩
  have hs1:Aside0 (w1.heap.size=w.heap.size+7):=⟨by rw[HS1.out];simp⟩
  have hbw1:Aside0 (Below w.heap.size w w1):=⟨below_step (pbA_ (pbA_ (pbA_ (Below.refl _ _) _) _) _) HB1.out⟩
  have hbW0:Aside0 (Below w1.heap.size w1 W0):=⟨by rw[hW0.out];exact pbA_ (pbA_ (Below.refl _ _) _) _⟩
  have he0:Boxed W0 w1.heap.size 3 (.int .i64 t2):=by rw[hW0.out];exact(Boxed.new w1 _ _).alloc _
  have hl0:Boxed W0 (w1.heap.size+1) 23 (.slice none 0 0):=by
    have h_:=Boxed.new (w1.alloc (Obj.cells #[Value.int IntKind.i64 t2] 3)) 23 (.slice none 0 0)
    rw[World.size_alloc]at h_
    rw[hW0.out]
    exact h_
  have hC1:Kd.C (Kd.int .u8) w1 A0 l0.length l0:=Kd.C_below HR0.out hbw1.out
  rw[<- hW0.out]
  refine wpIn_rangeFunc_told (F:=Fence.wide) (β:=Nat) rfl (by decide) (gf:=56) rfl trivial (enters_of Try.func56 (by kernel_rfl) rfl)
    (qblocks1_seq k A0 c0 l0 t1 t2 t3 bl (w.heap.size+1+1+1) w1 hC1 HC0.out (by have:=hs1.out;omega) (by simpa using B0.out) (by simpa using B1.out) (by simpa using B2.out) (by simpa using B3.out) HBL.out) (fun h k=>Below.trans h k) (fun W l o o' hl hh hc hw=>belowK_b (w:=W0) hbW0.out.size W l o o' hl hh hc hw) hbW0.out (fun _=>rfl)
    (post_Take.Held k bl (r1,r2,r3) w1 w1.heap.size) (post_Take.Bad (r1,r2,r3) w) (post_Take.held_own k bl _ w1 _ _ (by have:=hW0s.out;omega)) (fun c=>post_Take.bad_own _ w c _ (by have:=hW0s.out;have:=hs1.out;omega))
    ⟨⟨[],t2,_,⟨fun _=>HH.out⟩,hl0,Kd.R_nil _ _ _ _ _,he0,by have:=hW0s.out;omega⟩,hbW0.out⟩
    (fun x B a'=>a'={tmps:= #[Value.slice A0 l0.length c0,undef,Value.pointer (some {block:=w.heap.size,off:=0}),Value.pointer (some {block:=w.heap.size+1,off:=0}),Value.pointer (some {block:=w.heap.size+1+1,off:=0}),Value.pointer (some {block:=w1.heap.size,off:=0}),Value.func (Fn.func 56) #[] #[Value.pointer (some {block:=w.heap.size+1+1+1+3,off:=0}),Value.pointer (some {block:=w.heap.size+1+1+1+1,off:=0}),Value.pointer (some {block:=w.heap.size+1+1+1+2,off:=0}),Value.pointer (some {block:=w.heap.size+1+1+1,off:=0})],Value.pointer (some {block:=w1.heap.size+1,off:=0}),Value.pointer (some {block:=B,off:=0}),undef,undef,Value.tuple #[Value.int IntKind.i64 t2,Value.func (Fn.func 56) #[] #[Value.pointer (some {block:=w.heap.size+1+1+1+3,off:=0}),Value.pointer (some {block:=w.heap.size+1+1+1+1,off:=0}),Value.pointer (some {block:=w.heap.size+1+1+1+2,off:=0}),Value.pointer (some {block:=w.heap.size+1+1+1,off:=0})]],Value.slice A0 l0.length c0,Value.tuple #[Value.int IntKind.i64 t2,Value.func (Fn.func 56) #[] #[Value.pointer (some {block:=w.heap.size+1+1+1+3,off:=0}),Value.pointer (some {block:=w.heap.size+1+1+1+1,off:=0}),Value.pointer (some {block:=w.heap.size+1+1+1+2,off:=0}),Value.pointer (some {block:=w.heap.size+1+1+1,off:=0})]],Value.int IntKind.i64 t2,Value.func (Fn.func 56) #[] #[Value.pointer (some {block:=w.heap.size+1+1+1+3,off:=0}),Value.pointer (some {block:=w.heap.size+1+1+1+1,off:=0}),Value.pointer (some {block:=w.heap.size+1+1+1+2,off:=0}),Value.pointer (some {block:=w.heap.size+1+1+1,off:=0})],Value.func (Fn.func 56) #[] #[Value.pointer (some {block:=w.heap.size+1+1+1+3,off:=0}),Value.pointer (some {block:=w.heap.size+1+1+1+1,off:=0}),Value.pointer (some {block:=w.heap.size+1+1+1+2,off:=0}),Value.pointer (some {block:=w.heap.size+1+1+1,off:=0})],(Value.agg #[.int .i64 x.1.1,.int .i64 x.1.2.1,.int .i64 x.1.2.2.1,.slice x.2.1 x.1.2.2.2.1.length x.2.2,.int .i64 x.1.2.2.2.2]),undef,undef,undef,undef,undef,undef,undef,undef,undef,undef,undef,undef,undef,undef,undef,undef,undef,undef,undef],defers:=[]})
    (QAx bl (w1.heap.size+2)) (fun pre x=>qax_own bl _ pre x _) ?assign ?body ?done ?stop
  case assign=>
    intro l pre x W K hI hN hK
    dsimp only[qencB]
    gi_wp2
    have hz:=hI.2.size
    have hb:Below W.heap.size W (W.alloc (Obj.cells #[Value.int IntKind.i64 x.1.1,Value.int IntKind.i64 x.1.2.1,Value.int IntKind.i64 x.1.2.2.1,Value.slice x.2.1 x.1.2.2.2.1.length x.2.2,Value.int IntKind.i64 x.1.2.2.2.2] 65)):=pbA_ (Below.refl _ _) _
    obtain⟨⟨_,_,_,_,_,_,_,hz2⟩,_⟩:=id hI
    exact hK W.heap.size _ _ rfl ⟨hb.size,fun k o hk _=>(hb.block k (Array.getElem?_eq_some_iff.1 hk).1).trans hk⟩ (hb.mono hz) ((post_Take.held_own k bl _ w1 _ _ (Nat.le_refl _)).alloc _ hI) ⟨⟨hz2,hN.1,hN.2.1,hN.2.2.2⟩,World.alloc_heap_new W _,Kd.cA_ hN.2.2.1 _⟩
  case body=>
    rintro l pre ⟨⟨x1,x2,x3,x4,x5⟩,Ab,cb⟩ B a' W rfl ⟨⟨lst,e,v,hp,hv,hR,he,hz⟩,hB⟩ ⟨hq,hbk,hC⟩
    obtain⟨hnB,hx,hpre,hcb⟩:=hq.out
    dsimp only at hx hcb hbk hC
    obtain⟨hxl,hxe⟩:=List.getElem?_eq_some_iff.1 hx
    have hd:bl.drop pre.length=(x1,x2,x3,x4,x5) :: bl.drop (pre.length+1):=by rw[List.drop_eq_getElem_cons hxl,hxe]
    have hr:=hp.out hpre
    rw[hd,post_Take.l0]at hr
    obtain⟨⟨u1,u2⟩,hu,hr⟩:=Option.bind_eq_some_iff.1 hr
    dsimp only at hu hr
    have HX:=Aside0.mk hx
    have HPRE:=Aside0.mk hpre
    have HU:=Aside0.mk hu
    have HRR:=Aside0.mk hr
    have HV:=Aside0.mk hv
    have HR:=Aside0.mk hR
    have HE:=Aside0.mk he
    have HZ:=Aside0.mk hz
    have HBB:=Aside0.mk hB
    have HBK:=Aside0.mk hbk
    have HC:=Aside0.mk hC
    have HCB:=Aside0.mk hcb
    have hcz0:W.cell? ⟨B,0,none⟩=some (.int .i64 x1):=(blk_cell hbk 0).trans rfl
    have hcz1:W.cell? ⟨B,1,none⟩=some (.int .i64 x2):=(blk_cell hbk 1).trans rfl
    have hcz2:W.cell? ⟨B,2,none⟩=some (.int .i64 x3):=(blk_cell hbk 2).trans rfl
    have hcz3:W.cell? ⟨B,3,none⟩=some (.slice Ab x4.length cb):=(blk_cell hbk 3).trans rfl
    have hcz4:W.cell? ⟨B,4,none⟩=some (.int .i64 x5):=(blk_cell hbk 4).trans rfl
    clear hx hpre hu hr hv hR he hz hB hbk hC hcb hp hd hxe hxl
    have HCALL:=Aside0.mk (post_unpack.calls k x1 x2 x3 Ab cb x4 x5 u1 u2 W HC.out HCB.out HU.out)
    have hwm:=hs1.out
    have HQ0:Aside0 (Boxed W w.heap.size 23 (.slice none 0 0)):=⟨(HBB.out.block _ (by omega)).trans ((HB1.out.block _ (by simp;omega)).trans (((Boxed.new w _ _).alloc _).alloc _))⟩
    have HQ1 : Aside0 (Boxed W (w.heap.size + 1) 3 (.int .i64 0)) := ⟨(HBB.out.block _ (by omega)).trans ((HB1.out.block _ (by simp)).trans (by
      have h_:=(Boxed.new (w.alloc (.cells #[.slice none 0 0] 23)) 3 (.int .i64 0)).alloc (.cells #[.int .i64 0] 28)
      rw[World.size_alloc]at h_
      exact h_))⟩
    have HQ2 : Aside0 (Boxed W (w.heap.size + 1 + 1) 28 (.int .i64 0)) := ⟨(HBB.out.block _ (by omega)).trans ((HB1.out.block _ (by simp)).trans (by
      have h_:=Boxed.new ((w.alloc (.cells #[.slice none 0 0] 23)).alloc (.cells #[.int .i64 0] 3)) 28 (.int .i64 0)
      rw[World.size_alloc,World.size_alloc]at h_
      exact h_))⟩
    clear hwm
    by_cases hx1:x1=0
    . subst hx1
      gi_wp2_with (first|(refine⟨trivial,?_⟩;gi_at_call 35;(with_reducible refine(CallsIn.inRound l (callsIn_wide.2 HCALL.out)).mono ?_);rintro e2 w2 ⟨v2,rfl,hS2,hB2⟩;have HS2:=Aside0.mk hS2;have HB2:=Aside0.mk hB2;have BK2:=Aside0.mk (blk_below HBK.out hB2);have hcz0:w2.cell? ⟨B,0,none⟩=some (.int .i64 0):=(blk_cell BK2.out 0).trans rfl;have hcz4:w2.cell? ⟨B,4,none⟩=some (.int .i64 x5):=(blk_cell BK2.out 4).trans rfl;have q0:Boxed w2 w.heap.size 23 (.slice none 0 0):=(hB2.block _ HQ0.out.lt).trans HQ0.out;have q1:Boxed w2 (w.heap.size+1) 3 (.int .i64 0):=(hB2.block _ HQ1.out.lt).trans HQ1.out;have q2:Boxed w2 (w.heap.size+1+1) 28 (.int .i64 0):=(hB2.block _ HQ2.out.lt).trans HQ2.out;have q0c:=q0.cell;have q0f:=q0.frozen;have q1a:=q1.other (show w.heap.size+1≠w.heap.size by omega) (.slice none 0 0);have q1c:=q1a.cell;have q1f:=q1a.frozen;have q2a:=(q2.other (show w.heap.size+1+1≠w.heap.size by omega) (.slice none 0 0)).other (show w.heap.size+1+1≠w.heap.size+1 by omega) (.int .i64 0);have q2c:=q2a.cell;have q2f:=q2a.frozen;have HQA:=Aside0.mk q0;have HQB:=Aside0.mk q1a;have HQC:=Aside0.mk q2a;clear hS2 hB2 q0 q1 q2 q1a q2a)|fail)
      have hr2:=HRR.out
      rw[if_pos (Or.inl (by first|rfl|trivial))]at hr2
      have hB2:=HB2.out
      have hwm:=hs1.out
      refine⟨((⟨hB2.size,fun k o hk _=>(hB2.block k (Array.getElem?_eq_some_iff.1 hk).1).trans hk⟩:KeepsOthers W w2).trans (KeepsOthers.setCell _ _ _)).trans ((KeepsOthers.setCell _ _ _).trans (KeepsOthers.setCell _ _ _)),⟨⟨rfl,(Option.some.inj hr2).symm⟩,?_,?_,?_⟩,?_⟩
      . exact((HQA.out.set (.slice none 0 0)).other (by omega) (.int .i64 0)).other (by omega) (.int .i64 2)
      . exact(HQB.out.set (.int .i64 0)).other (by omega) (.int .i64 2)
      . exact HQC.out.set (.int .i64 2)
      . have h0:Below w.heap.size w w2:=(hbw1.out.trans (HBB.out.mono (by omega))).trans (hB2.mono (by have:=HBB.out.size;omega))
        exact((h0.setCell (p:=⟨w.heap.size,0,none⟩) (Nat.le_refl _) (.slice none 0 0)).setCell (p:=⟨w.heap.size+1,0,none⟩) (by simp) (.int .i64 0)).setCell (p:=⟨w.heap.size+1+1,0,none⟩) (by simp;omega) (.int .i64 2)
    . cases u2 with
      |false=>
        gi_wp2_with (first|(refine⟨trivial,?_⟩;gi_at_call 35;(with_reducible refine(CallsIn.inRound l (callsIn_wide.2 HCALL.out)).mono ?_);rintro e2 w2 ⟨v2,rfl,hS2,hB2⟩;have HS2:=Aside0.mk hS2;have HB2:=Aside0.mk hB2;have BK2:=Aside0.mk (blk_below HBK.out hB2);have hcz0:w2.cell? ⟨B,0,none⟩=some (.int .i64 x1):=(blk_cell BK2.out 0).trans rfl;have hcz4:w2.cell? ⟨B,4,none⟩=some (.int .i64 x5):=(blk_cell BK2.out 4).trans rfl;have q0:Boxed w2 w.heap.size 23 (.slice none 0 0):=(hB2.block _ HQ0.out.lt).trans HQ0.out;have q1:Boxed w2 (w.heap.size+1) 3 (.int .i64 0):=(hB2.block _ HQ1.out.lt).trans HQ1.out;have q2:Boxed w2 (w.heap.size+1+1) 28 (.int .i64 0):=(hB2.block _ HQ2.out.lt).trans HQ2.out;have q0c:=q0.cell;have q0f:=q0.frozen;have q1a:=q1.other (show w.heap.size+1≠w.heap.size by omega) (.slice none 0 0);have q1c:=q1a.cell;have q1f:=q1a.frozen;have q2a:=(q2.other (show w.heap.size+1+1≠w.heap.size by omega) (.slice none 0 0)).other (show w.heap.size+1+1≠w.heap.size+1 by omega) (.int .i64 0);have q2c:=q2a.cell;have q2f:=q2a.frozen;have HQA:=Aside0.mk q0;have HQB:=Aside0.mk q1a;have HQC:=Aside0.mk q2a;clear hS2 hB2 q0 q1 q2 q1a q2a)|fail)
        have hr2:=HRR.out
        rw[if_pos (Or.inr (by first|rfl|trivial))]at hr2
        have hB2:=HB2.out
        have hwm:=hs1.out
        refine⟨((⟨hB2.size,fun k o hk _=>(hB2.block k (Array.getElem?_eq_some_iff.1 hk).1).trans hk⟩:KeepsOthers W w2).trans (KeepsOthers.setCell _ _ _)).trans ((KeepsOthers.setCell _ _ _).trans (KeepsOthers.setCell _ _ _)),⟨⟨rfl,(Option.some.inj hr2).symm⟩,?_,?_,?_⟩,?_⟩
        . exact((HQA.out.set (.slice none 0 0)).other (by omega) (.int .i64 0)).other (by omega) (.int .i64 2)
        . exact(HQB.out.set (.int .i64 0)).other (by omega) (.int .i64 2)
        . exact HQC.out.set (.int .i64 2)
        . have h0:Below w.heap.size w w2:=(hbw1.out.trans (HBB.out.mono (by omega))).trans (hB2.mono (by have:=HBB.out.size;omega))
          exact((h0.setCell (p:=⟨w.heap.size,0,none⟩) (Nat.le_refl _) (.slice none 0 0)).setCell (p:=⟨w.heap.size+1,0,none⟩) (by simp) (.int .i64 0)).setCell (p:=⟨w.heap.size+1+1,0,none⟩) (by simp;omega) (.int .i64 2)
      |true=>
        gi_wp2_with (first|(refine⟨trivial,?_⟩;gi_at_call 35;(with_reducible refine(CallsIn.inRound l (callsIn_wide.2 HCALL.out)).mono ?_);rintro e2 w2 ⟨v2,rfl,hS2,hB2⟩;have HS2:=Aside0.mk hS2;have HB2:=Aside0.mk hB2;have BK2:=Aside0.mk (blk_below HBK.out hB2);have hcz0:w2.cell? ⟨B,0,none⟩=some (.int .i64 x1):=(blk_cell BK2.out 0).trans rfl;have hcz4:w2.cell? ⟨B,4,none⟩=some (.int .i64 x5):=(blk_cell BK2.out 4).trans rfl;have q0:Boxed w2 w.heap.size 23 (.slice none 0 0):=(hB2.block _ HQ0.out.lt).trans HQ0.out;have q1:Boxed w2 (w.heap.size+1) 3 (.int .i64 0):=(hB2.block _ HQ1.out.lt).trans HQ1.out;have q2:Boxed w2 (w.heap.size+1+1) 28 (.int .i64 0):=(hB2.block _ HQ2.out.lt).trans HQ2.out;have q0c:=q0.cell;have q0f:=q0.frozen;have q1a:=q1.other (show w.heap.size+1≠w.heap.size by omega) (.slice none 0 0);have q1c:=q1a.cell;have q1f:=q1a.frozen;have q2a:=(q2.other (show w.heap.size+1+1≠w.heap.size by omega) (.slice none 0 0)).other (show w.heap.size+1+1≠w.heap.size+1 by omega) (.int .i64 0);have q2c:=q2a.cell;have q2f:=q2a.frozen;have HQA:=Aside0.mk q0;have HQB:=Aside0.mk q1a;have HQC:=Aside0.mk q2a;clear hS2 hB2 q0 q1 q2 q1a q2a)|fail)
        have hr2:=HRR.out
        rw[if_neg (by rintro(h_|h_)<;>first|exact hx1 h_|cases h_|exact h_)]at hr2
        by_cases hlim:lst.length+u1.length<=1000000
        case neg=>rw[if_neg hlim]at hr2;cases hr2
        rw[if_pos hlim]at hr2
        have HR2:=Aside0.mk hr2
        have HLIM:=Aside0.mk hlim
        clear hr2 hlim q0c q0f q1c q1f q2c q2f
        refine wpIn_calm2 ?_
        have hbl:Aside0 (Boxed w2 (w1.heap.size+1) 23 v):=⟨(HB2.out.block _ HV.out.lt).trans HV.out⟩
        have hbe:Aside0 (Boxed w2 w1.heap.size 3 (.int .i64 e)):=⟨(HB2.out.block _ HE.out.lt).trans HE.out⟩
        have hRl:Aside0 (Kd.R k37 37 w2 (w1.heap.size+2) (fun _=>True) v lst):=⟨Kd.R_below HR.out HB2.out⟩
        refine start_in (m:=7) (S:=fun w'=>w'.cell? ⟨B,4,none⟩=some (.int .i64 x5)) (ds:=[]) #[false,false,false,false,false,false,false] (by kernel_rfl) rfl rfl (by rintro⟨_,_,h_,_⟩;cases h_) (by kernel_rfl) hcz4 (fun hHeld=>?_)
        have BKd:Aside0 (w2.drew.heap[B]? =some (.cells #[.int .i64 x1,.int .i64 x2,.int .i64 x3,.slice Ab x4.length cb,.int .i64 x5] 65 (0,0))):=⟨BK2.out⟩
        have HBd:Aside0 (Below W.heap.size W w2.drew):=⟨pb1_ HB2.out⟩
        have HSd:Aside0 (Kd.S k37 37 w2.drew W.heap.size (fun _=>True) v2 u1):=⟨Kd.S_drew HS2.out⟩
        have hbld:Aside0 (Boxed w2.drew (w1.heap.size+1) 23 v):=⟨hbl.out⟩
        have hbed:Aside0 (Boxed w2.drew w1.heap.size 3 (.int .i64 e)):=⟨hbe.out⟩
        have hRd:Aside0 (Kd.R k37 37 w2.drew (w1.heap.size+2) (fun _=>True) v lst):=⟨Kd.rD_ hRl.out⟩
        clear hbl hbe hRl hcz0 hcz4 HQA HQB HQC BK2 HB2 HS2
        obtain⟨A2,c2,rfl,hc2,hrd⟩:=OwnRow.reads (Kd.R_lower (Kd.R_mono (Kd.R_bound (Kd.S_R HSd.out)) (ok':=fun k=>W.heap.size<=k) (fun k hk=>hk.2.1)) (show w1.heap.size+2<=W.heap.size from HZ.out)).2
        have HRD2:=Aside0.mk hrd
        clear hrd
        generalize w2.drew=w3 at BKd HBd HSd hbld hbed hRd HRD2 hHeld ⊢
        refine pure_ (i:=1) (N:=some 31) (v:=?_) (a':=?_) #[fF,tT,fF,fF,fF,fF,fF] rfl rfl (by kernel_rfl) (fun _ _ _ h=>by cases h.1) (Or.inl ⟨by rfl,?_⟩) ?_ ?_
        rotate_left
        . intro w'
          go_simp
          with_reducible rfl
        rotate_left
        . simp only[Act.put,List.setIfInBounds_toArray,List.set_cons_zero,List.set_cons_succ,i64_w,i32_w]
          rfl
        refine pure_ (i:=3) (N:=some 33) (v:=?_) (a':=?_) #[fF,tT,fF,tT,fF,fF,fF] rfl rfl (by kernel_rfl) (fun _ _ _ h=>by cases h.1) (Or.inl ⟨by rfl,?_⟩) ?_ ?_
        rotate_left
        . intro w'
          go_simp
          with_reducible rfl
        rotate_left
        . simp only[Act.put,List.setIfInBounds_toArray,List.set_cons_zero,List.set_cons_succ,i64_w,i32_w]
          rfl
        refine take_ (i:=4) (N:=some 34) (v:=?_) (a':=?_) #[fF,tT,fF,tT,tT,fF,fF] rfl rfl (by kernel_rfl) (fun _ _ _ h=>by cases h.1) (Or.inl ⟨by rfl,?_⟩) hHeld ?_ ?_
        rotate_left
        . rintro w' s0
          go_simp
          with_reducible rfl
        rotate_left
        . simp only[Act.put,List.setIfInBounds_toArray,List.set_cons_zero,List.set_cons_succ,i64_w,i32_w]
          rfl
        have hblc:=hbld.out.cell
        refine one_ (i:=0) (N:=some 30) #[tT,tT,fF,tT,tT,fF,fF] rfl rfl (by kernel_rfl) (by decide) (fun K hK=>?_)
        refine qvalue_ (by rfl) rfl (v:=v) (by go_simp) ?_
        refine hK _ _ hHeld (fun hHeld=>?_)
        refine norm_ (a':=?_) ?_ ?_
        rotate_left
        . show Act.put _ (some 30) _=_
          simp only[Act.put,List.setIfInBounds_toArray,List.set_cons_zero,List.set_cons_succ,i64_w,i32_w]
          rfl
        refine one_ (i:=2) (N:=some 32) #[tT,tT,tT,tT,tT,fF,fF] rfl rfl (by kernel_rfl) (by decide) (fun K hK=>?_)
        refine Kd.R_append_rows_step k37 (w0:=W) (w1.heap.size+2) (by rfl) (.tmp 30) (.tmp 31) 23 37 (.agg #[(.int .i64 0),(.slice none 0 0)]) 32 rfl Try.underlying23 info37 rfl (by decide) (by omega) v lst u1 A2 _ c2 (fun _=>True) _ rfl rfl hRd.out HRD2.out (fun _ _ h=>h) (fun k hk=>⟨trivial,fun e_=>by have h1:=Kd.R_lt HR.out k e_.symm;have h2:=hk.1;omega⟩) (fun _ _=>trivial) (HBd.out.mono HZ.out) (Nat.le_trans HZ.out HBd.out.size) (by have:=HLIM.out;omega) ?_
        intro v4 w4 ho4 hb4 hg4 hat4
        obtain⟨A4,c4,rfl⟩:=Kd.R_slice ho4
        have hTy:=Kd.R_typed hRd.out
        have hneB:some B≠v.ownBlock:=Kd.R_ne hRd.out BKd.out (by decide)
        have hneL:some (w1.heap.size+1)≠v.ownBlock:=Kd.R_ne hRd.out hbld.out (by decide)
        have hneE:some w1.heap.size≠v.ownBlock:=Kd.R_ne hRd.out hbed.out (by decide)
        have hB4:Below w1.heap.size W w4:=hb4.mono (by omega)
        have bl4:Boxed w4 (w1.heap.size+1) 23 v:=(hg4.block _ hbld.out.lt hneL).trans hbld.out
        have be4:Boxed w4 w1.heap.size 3 (.int .i64 e):=(hg4.block _ hbed.out.lt hneE).trans hbed.out
        have bk4:=(hg4.block B (blk_lt BKd.out) hneB).trans BKd.out
        have hKO : KeepsOthers w3 w4 := ⟨hg4.size, fun k o hk hc => (hg4.block k (Array.getElem?_eq_some_iff.1 hk).1 (fun e_ => by
          obtain⟨cells,hcs⟩:=hTy k e_.symm
          rw[hk]at hcs
          cases hcs
          cases hc)).trans hk⟩
        have hKW:KeepsOthers W w4:=KeepsOthers.trans ⟨HBd.out.size,fun k o hk _=>(HBd.out.block k (Array.getElem?_eq_some_iff.1 hk).1).trans hk⟩ hKO
        have hHeld4:w4.cell? ⟨B,4,none⟩=some (.int .i64 x5):=(blk_cell bk4 4).trans rfl
        refine hK _ _ hHeld4 (fun hHeld=>?_)
        refine norm_ (a':=?_) ?_ ?_
        rotate_left
        . show Act.put _ (some 32) _=_
          simp only[Act.put,List.setIfInBounds_toArray,List.set_cons_zero,List.set_cons_succ,i64_w,i32_w]
          rfl
        have bl4c:=bl4.cell
        have bl4f:=bl4.frozen
        have be4c:=be4.cell
        have be4f:=be4.frozen
        have be5:=be4.other (show w1.heap.size≠w1.heap.size+1 by omega) (.slice A4 (lst++u1).length c4)
        have be5c:=be5.cell
        have be5f:=be5.frozen
        have bk5:(w4.setCell ⟨w1.heap.size+1,0,none⟩ (.slice A4 (lst++u1).length c4)).heap[B]? =_:=(Below.heap_setCell _ _ _ _ (show B≠w1.heap.size+1 by omega)).trans bk4
        refine one_ (i:=5) (N:=none) #[tT,tT,tT,tT,tT,tT,fF] rfl rfl (by kernel_rfl) (by decide) (fun K hK=>?_)
        refine qstore_ (by rfl) rfl (w1:=w4.setCell ⟨w1.heap.size+1,0,none⟩ (.slice A4 (lst++u1).length c4)) (by go_simp) ?_
        refine hK _ _ ((blk_cell bk5 4).trans rfl) (fun hHeld=>?_)
        have bk6:((w4.setCell ⟨w1.heap.size+1,0,none⟩ (.slice A4 (lst++u1).length c4)).setCell ⟨w1.heap.size,0,none⟩ (.int .i64 x5)).heap[B]? =_:=(Below.heap_setCell _ _ _ _ (show B≠w1.heap.size by omega)).trans bk5
        refine one_ (i:=6) (N:=none) #[tT,tT,tT,tT,tT,tT,tT] rfl rfl (by kernel_rfl) (by decide) (fun K hK=>?_)
        refine qstore_ (by rfl) rfl (w1:=(w4.setCell ⟨w1.heap.size+1,0,none⟩ (.slice A4 (lst++u1).length c4)).setCell ⟨w1.heap.size,0,none⟩ (.int .i64 x5)) (by go_simp) ?_
        refine hK _ _ ((blk_cell bk6 4).trans rfl) (fun hHeld=>?_)
        refine done_ (by kernel_rfl) ⟨rfl,?_⟩
        have hB6:Below w1.heap.size W ((w4.setCell ⟨w1.heap.size+1,0,none⟩ (.slice A4 (lst++u1).length c4)).setCell ⟨w1.heap.size,0,none⟩ (.int .i64 x5)):=(hB4.setCell (p:=⟨w1.heap.size+1,0,none⟩) (by simp) (.slice A4 (lst++u1).length c4)).setCell (p:=⟨w1.heap.size,0,none⟩) (Nat.le_refl _) (.int .i64 x5)
        have hz4:w1.heap.size+2<=w4.heap.size:=by have h1:=HZ.out;have h2:=hb4.size;omega
        refine⟨hKW.trans ((KeepsOthers.setCell _ _ _).trans (KeepsOthers.setCell _ _ _)),hB6,⟨lst++u1,x5,_,⟨fun _=>?_⟩,(bl4.set (.slice A4 (lst++u1).length c4)).other (show w1.heap.size+1≠w1.heap.size by omega) (.int .i64 x5),?_,be5.set (.int .i64 x5),by simpa using hz4⟩,HBB.out.trans hB6⟩
        . rw[List.length_append,List.length_singleton]
          exact HR2.out
        . refine Kd.R_mono (Kd.R_far (Kd.R_far (Kd.R_bound ho4) (p:=⟨w1.heap.size+1,0,none⟩) (fun k hk=>by have:=hk.2.1;simp;omega) (.slice A4 (lst++u1).length c4)) (p:=⟨w1.heap.size,0,none⟩) (fun k hk=>by have:=hk.2.1;simp;omega) (.int .i64 x5)) (fun _ _=>trivial)
  case done=>
    rintro D xs W hD hS ⟨⟨l,e,v,hp,hv,hR,he,hz⟩,hB⟩ hK
    have hlen:xs.length=bl.length:=by rw[<- hS];simp
    have hr:=hp.out (by rw[hlen,hS,List.take_length])
    rw[hlen,List.drop_length,post_Take.l0]at hr
    simp only[Option.some.injEq,Prod.mk.injEq]at hr
    obtain⟨rfl,rfl,rfl⟩:=hr
    obtain⟨Al,cl,rfl⟩:=Kd.R_slice hR
    have hec:=he.cell
    have hvc:=hv.cell
    have hwn:=hW0s.out
    have hwm:=hs1.out
    have q0:Boxed W w.heap.size 23 (.slice none 0 0):=(hB.block _ (by omega)).trans ((HB1.out.block _ (by simp;omega)).trans (((Boxed.new w _ _).alloc _).alloc _))
    have q1 : Boxed W (w.heap.size + 1) 3 (.int .i64 0) := (hB.block _ (by omega)).trans ((HB1.out.block _ (by simp)).trans (by
      have h_:=(Boxed.new (w.alloc (.cells #[.slice none 0 0] 23)) 3 (.int .i64 0)).alloc (.cells #[.int .i64 0] 28)
      rw[World.size_alloc]at h_
      exact h_))
    have q2 : Boxed W (w.heap.size + 1 + 1) 28 (.int .i64 0) := (hB.block _ (by omega)).trans ((HB1.out.block _ (by simp)).trans (by
      have h_:=Boxed.new ((w.alloc (.cells #[.slice none 0 0] 23)).alloc (.cells #[.int .i64 0] 3)) 28 (.int .i64 0)
      rw[World.size_alloc,World.size_alloc]at h_
      exact h_))
    have HQ0:=Aside0.mk q0
    have HQ1:=Aside0.mk q1
    have HQ2:=Aside0.mk q2
    have HRl:=Aside0.mk hR
    have HBl:=Aside0.mk hB
    have HE:=Aside0.mk he
    have HV:=Aside0.mk hv
    have HK:=Aside0.mk hK
    clear q0 q1 q2 hR hB he hv hK hp hS hlen hz hec hvc hwn hwm
    gi_wp2
    refine wpIn_calm ?_
    refine wpIn_wide.2 ?_
    refine start_ (n:=5) (S:=fun w'=>w'.cell? ⟨w1.heap.size+1,0,none⟩=some (.slice Al l.length cl)∧w'.cell? ⟨w1.heap.size,0,none⟩=some (.int .i64 e)) (ds:=[]) #[false,false,false,false,false] (by kernel_rfl) rfl rfl ⟨HV.out.cell,HE.out.cell⟩ (fun hHeld=>?_)
    refine take_ (i:=0) (N:=some 35) (v:=?_) (a':=?_) #[true,false,false,false,false] rfl rfl (by kernel_rfl) (fun _ _ _ h=>by cases h.1) (Or.inl ⟨by rfl,?_⟩) hHeld ?_ ?_
    rotate_left
    . rintro w' ⟨s0,s1⟩
      go_simp
      with_reducible rfl
    rotate_left
    . simp only[Act.put,List.setIfInBounds_toArray,List.set_cons_zero,List.set_cons_succ,i64_w,i32_w]
      rfl
    refine take_ (i:=1) (N:=some 36) (v:=?_) (a':=?_) #[true,true,false,false,false] rfl rfl (by kernel_rfl) (fun _ _ _ h=>by cases h.1) (Or.inl ⟨by rfl,?_⟩) hHeld ?_ ?_
    rotate_left
    . rintro w' ⟨s0,s1⟩
      go_simp
      with_reducible rfl
    rotate_left
    . simp only[Act.put,List.setIfInBounds_toArray,List.set_cons_zero,List.set_cons_succ,i64_w,i32_w]
      rfl
    have p0:Boxed W.drew w.heap.size 23 (.slice none 0 0):=HQ0.out
    have p1:Boxed W.drew (w.heap.size+1) 3 (.int .i64 0):=HQ1.out
    have p2:Boxed W.drew (w.heap.size+1+1) 28 (.int .i64 0):=HQ2.out
    have HRd:Aside0 (Kd.R k37 37 W.drew (w1.heap.size+2) (fun _=>True) (.slice Al l.length cl) l):=⟨HRl.out⟩
    have HBd:Aside0 (Below w1.heap.size w1 W.drew):=⟨pb1_ HBl.out⟩
    have HKd:Aside0 (W.drew.heap[D]? =some (.deferred (some []))):=⟨HK.out⟩
    have HEd:Aside0 (Boxed W.drew w1.heap.size 3 (.int .i64 e)):=⟨HE.out⟩
    have HVd:Aside0 (Boxed W.drew (w1.heap.size+1) 23 (.slice Al l.length cl)):=⟨HV.out⟩
    clear HQ0 HQ1 HQ2 HRl HBl HK HE HV
    generalize W.drew=Wd at p0 p1 p2 HRd HBd HKd HEd HVd hHeld ⊢
    have p0c:=p0.cell
    have p0f:=p0.frozen
    have hwm:=hs1.out
    have v1:=(HVd.out.other (show w1.heap.size+1≠w.heap.size by omega) (.slice Al l.length cl))
    have e1:=(HEd.out.other (show w1.heap.size≠w.heap.size by omega) (.slice Al l.length cl))
    have v2:=(v1.other (show w1.heap.size+1≠w.heap.size+1 by omega) (.int .i64 e))
    have e2:=(e1.other (show w1.heap.size≠w.heap.size+1 by omega) (.int .i64 e))
    have V1:=Aside0.mk v1
    have E1:=Aside0.mk e1
    have V2:=Aside0.mk v2
    have E2:=Aside0.mk e2
    clear v1 e1 v2 e2 hwm
    refine one_ (i:=2) (N:=none) #[true,true,true,false,false] rfl rfl (by kernel_rfl) (by decide) (fun K hK=>?_)
    refine qstore_ (by rfl) rfl (w1:=Wd.setCell ⟨w.heap.size,0,none⟩ (.slice Al l.length cl)) (by go_simp) ?_
    refine hK _ _ ⟨V1.out.cell,E1.out.cell⟩ (fun hHeld=>?_)
    have p1a:=p1.other (show w.heap.size+1≠w.heap.size by omega) (.slice Al l.length cl)
    have p1c:=p1a.cell
    have p1f:=p1a.frozen
    have P1:=Aside0.mk p1a
    clear p1a
    refine one_ (i:=3) (N:=none) #[true,true,true,true,false] rfl rfl (by kernel_rfl) (by decide) (fun K hK=>?_)
    refine qstore_ (by rfl) rfl (w1:=(Wd.setCell ⟨w.heap.size,0,none⟩ (.slice Al l.length cl)).setCell ⟨w.heap.size+1,0,none⟩ (.int .i64 e)) (by go_simp) ?_
    refine hK _ _ ⟨V2.out.cell,E2.out.cell⟩ (fun hHeld=>?_)
    have p2a:=(p2.other (show w.heap.size+1+1≠w.heap.size by omega) (.slice Al l.length cl)).other (show w.heap.size+1+1≠w.heap.size+1 by omega) (.int .i64 e)
    have p2c:=p2a.cell
    have p2f:=p2a.frozen
    have P2:=Aside0.mk p2a
    clear p2a
    have hwm:=hs1.out
    have V3:=Aside0.mk (V2.out.other (show w1.heap.size+1≠w.heap.size+1+1 by omega) (.int .i64 0))
    have E3:=Aside0.mk (E2.out.other (show w1.heap.size≠w.heap.size+1+1 by omega) (.int .i64 0))
    clear hwm
    refine one_ (i:=4) (N:=none) #[true,true,true,true,true] rfl rfl (by kernel_rfl) (by decide) (fun K hK=>?_)
    refine qstore_ (by rfl) rfl (w1:=((Wd.setCell ⟨w.heap.size,0,none⟩ (.slice Al l.length cl)).setCell ⟨w.heap.size+1,0,none⟩ (.int .i64 e)).setCell ⟨w.heap.size+1+1,0,none⟩ (.int .i64 0)) (by go_simp) ?_
    refine hK _ _ ⟨V3.out.cell,E3.out.cell⟩ (fun hHeld=>?_)
    refine done_ (by kernel_rfl) ⟨rfl,?_⟩
    gi_wp2
    have hwn:=hW0s.out
    have hwm:=hs1.out
    have hDn:W0.heap.size<=D:=hD
    have g0:=((p0.set (.slice Al l.length cl)).other (show w.heap.size≠w.heap.size+1 by omega) (.int .i64 e)).other (show w.heap.size≠w.heap.size+1+1 by omega) (.int .i64 0)
    have g1:=(P1.out.set (.int .i64 e)).other (show w.heap.size+1≠w.heap.size+1+1 by omega) (.int .i64 0)
    have g2:=P2.out.set (.int .i64 0)
    have hRb:=Kd.R_bound HRd.out
    have hR3:=Kd.R_far (p:=⟨w.heap.size+1+1,0,none⟩) (Kd.R_far (p:=⟨w.heap.size+1,0,none⟩) (Kd.R_far (p:=⟨w.heap.size,0,none⟩) hRb (fun k hk=>by have:=hk.2.1;simp;omega) (.slice Al l.length cl)) (fun k hk=>by have:=hk.2.1;simp;omega) (.int .i64 e)) (fun k hk=>by have:=hk.2.1;simp;omega) (.int .i64 0)
    have hB3:=(((hbw1.out.trans (HBd.out.mono (by omega))).setCell (p:=⟨w.heap.size,0,none⟩) (Nat.le_refl _) (.slice Al l.length cl)).setCell (p:=⟨w.heap.size+1,0,none⟩) (by simp) (.int .i64 e)).setCell (p:=⟨w.heap.size+1+1,0,none⟩) (by simp;omega) (.int .i64 0)
    have hKd:(((Wd.setCell ⟨w.heap.size,0,none⟩ (.slice Al l.length cl)).setCell ⟨w.heap.size+1,0,none⟩ (.int .i64 e)).setCell ⟨w.heap.size+1+1,0,none⟩ (.int .i64 0)).heap[D]? =some (.deferred (some [])):=
      (Below.heap_setCell _ _ _ _ (show D≠w.heap.size+1+1 by omega)).trans ((Below.heap_setCell _ _ _ _ (show D≠w.heap.size+1 by omega)).trans ((Below.heap_setCell _ _ _ _ (show D≠w.heap.size by omega)).trans HKd.out))
    generalize ((Wd.setCell ⟨w.heap.size,0,none⟩ (.slice Al l.length cl)).setCell ⟨w.heap.size+1,0,none⟩ (.int .i64 e)).setCell ⟨w.heap.size+1+1,0,none⟩ (.int .i64 0)=W2 at g0 g1 g2 hR3 hB3 hKd ⊢
    refine⟨by simp,.inl ⟨_,_,rfl,run_takeDeferred hKd,?_⟩⟩
    have f1:∀ o,(W2.putObj D o).cell? ⟨w.heap.size,0,none⟩=some (.slice Al l.length cl):=fun o=>Boxed.cell (t:=23) ((World.putObj_heap_other (by omega)).trans g0)
    have f2:∀ o,(W2.putObj D o).cell? ⟨w.heap.size+1,0,none⟩=some (.int .i64 e):=fun o=>Boxed.cell (t:=3) ((World.putObj_heap_other (by omega)).trans g1)
    have f3:∀ o,(W2.putObj D o).cell? ⟨w.heap.size+1+1,0,none⟩=some (.int .i64 0):=fun o=>Boxed.cell (t:=28) ((World.putObj_heap_other (by omega)).trans g2)
    refine⟨.tuple #[.slice Al l.length cl,.int .i64 e,.int .i64 0],by simp[results,Try.results22,go_sem,f1,f2,f3],_,rfl,?_,?_⟩
    . exact Kd.R_N (Kd.R_mono (Kd.R_lower (Kd.R_step hR3 (fun k hk _ => World.putObj_heap_other (by
        rintro rfl
        obtain⟨_,_,_,q,_,cells,hc⟩:=hk
        rw[HKd.out]at hc
        cases hc))) (by omega)) (fun k hk => by have := hk.2.1; omega))
    . exact hB3.trans (belowK_b (w:=w) (Nat.le_refl _) W2 D _ _ (by omega) hKd rfl rfl)
  case stop=>
    rintro D c pre W hD _ ⟨⟨hp,h1,h2,h3⟩,hB⟩ hK
    obtain⟨rfl,hr⟩:=hp.out
    simp only[Prod.mk.injEq]at hr
    obtain⟨rfl,rfl,rfl⟩:=hr
    have hDn:W0.heap.size<=D:=hD
    have hwn:=hW0s.out
    have hwm:=hs1.out
    have f1:∀ o,(W.putObj D o).cell? ⟨w.heap.size,0,none⟩=some (.slice none 0 0):=fun o=>Boxed.cell (t:=23) ((World.putObj_heap_other (by omega)).trans h1)
    have f2:∀ o,(W.putObj D o).cell? ⟨w.heap.size+1,0,none⟩=some (.int .i64 0):=fun o=>Boxed.cell (t:=3) ((World.putObj_heap_other (by omega)).trans h2)
    have f3:∀ o,(W.putObj D o).cell? ⟨w.heap.size+2,0,none⟩=some (.int .i64 2):=fun o=>Boxed.cell (t:=28) ((World.putObj_heap_other (by omega)).trans h3)
    gi_wp2
    refine⟨by simp,.inl ⟨_,_,rfl,run_takeDeferred hK,?_⟩⟩
    refine⟨.tuple #[.slice none 0 0,.int .i64 0,.int .i64 2],by simp[results,Try.results22,go_sem,f1,f2,f3],_,rfl,?_,?_⟩
    . exact Kd.N_nil _ _ _ _ _
    . exact hB.trans (belowK_b (w:=w) (Nat.le_refl _) W D _ _ (by omega) hK rfl rfl)
end
end Go.Proofs.Ytooeclfeallkkaa.P
end
section
namespace Go.Proofs.Ytooeclfeallkkaa.P
open Go.RowKit Go.Proofs.YtooeclfeallkkaaW.PrintWords Go.Proofs.YtooeclfeallkkaaW.PrintLast Go.Proofs.YtooeclfeallkkaaW.PrintMore
attribute [local go_sem] max2_int min2_int max_two min_two max_three min_three max_four min_four
set_option linter.unusedVariables false
set_option linter.unusedSimpArgs false
section
def qfind (l:List S37) (doc:Int):Nat:=l.findIdx fun p=>decide (doc<=p.f0)
theorem qfind_in {l:List S37} {doc:Int} {i:Nat} (h:i=qfind l doc) (hi:i < l.length):doc<=(l[i]'hi).f0:=by
 subst h
 have:=List.findIdx_getElem (w:=hi)
 simp at this
 exact this
theorem qseek1 (B:Nat) (d:Int) (A:Option Addr) (n c:Nat) (doc:Int) (w:World) (hB:w.cell? ⟨B,0,none⟩=some (.int .i64 doc)):
  Calls Try.prog 37 #[.agg #[.int .i64 d,.slice A n c],.pointer (some ⟨B,0,none⟩)] w fun e w'=>e= .returned (.bool (decide (d≥doc)))∧Below w.heap.size w w':=by
 have hBa:∀ o,(w.alloc o).cell? ⟨B,0,none⟩=some (.int .i64 doc):=fun o=>(((Below.refl w.heap.size w).alloc (Nat.le_refl _) o).cell (p:=⟨B,0,none⟩) (World.block_lt_of_cell? _ _ hB)).trans hB
 have hb:∀ o,Below w.heap.size w (w.alloc o):=fun o=>(Below.refl w.heap.size w).alloc (Nat.le_refl _) o
 have HBL:=Aside0.mk hb
 clear hb
 go_enter Try.func37,Try.ntmps37
 go_wp2
 go_ret
 exact⟨by simp,HBL.out _⟩
theorem qfind_lt {l:List S37} {doc:Int} {i:Nat} (hi:i < l.length) (h:∀ j,j < i->(hj:j < l.length)->(l[j]'hj).f0 < doc) (hd:doc<=(l[i]'hi).f0):qfind l doc=i:=by
 unfold qfind
 rw[List.findIdx_eq hi]
 exact⟨by simpa using hd,fun j hj=>by simpa using h j hj (by omega)⟩
theorem qfind_no {l:List S37} {doc:Int} (h:∀ j (hj:j < l.length),(l[j]'hj).f0 < doc):qfind l doc=l.length:=by
 unfold qfind
 apply List.findIdx_eq_length_of_false
 intro x hx
 obtain⟨j,hj,rfl⟩:=List.mem_iff_getElem.1 hx
 simpa using h j hj
theorem qseek_inc {i:Nat} (h:i < 17592186044416):wrap64 ((i:Int)+1)=((i+1:Nat):Int):=by
 unfold wrap64
 omega
theorem qseek_at {l:List S37} {i j:Nat} {s:S37} {doc:Int} (hi:i < l.length) (hs:l[i]'hi=s) (hd:s.f0 < doc) (e:j=i) (hj:j < l.length):(l[j]'hj).f0 < doc:=by
 subst e
 rw[hs]
 exact hd
theorem qseek_meas {i n:Nat} (h:i < n) (hi:i < 17592186044416):n - (intOf (Value.int IntKind.i64 (wrap64 ((i:Int)+1)))).toNat < n - (intOf (Value.int IntKind.i64 (i:Int))).toNat:=by
 rw[qseek_inc hi]
 show n - (((i+1:Nat):Int)).toNat < n - ((i:Int)).toNat
 rw[Int.toNat_natCast,Int.toNat_natCast]
 omega
set_option maxRecDepth 100000 in
set_option maxHeartbeats 4000000 in
theorem qseek_index (B:Nat) (doc:Int) (A:Option Addr) (c:Nat) (l:List S37) (w:World) (hB:w.cell? ⟨B,0,none⟩=some (.int .i64 doc))
  (hg:Kd.C k37 w A l.length l) (hcs:l.length<=c) (hm:l.length<=17592186044416) (r:Int) (hr:Aside0 (r=if qfind l doc < l.length then(qfind l doc:Int)else -1)):
  Calls Try.prog 36 #[.slice A l.length c,.func (.func 37) #[] #[.pointer (some ⟨B,0,none⟩)]] w fun e w'=>e= .returned (.int .i64 r)∧Below w.heap.size w w':=by
 have HBx:=Aside0.mk hB
 have HG:=Aside0.mk hg
 have HM:=Aside0.mk hm
 have HB:=Aside0.mk (Below.refl w.heap.size w)
 clear hB hg hm
 have hu37:=Try.underlying37
 go_enter Try.func36,Try.ntmps36
 go_wp2
 go_loopw [8] (fun v8 wr=>∃ (i:Nat),v8= .int .i64 (i:Int)∧Aside0 (∀ j,j < i->(hj:j < l.length)->(l[j]'hj).f0 < doc)∧Aside0 (i<=l.length)∧Aside0 (Below w.heap.size w wr)) (fun v8 _=>l.length - (intOf v8).toNat)
 case atStart=>exact⟨0,rfl,⟨fun j hj=>absurd hj (by omega)⟩,⟨Nat.zero_le _⟩,HB⟩
 case round=>
  obtain⟨i,rfl,HA,HI,HBr⟩:=hrel
  by_cases hlt:i < l.length
  rotate_left
  .have g:decide ((i:Int) < (l.length:Int))=false:=decide_eq_false (by omega)
   go_wp2
   go_ret
   have e1:qfind l doc=l.length:=qfind_no (fun j hj=>HA.out j (by omega) hj)
   exact⟨(show Ending.returned (.int .i64 (-1))= .returned (.int .i64 r) by rw[hr.out,e1,if_neg (by omega)]),HBr.out⟩
  have g:decide ((i:Int) < (l.length:Int))=true:=decide_eq_true (by omega)
  obtain⟨ad,A1,c1,e,hx,hx1,_,_⟩:=at_T37 (Kd.C_below HG.out HBr.out) (i:Int) (by omega) (by omega)
  subst e
  rw[Int.toNat_natCast]at hx hx1
  obtain⟨s,hs⟩:∃ s,rd_T37 l (i:Int)=s:=⟨_,rfl⟩
  have HS:Aside0 (l[i]'hlt=s):=⟨by rw[<- hs];unfold rd_T37;rw[Int.toNat_natCast,List.getD_eq_getElem?_getD,List.getElem?_eq_getElem hlt];rfl⟩
  rw[hs]at hx hx1
  clear hs
  have p:((0:Int)<=(i:Int))=True:=eq_true (by omega)
  have q:((i:Int) < (l.length:Int))=True:=eq_true (by omega)
  have q':(i < l.length)=True:=eq_true hlt
  have hBr:=Aside0.mk ((HBr.out.cell (World.block_lt_of_cell? w _ HBx.out)).trans HBx.out)
  by_cases hd:doc<=s.f0
  .have HD:=Aside0.mk hd
   clear hd
   go_wp2_with (first|(go_at_call 37;(with_reducible refine(qseek1 B s.f0 A1 s.f1.length c1 doc _ hBr.out).mono ?_);rintro e w' ⟨rfl,hb⟩;have HB2:=Aside0.mk hb;clear hb;rw[show decide (s.f0≥doc)=true from decide_eq_true HD.out]))
   go_ret
   have e1:qfind l doc=i:=qfind_lt hlt HA.out (by rw[HS.out];exact HD.out)
   exact⟨(show Ending.returned (.int .i64 (i:Int))= .returned (.int .i64 r) by rw[hr.out,e1,if_pos hlt]),HBr.out.trans (HB2.out.mono HBr.out.size)⟩
  .have HD:=Aside0.mk (Int.not_le.1 hd)
   clear hd
   have HAll:Aside0 (∀ j,j < i+1->(hj:j < l.length)->(l[j]'hj).f0 < doc):=⟨fun j hj hjl=>(Nat.lt_or_ge j i).elim (fun h1=>HA.out j h1 hjl) (fun h1=>qseek_at hlt HS.out HD.out (by omega) hjl)⟩
   go_wp2_with (first|(go_at_call 37;(with_reducible refine(qseek1 B s.f0 A1 s.f1.length c1 doc _ hBr.out).mono ?_);rintro e w' ⟨rfl,hb⟩;have HB2:=Aside0.mk hb;clear hb;rw[show decide (s.f0≥doc)=false from decide_eq_false (Int.not_le.2 HD.out)]))
   go_roundw
   case measure=>exact qseek_meas hlt (Nat.lt_of_lt_of_le hlt HM.out)
   case rel=>exact⟨i+1,by rw[qseek_inc (by have:=HM.out;omega)],HAll,⟨hlt⟩,⟨HBr.out.trans (HB2.out.mono HBr.out.size)⟩⟩
end
section
attribute [local go_sem] Oper.semAt_some
noncomputable def post_Seek.l0 (k:Nat) (doc:Int):List QB->Option (Int×List Int×Int×Int)
 |[]=>some (0,[],0,8)
 |x :: r=>if x.1=0 then some (0,[],0,2)else if x.2.2.1 < doc then post_Seek.l0 k doc r else
   (post_unpack.f k x.1 x.2.1 x.2.2.1 x.2.2.2.1 x.2.2.2.2).bind fun u=>if u.2=false then some (0,[],0,2)else if u.1.length<=1000000 then(if h:qfind u.1 doc < u.1.length then some ((u.1[qfind u.1 doc]'h).f0,(u.1[qfind u.1 doc]'h).f1,1,0)else none)else none
noncomputable def post_Seek.f (k:Nat) (b:List Int) (doc:Int):Option (Int×List Int×Int×Int):=
 (num_Take.f k b).bind fun t=>(qblocks.f k b t.1 t.2.1 t.2.2).bind fun bl=>post_Seek.l0 k doc bl
theorem post_Seek.mono_l (k:Nat) (doc:Int):∀ bl,LeO (post_Seek.l0 k doc bl) (post_Seek.l0 (k+1) doc bl)
 |[]=>LeO.refl _
 |_ :: r=>by
  rw[post_Seek.l0,post_Seek.l0]
  exact LeO.ite (LeO.refl _) (LeO.ite (post_Seek.mono_l k doc r) (LeO.bind (post_unpack.mono _ _ _ _ _ _) fun _=>LeO.refl _))
theorem post_Seek.mono:∀ a0 a1 k,LeO (post_Seek.f k a0 a1) (post_Seek.f (k+1) a0 a1):=by
 intro a0 a1 k
 unfold post_Seek.f
 exact LeO.bind (num_Take.mono _ _) fun _=>LeO.bind (qblocks.mono _ _ _ _ _) fun _=>post_Seek.mono_l _ _ _
def post_Seek.Held (k:Nat) (doc:Int) (bl:List QB) (r:Int×List Int×Int×Int) (w1:World) (pre:List QX) (W:World):Prop:=
 Aside0 (pre.map (·.1)=bl.take pre.length->post_Seek.l0 k doc (bl.drop pre.length)=some r)∧Below w1.heap.size w1 W
theorem post_Seek.held_own (k:Nat) (doc:Int) (bl:List QB) (r:Int×List Int×Int×Int) (w1:World) (B0:Nat) (h:w1.heap.size<=B0):OwnFrom B0 (post_Seek.Held k doc bl r w1):=by
 refine OwnFrom.and (Own.from ?_ _) (ownFrom_below (Nat.le_refl _) h)
 rintro s X Y row hp hg hrow
 exact hp
def post_Seek.End (r:Int×List Int×Int×Int) (w:World) (c:Code) (_pre:List QX) (W:World):Prop:=
 (∃ v:Value,Aside0 (c= .ret)∧W.heap[w.heap.size+1]? =some (.cells #[.int .i64 r.1,v] 37 (0,0))∧Kd.R (Kd.int .i64) 3 W (w.heap.size+4) (fun _=>True) v r.2.1∧Boxed W (w.heap.size+2) 3 (.int .i64 r.2.2.1)∧Boxed W (w.heap.size+3) 28 (.int .i64 r.2.2.2))∧Below w.heap.size w W
theorem post_Seek.end_own (r:Int×List Int×Int×Int) (w:World) (c:Code) (B0:Nat) (h:w.heap.size<=B0):OwnFrom B0 (post_Seek.End r w c):=by
 refine OwnFrom.and (Own.from ?_ _) (ownFrom_below (Nat.le_refl _) h)
 rintro s X Y row ⟨v,hp,hb,hR,h2,h3⟩ hg hrow
 refine⟨v,hp,(hg.block _ (Array.getElem?_eq_some_iff.1 hb).1 ?_).trans hb,qR_own hR hg hrow,boxed_own _ 3 (fun _=> .int .i64 r.2.2.1) s X Y row h2 hg hrow,boxed_own _ 28 (fun _=> .int .i64 r.2.2.2) s X Y row h3 hg hrow⟩
 intro e
 obtain⟨o,ho,hn⟩:=hrow _ e.symm
 rw[hb]at ho
 cases ho
 cases hn
theorem qseek_elem {W:World} {b c:Nat} {A:Option Addr} {ok:Nat->Prop} {xs:List S37} (h:Kd.R k37 37 W b ok (.slice A xs.length c) xs) (i:Nat) (hi:i < xs.length) (s:S37) (hs:xs[i]'hi=s):
  ∃ ad A1 c1,A=some ad∧W.cell? (ad.add (i*2))=some (.int .i64 s.f0)∧W.cell? ⟨(ad.add (i*2)).block,(ad.add (i*2)).off+1,none⟩=some (.slice A1 s.f1.length c1)∧Aside0 (Kd.R (Kd.int .i64) 3 W b ok (.slice A1 s.f1.length c1) s.f1):=by
 obtain⟨g,cap,e,_⟩:=Kd.R_form h (by omega)
 injection e with e1 e2 e3
 subst e1
 subst e3
 obtain⟨cs,hl,hM,hc,_⟩:=Kd.R_elem h z37 (i:Int) (by omega) (by omega)
 rw[Int.toNat_natCast,List.getD_eq_getElem?_getD,List.getElem?_eq_getElem hi,hs,Option.getD_some]at hM
 rw[Int.toNat_natCast]at hc
 obtain⟨v1,rfl,hR⟩:=k37_openM hM
 obtain⟨A1,c1,rfl⟩:=Kd.R_slice hR
 refine⟨_,A1,c1,rfl,?_,?_,⟨Kd.R_mono hR (fun k hk=>hk.1)⟩⟩
 .rw[add_plain]
  exact hc 0 _ rfl
 .rw[add_plain]
  exact hc 1 _ rfl
theorem qseek_stores {W:World} {R:Nat} {c0 c1 q e:Value} (hP:W.heap[R+1]? =some (.cells #[c0,c1] 37 (0,0))) (hQ:Boxed W (R+2) 3 q) (hE:Boxed W (R+3) 28 e) (u0 u1 u2 u3:Value):
  (W.cell? ⟨R + 1, 0, none⟩ = some c0 ∧ W.frozen? ⟨R + 1, 0, none⟩ = false ∧ (W.setCell ⟨R + 1, 0, none⟩ u0).cell? ⟨R + 1, 1, none⟩ = some c1 ∧ (W.setCell ⟨R + 1, 0, none⟩ u0).frozen? ⟨R + 1, 1, none⟩ = false
   ∧((W.setCell ⟨R+1,0,none⟩ u0).setCell ⟨R+1,1,none⟩ u1).cell? ⟨R+1+1,0,none⟩=some q∧((W.setCell ⟨R+1,0,none⟩ u0).setCell ⟨R+1,1,none⟩ u1).frozen? ⟨R+1+1,0,none⟩=false
   ∧ (((W.setCell ⟨R + 1, 0, none⟩ u0).setCell ⟨R + 1, 1, none⟩ u1).setCell ⟨R + 1 + 1, 0, none⟩ u2).cell? ⟨R + 1 + 1 + 1, 0, none⟩ = some e ∧ (((W.setCell ⟨R + 1, 0, none⟩ u0).setCell ⟨R + 1, 1, none⟩ u1).setCell ⟨R + 1 + 1, 0, none⟩ u2).frozen? ⟨R + 1 + 1 + 1, 0, none⟩ = false)
  ∧∃ W',W'=(((W.setCell ⟨R+1,0,none⟩ u0).setCell ⟨R+1,1,none⟩ u1).setCell ⟨R+1+1,0,none⟩ u2).setCell ⟨R+1+1+1,0,none⟩ u3
   ∧W'.heap[R+1]? =some (.cells #[u0,u1] 37 (0,0))∧Boxed W' (R+2) 3 u2∧Boxed W' (R+3) 28 u3∧KeepsOthers W W'∧(∀ k,k≠R+1->k≠R+2->k≠R+3->W'.heap[k]? =W.heap[k]?)∧(∀ b,b<=R->∀ w,Below b w W->Below b w W'):=by
 have p1:(W.setCell ⟨R+1,0,none⟩ u0).heap[R+1]? =some (.cells #[u0,c1] 37 (0,0)):=blk_set hP 0 u0
 have p2:((W.setCell ⟨R+1,0,none⟩ u0).setCell ⟨R+1,1,none⟩ u1).heap[R+1]? =some (.cells #[u0,u1] 37 (0,0)):=blk_set p1 1 u1
 have q2:Boxed ((W.setCell ⟨R+1,0,none⟩ u0).setCell ⟨R+1,1,none⟩ u1) (R+1+1) 3 q:=blk_far (blk_far hQ (p:=⟨R+1,0,none⟩) (by simp) u0) (p:=⟨R+1,1,none⟩) (by simp) u1
 have e3:Boxed (((W.setCell ⟨R+1,0,none⟩ u0).setCell ⟨R+1,1,none⟩ u1).setCell ⟨R+1+1,0,none⟩ u2) (R+1+1+1) 28 e:=blk_far (blk_far (blk_far hE (p:=⟨R+1,0,none⟩) (by simp) u0) (p:=⟨R+1,1,none⟩) (by simp) u1) (p:=⟨R+1+1,0,none⟩) (by simp) u2
 have p3:=(Below.heap_setCell ((W.setCell ⟨R+1,0,none⟩ u0).setCell ⟨R+1,1,none⟩ u1) ⟨R+1+1,0,none⟩ u2 (R+1) (by simp)).trans p2
 have p4:=(Below.heap_setCell (((W.setCell ⟨R+1,0,none⟩ u0).setCell ⟨R+1,1,none⟩ u1).setCell ⟨R+1+1,0,none⟩ u2) ⟨R+1+1+1,0,none⟩ u3 (R+1) (by simp)).trans p3
 refine⟨⟨(blk_cell hP 0).trans rfl,blk_frozen hP 0,(blk_cell p1 1).trans rfl,blk_frozen p1 1,q2.cell,q2.frozen,e3.cell,e3.frozen⟩,_,rfl,p4,(q2.set u2).other (show R+2≠R+3 by omega) u3,e3.set u3,((KeepsOthers.setCell _ _ _).trans (KeepsOthers.setCell _ _ _)).trans ((KeepsOthers.setCell _ _ _).trans (KeepsOthers.setCell _ _ _)),fun k h1 h2 h3=>?_,fun b hb w hw=>?_⟩
 .rw[Below.heap_setCell _ _ _ _ (by simpa using h3),Below.heap_setCell _ _ _ _ (by simpa using h2),Below.heap_setCell _ _ _ _ (by simpa using h1),Below.heap_setCell _ _ _ _ (by simpa using h1)]
 .exact(((hw.setCell (p:=⟨R+1,0,none⟩) (by simp;omega) u0).setCell (p:=⟨R+1,1,none⟩) (by simp;omega) u1).setCell (p:=⟨R+1+1,0,none⟩) (by simp;omega) u2).setCell (p:=⟨R+1+1+1,0,none⟩) (by simp;omega) u3
set_option maxRecDepth 100000 in
set_option maxHeartbeats 8000000 in
theorem post_Seek.calls (k:Nat) (A0:Option Addr) (c0:Nat) (l0:List Int) (a1:Int) (r1:Int) (r2:List Int) (r3:Int) (r4:Int) (w:World) (hr0:Kd.C (Kd.int .u8) w A0 l0.length l0) (hc0:l0.length<=c0) (h:post_Seek.f k l0 a1=some (r1,r2,r3,r4)):
    Calls Try.prog 19 #[.slice A0 l0.length c0,.int .i64 a1] w fun e w'=>∃ v1_:Value,e= .returned (.tuple #[.agg #[.int .i64 r1,v1_],.int .i64 r3,.int .i64 r4])∧Kd.R (Kd.int .i64) 3 w' w.heap.size (fun _=>True) v1_ r2∧Below w.heap.size w w':=by
  unfold post_Seek.f at h
  obtain⟨⟨t1,t2,t3⟩,ht,h⟩:=Option.bind_eq_some_iff.1 h
  obtain⟨bl,hbl,h⟩:=Option.bind_eq_some_iff.1 h
  dsimp only at hbl h
  have HR0:=Aside0.mk hr0
  have HC0:=Aside0.mk hc0
  have HT:=Aside0.mk ht
  have HBL:=Aside0.mk hbl
  have HH:=Aside0.mk h
  clear hr0 hc0 ht hbl h
  have hu37:=Try.underlying37
  refine(callsIn_wide (n:=9)).1 ?_
  refine callsIn_of_wp_marks Try.func19 rfl trivial ?_ rfl
  simp only[Try.ntmps19,List.size_toArray,List.length_cons,List.length_nil,Nat.reduceAdd,Nat.reduceSub,Array.replicate_succ,Array.replicate_zero,List.push_toArray,List.append_toArray,List.nil_append,List.cons_append]
  gi_wp2
  refine wpIn_wide.2 (wp_scope_straight ((wpIn_wide (n:=9)).1 ?_))
  gi_wp2_with (first|(refine⟨trivial,?_⟩;gi_at_call 34;(with_reducible refine(qblocks_in k A0 c0 l0 t1 t2 t3 _ ?side1 HC0.out HT.out).mono ?_);(case side1=>exact Kd.cA_ (Kd.cA_ (Kd.cA_ (Kd.cA_ HR0.out _) _) _) _);rintro e w1 ⟨rfl,hs1,hB1,b0,b1,b2,b3⟩;have HS1:=Aside0.mk hs1;have HB1:=Aside0.mk hB1;have B0:=Aside0.mk b0;have B1:=Aside0.mk b1;have B2:=Aside0.mk b2;have B3:=Aside0.mk b3;clear hs1 hB1 b0 b1 b2 b3)|fail)
  refine wpIn_label ?_
  gi_wp2
  have hs1:Aside0 (w1.heap.size=w.heap.size+8):=⟨by rw[HS1.out];simp⟩
  have hbw1:Aside0 (Below w.heap.size w w1):=⟨below_step (pbA_ (pbA_ (pbA_ (pbA_ (Below.refl _ _) _) _) _) _) HB1.out⟩
  have hC1:Kd.C (Kd.int .u8) w1 A0 l0.length l0:=Kd.C_below HR0.out hbw1.out
  have hd0:Boxed w1 w.heap.size 3 (.int .i64 a1):=(HB1.out.block _ (by simp;omega)).trans ((((Boxed.new w _ _).alloc _).alloc _).alloc _)
  have hp0 : w1.heap[w.heap.size + 1]? = some (.cells #[.int .i64 0, .slice none 0 0] 37 (0, 0)) := (HB1.out.block _ (by simp)).trans (by
    have h_:=blk_new (w.alloc (.cells #[.int .i64 a1] 3)) (.cells #[.int .i64 0,.slice none 0 0] 37 (0,0))
    rw[World.size_alloc]at h_
    exact blk_alloc (blk_alloc h_ _) _)
  have hq0 : Boxed w1 (w.heap.size + 2) 3 (.int .i64 0) := (HB1.out.block _ (by simp)).trans (by
    have h_:=(Boxed.new ((w.alloc (.cells #[.int .i64 a1] 3)).alloc (.cells #[.int .i64 0,.slice none 0 0] 37 (0,0))) 3 (.int .i64 0)).alloc (.cells #[.int .i64 0] 28)
    rw[World.size_alloc,World.size_alloc]at h_
    exact h_)
  have he0 : Boxed w1 (w.heap.size + 3) 28 (.int .i64 0) := (HB1.out.block _ (by simp)).trans (by
    have h_:=Boxed.new (((w.alloc (.cells #[.int .i64 a1] 3)).alloc (.cells #[.int .i64 0,.slice none 0 0] 37 (0,0))).alloc (.cells #[.int .i64 0] 3)) 28 (.int .i64 0)
    rw[World.size_alloc,World.size_alloc,World.size_alloc]at h_
    exact h_)
  have HD0:=Aside0.mk hd0
  have HP0:=Aside0.mk hp0
  have HQ0:=Aside0.mk hq0
  have HE0:=Aside0.mk he0
  clear hd0 hp0 hq0 he0
  refine wpIn_rangeFunc_told (F:=Fence.wide) (β:=Nat) rfl (by decide) (gf:=56) rfl trivial (enters_of Try.func56 (by kernel_rfl) rfl)
    (qblocks1_seq k A0 c0 l0 t1 t2 t3 bl (w.heap.size+1+1+1+1) w1 hC1 HC0.out (by have:=hs1.out;omega) (by simpa using B0.out) (by simpa using B1.out) (by simpa using B2.out) (by simpa using B3.out) HBL.out) (fun h k=>Below.trans h k) (fun W l o o' hl hh hc hw=>belowK_b (w:=w1) (Nat.le_refl _) W l o o' hl hh hc hw) (Below.refl _ _) (fun _=>rfl)
    (post_Seek.Held k a1 bl (r1,r2,r3,r4) w1) (post_Seek.End (r1,r2,r3,r4) w) (post_Seek.held_own k a1 bl _ w1 _ (Nat.le_refl _)) (fun c=>post_Seek.end_own _ w c _ (by have:=hs1.out;omega))
    ⟨⟨fun _=>HH.out⟩,Below.refl _ _⟩
    (fun x B a'=>a'={tmps:= #[Value.slice A0 l0.length c0,Value.int IntKind.i64 a1,undef,Value.pointer (some {block:=w.heap.size,off:=0}),Value.pointer (some {block:=w.heap.size+1,off:=0}),Value.pointer (some {block:=w.heap.size+1+1,off:=0}),Value.pointer (some {block:=w.heap.size+1+1+1,off:=0}),Value.int IntKind.i64 t2,Value.func (Fn.func 56) #[] #[Value.pointer (some {block:=w.heap.size+1+1+1+1+3,off:=0}),Value.pointer (some {block:=w.heap.size+1+1+1+1+1,off:=0}),Value.pointer (some {block:=w.heap.size+1+1+1+1+2,off:=0}),Value.pointer (some {block:=w.heap.size+1+1+1+1,off:=0})],Value.pointer (some {block:=B,off:=0}),undef,undef,undef,Value.tuple #[Value.int IntKind.i64 t2,Value.func (Fn.func 56) #[] #[Value.pointer (some {block:=w.heap.size+1+1+1+1+3,off:=0}),Value.pointer (some {block:=w.heap.size+1+1+1+1+1,off:=0}),Value.pointer (some {block:=w.heap.size+1+1+1+1+2,off:=0}),Value.pointer (some {block:=w.heap.size+1+1+1+1,off:=0})]],Value.slice A0 l0.length c0,Value.tuple #[Value.int IntKind.i64 t2,Value.func (Fn.func 56) #[] #[Value.pointer (some {block:=w.heap.size+1+1+1+1+3,off:=0}),Value.pointer (some {block:=w.heap.size+1+1+1+1+1,off:=0}),Value.pointer (some {block:=w.heap.size+1+1+1+1+2,off:=0}),Value.pointer (some {block:=w.heap.size+1+1+1+1,off:=0})]],Value.int IntKind.i64 t2,Value.func (Fn.func 56) #[] #[Value.pointer (some {block:=w.heap.size+1+1+1+1+3,off:=0}),Value.pointer (some {block:=w.heap.size+1+1+1+1+1,off:=0}),Value.pointer (some {block:=w.heap.size+1+1+1+1+2,off:=0}),Value.pointer (some {block:=w.heap.size+1+1+1+1,off:=0})],Value.func (Fn.func 56) #[] #[Value.pointer (some {block:=w.heap.size+1+1+1+1+3,off:=0}),Value.pointer (some {block:=w.heap.size+1+1+1+1+1,off:=0}),Value.pointer (some {block:=w.heap.size+1+1+1+1+2,off:=0}),Value.pointer (some {block:=w.heap.size+1+1+1+1,off:=0})],(Value.agg #[.int .i64 x.1.1,.int .i64 x.1.2.1,.int .i64 x.1.2.2.1,.slice x.2.1 x.1.2.2.2.1.length x.2.2,.int .i64 x.1.2.2.2.2]),undef,undef,undef,undef,undef,undef,undef,undef,undef,undef,undef,undef,undef,undef,undef,undef,undef,undef,undef,undef,undef,undef,undef,undef,undef,undef],defers:=[]})
    (QAx bl w1.heap.size) (fun pre x=>qax_own bl _ pre x _) ?assign ?body ?done ?stop
  case assign=>
    intro l pre x W K hI hN hK
    dsimp only[qencB]
    gi_wp2
    have hz:=hI.2.size
    have hb:Below W.heap.size W (W.alloc (Obj.cells #[Value.int IntKind.i64 x.1.1,Value.int IntKind.i64 x.1.2.1,Value.int IntKind.i64 x.1.2.2.1,Value.slice x.2.1 x.1.2.2.2.1.length x.2.2,Value.int IntKind.i64 x.1.2.2.2.2] 65)):=pbA_ (Below.refl _ _) _
    exact hK W.heap.size _ _ rfl ⟨hb.size,fun k o hk _=>(hb.block k (Array.getElem?_eq_some_iff.1 hk).1).trans hk⟩ (hb.mono hz) ((post_Seek.held_own k a1 bl _ w1 _ (Nat.le_refl _)).alloc _ hI) ⟨⟨hz,hN.1,hN.2.1,hN.2.2.2⟩,World.alloc_heap_new W _,Kd.cA_ hN.2.2.1 _⟩
  case body=>
    rintro l pre ⟨⟨x1,x2,x3,x4,x5⟩,Ab,cb⟩ B a' W rfl ⟨hp,hB⟩ ⟨hq,hbk,hC⟩
    obtain⟨hnB,hx,hpre,hcb⟩:=hq.out
    dsimp only at hx hcb hbk hC
    obtain⟨hxl,hxe⟩:=List.getElem?_eq_some_iff.1 hx
    have hd:bl.drop pre.length=(x1,x2,x3,x4,x5) :: bl.drop (pre.length+1):=by rw[List.drop_eq_getElem_cons hxl,hxe]
    have hr:=hp.out hpre
    rw[hd,post_Seek.l0]at hr
    dsimp only at hr
    have HRR:=Aside0.mk hr
    have HBB:=Aside0.mk hB
    have HBK:=Aside0.mk hbk
    have HC:=Aside0.mk hC
    have HCB:=Aside0.mk hcb
    have hcz0:W.cell? ⟨B,0,none⟩=some (.int .i64 x1):=(blk_cell hbk 0).trans rfl
    have hcz1:W.cell? ⟨B,1,none⟩=some (.int .i64 x2):=(blk_cell hbk 1).trans rfl
    have hcz2:W.cell? ⟨B,2,none⟩=some (.int .i64 x3):=(blk_cell hbk 2).trans rfl
    have hcz3:W.cell? ⟨B,3,none⟩=some (.slice Ab x4.length cb):=(blk_cell hbk 3).trans rfl
    have hcz4:W.cell? ⟨B,4,none⟩=some (.int .i64 x5):=(blk_cell hbk 4).trans rfl
    clear hx hpre hr hB hbk hC hcb hp hd hxe hxl
    have hwm:=hs1.out
    have hDb:Boxed W w.heap.size 3 (.int .i64 a1):=(HBB.out.block _ (by omega)).trans HD0.out
    have hDc:=hDb.cell
    have hPb:=(HBB.out.block (w.heap.size+1) (by omega)).trans HP0.out
    have hQb:Boxed W (w.heap.size+2) 3 (.int .i64 0):=(HBB.out.block _ (by omega)).trans HQ0.out
    have hEb:Boxed W (w.heap.size+3) 28 (.int .i64 0):=(HBB.out.block _ (by omega)).trans HE0.out
    have hDB:=Aside0.mk hDb
    have hPB:=Aside0.mk hPb
    have hQB:=Aside0.mk hQb
    have hEB:=Aside0.mk hEb
    clear hwm hDb hPb hQb hEb
    by_cases hx1:x1=0
    . subst hx1
      obtain⟨⟨f1,f2,f3,f4,f5,f6,f7,f8⟩,W',hW',hf⟩:=qseek_stores hPB.out hQB.out hEB.out (.int .i64 0) (.slice none 0 0) (.int .i64 0) (.int .i64 2)
      have HF:=Aside0.mk hf
      have HW':=Aside0.mk hW'
      clear hf hW'
      gi_wp2
      rw[<- HW'.out]
      obtain⟨g1,g2,g3,g4,g5,g6⟩:=HF.out
      have hr:=HRR.out
      rw[if_pos (by first|rfl|trivial)]at hr
      simp only[Option.some.injEq,Prod.mk.injEq]at hr
      obtain⟨rfl,rfl,rfl,rfl⟩:=hr
      exact⟨g4,⟨_,⟨rfl⟩,g1,Kd.R_nil _ _ _ _ _,g2,g3⟩,g6 _ (Nat.le_refl _) _ (hbw1.out.trans (HBB.out.mono (by have:=hs1.out;omega)))⟩
    . by_cases hx3:x3 < a1
      . have hr:=HRR.out
        rw[if_neg hx1,if_pos hx3]at hr
        have hr':=Aside0.mk hr
        clear hr
        have HX1:=Aside0.mk hx1
        have HX3:=Aside0.mk hx3
        have g1:(x1==0)=false:=by simpa using hx1
        have g3:decide (x3 < a1)=true:=decide_eq_true hx3
        clear hx1 hx3
        gi_wp2
        refine⟨⟨Nat.le_refl _,fun k o hk _=>hk⟩,Below.refl _ _,⟨fun _=>?_⟩,HBB.out⟩
        rw[List.length_append,List.length_singleton]
        exact hr'.out
      . have hr:=HRR.out
        rw[if_neg hx1,if_neg hx3]at hr
        obtain⟨⟨u1,u2⟩,hu,hr⟩:=Option.bind_eq_some_iff.1 hr
        dsimp only at hu hr
        have HR2:=Aside0.mk hr
        have HX1:=Aside0.mk hx1
        have HX3:=Aside0.mk hx3
        have g1:(x1==0)=false:=by simpa using hx1
        have g3:decide (x3 < a1)=false:=decide_eq_false hx3
        have HCALL:=Aside0.mk (post_unpack.calls k x1 x2 x3 Ab cb x4 x5 u1 u2 W HC.out HCB.out hu)
        clear hr hu hx1 hx3
        cases u2 with
        |false=>
          gi_wp2_with (first|(refine⟨trivial,?_⟩;gi_at_call 35;(with_reducible refine(CallsIn.inRound l (callsIn_wide.2 HCALL.out)).mono ?_);rintro e2 w2 ⟨v2,rfl,hS2,hB2⟩;have HS2:=Aside0.mk hS2;have HB2:=Aside0.mk hB2;have hPB2:=Aside0.mk (blk_below hPB.out hB2);have hQB2:Aside0 (Boxed w2 (w.heap.size+2) 3 (.int .i64 0)):=⟨blk_below hQB.out hB2⟩;have hEB2:Aside0 (Boxed w2 (w.heap.size+3) 28 (.int .i64 0)):=⟨blk_below hEB.out hB2⟩;clear hS2 hB2;obtain⟨⟨f1,f2,f3,f4,f5,f6,f7,f8⟩,W',hW',hf⟩:=qseek_stores hPB2.out hQB2.out hEB2.out (.int .i64 0) (.slice none 0 0) (.int .i64 0) (.int .i64 2);have HF:=Aside0.mk hf;have HW':=Aside0.mk hW';clear hf hW')|fail)
          rw[<- HW'.out]
          obtain⟨g1,g2,g3,g4,g5,g6⟩:=HF.out
          have hr:=HR2.out
          rw[if_pos (by first|rfl|trivial)]at hr
          simp only[Option.some.injEq,Prod.mk.injEq]at hr
          obtain⟨rfl,rfl,rfl,rfl⟩:=hr
          have hB2:=HB2.out
          have hKO:KeepsOthers W w2:=⟨hB2.size,fun k o hk _=>(hB2.block k (Array.getElem?_eq_some_iff.1 hk).1).trans hk⟩
          exact⟨hKO.trans g4,⟨_,⟨rfl⟩,g1,Kd.R_nil _ _ _ _ _,g2,g3⟩,g6 _ (Nat.le_refl _) _ ((hbw1.out.trans (HBB.out.mono (by have:=hs1.out;omega))).trans (hB2.mono (by have:=HBB.out.size;have:=hs1.out;omega)))⟩
        |true=>
          have hr:=HR2.out
          rw[if_neg (by simp)]at hr
          by_cases hlim:u1.length<=1000000
          case neg=>rw[if_neg hlim]at hr;cases hr
          rw[if_pos hlim]at hr
          by_cases hqf:qfind u1 a1 < u1.length
          case neg=>rw[dif_neg hqf]at hr;cases hr
          rw[dif_pos hqf]at hr
          obtain⟨i,hi⟩:∃ i,Aside0 (i=qfind u1 a1):=⟨_,⟨rfl⟩⟩
          obtain⟨s,hs⟩:∃ s,u1[qfind u1 a1]'hqf=s:=⟨_,rfl⟩
          rw[hs]at hr
          have HR3:=Aside0.mk hr
          have HQF:Aside0 (i < u1.length):=⟨by rw[hi.out];exact hqf⟩
          have HS:Aside0 (u1[i]'HQF.out=s):=⟨by rw[<- hs];congr 1;exact hi.out⟩
          have HLIM:=Aside0.mk hlim
          clear hr hs hqf hlim
          have p:((0:Int)<=(i:Int))=True:=eq_true (by omega)
          have q:((i:Int) < (u1.length:Int))=True:=eq_true (by have:=HQF.out;omega)
          have q':(i < u1.length)=True:=eq_true HQF.out
          gi_wp2_with (first|(refine⟨trivial,?_⟩;gi_at_call 35;(with_reducible refine(CallsIn.inRound l (callsIn_wide.2 HCALL.out)).mono ?_);rintro e2 w2 ⟨v2,rfl,hS2,hB2⟩;have HS2:=Aside0.mk hS2;have HB2:=Aside0.mk hB2;have hPB2:=Aside0.mk (blk_below hPB.out hB2);have hQB2:Aside0 (Boxed w2 (w.heap.size+2) 3 (.int .i64 0)):=⟨blk_below hQB.out hB2⟩;have hEB2:Aside0 (Boxed w2 (w.heap.size+3) 28 (.int .i64 0)):=⟨blk_below hEB.out hB2⟩;obtain⟨A2,c2,rfl⟩:=Kd.S_slice hS2;have hDB2:Aside0 (w2.cell? ⟨w.heap.size,0,none⟩=some (.int .i64 a1)):=⟨Boxed.cell (t:=3) (blk_below hDB.out hB2)⟩;have HIDX:=Aside0.mk (qseek_index w.heap.size a1 A2 c2 u1 w2 hDB2.out (Kd.S_reads' hS2).2.2 (Kd.S_reads' hS2).2.1 (by have:=HLIM.out;omega) (i:Int) ⟨by rw[hi.out,if_pos (by rw[<- hi.out];exact HQF.out)]⟩);clear hS2 hB2)|(refine⟨trivial,?_⟩;gi_at_call 36;(with_reducible refine(CallsIn.inRound l (callsIn_wide.2 HIDX.out)).mono ?_);rintro e3 w3 ⟨rfl,hB3⟩;have HB3:=Aside0.mk hB3;obtain⟨ad,A1,c1,rfl,hx0,hx1,HRI⟩:=qseek_elem (Kd.S_R (Kd.S_below HS2.out hB3)) i HQF.out s HS.out;obtain⟨⟨f1,f2,f3,f4,f5,f6,f7,f8⟩,W',hW',hf⟩:=qseek_stores (blk_below hPB2.out hB3) (show Boxed w3 (w.heap.size+2) 3 (.int .i64 0) from blk_below hQB2.out hB3) (show Boxed w3 (w.heap.size+3) 28 (.int .i64 0) from blk_below hEB2.out hB3) (.int .i64 s.f0) (.slice A1 s.f1.length c1) (.int .i64 1) (.int .i64 0);have HF:=Aside0.mk hf;have HW':=Aside0.mk hW';clear hf hW' hB3)|fail)
          rw[<- HW'.out]
          obtain⟨g1,g2,g3,g4,g5,g6⟩:=HF.out
          have hr:=HR3.out
          simp only[Option.some.injEq,Prod.mk.injEq]at hr
          obtain⟨rfl,rfl,rfl,rfl⟩:=hr
          have hB3:=HB2.out.trans (HB3.out.mono HB2.out.size)
          have hKO:KeepsOthers W w3:=⟨hB3.size,fun k o hk _=>(hB3.block k (Array.getElem?_eq_some_iff.1 hk).1).trans hk⟩
          have hz:=HBB.out.size
          have hz1:=hs1.out
          refine⟨hKO.trans g4,⟨_,⟨rfl⟩,g1,?_,g2,g3⟩,g6 _ (Nat.le_refl _) _ ((hbw1.out.trans (HBB.out.mono (by omega))).trans (hB3.mono (by omega)))⟩
          exact Kd.R_mono (Kd.R_lower (Kd.R_step (Kd.R_bound HRI.out) (fun k hk _=>g5 k (by have:=hk.2.1;omega) (by have:=hk.2.1;omega) (by have:=hk.2.1;omega))) (by omega)) (fun _ _=>trivial)
  case done=>
    rintro D xs W hD hS ⟨hp,hB⟩ hK
    have hlen:xs.length=bl.length:=by rw[<- hS];simp
    have hr:=hp.out (by rw[hlen,hS,List.take_length])
    rw[hlen,List.drop_length,post_Seek.l0]at hr
    simp only[Option.some.injEq,Prod.mk.injEq]at hr
    obtain⟨rfl,rfl,rfl,rfl⟩:=hr
    have hz1:=hs1.out
    obtain⟨⟨f1,f2,f3,f4,f5,f6,f7,f8⟩,W',hW',hf⟩:=qseek_stores (W:=W) (R:=w.heap.size) ((hB.block (w.heap.size+1) (by omega)).trans HP0.out) (show Boxed W (w.heap.size+2) 3 (.int .i64 0) from(hB.block _ (by omega)).trans HQ0.out) (show Boxed W (w.heap.size+3) 28 (.int .i64 0) from(hB.block _ (by omega)).trans HE0.out) (.int .i64 0) (.slice none 0 0) (.int .i64 0) (.int .i64 8)
    have HF:=Aside0.mk hf
    have HW':=Aside0.mk hW'
    have HK:=Aside0.mk hK
    have HBl:=Aside0.mk hB
    clear hf hW' hK hB hp hz1 hlen hS
    gi_wp2
    rw[<- HW'.out]
    obtain⟨g1,g2,g3,g4,g5,g6⟩:=HF.out
    have hDn:w1.heap.size<=D:=hD
    have hz1:=hs1.out
    have hKd:W'.heap[D]? =some (.deferred (some [])):=(g5 D (by omega) (by omega) (by omega)).trans HK.out
    refine⟨by simp,.inl ⟨_,_,rfl,run_takeDeferred hKd,?_⟩⟩
    have f0:∀ o,(W'.putObj D o).heap[w.heap.size+1]? =_:=fun o=>(World.putObj_heap_other (by omega)).trans g1
    have f1:∀ o,(W'.putObj D o).cell? ⟨w.heap.size+1,0,none⟩=_:=fun o=>(blk_cell (f0 o) 0).trans rfl
    have f2:∀ o,(W'.putObj D o).cell? ⟨w.heap.size+1,1,none⟩=_:=fun o=>(blk_cell (f0 o) 1).trans rfl
    have f3:∀ o,(W'.putObj D o).cell? ⟨w.heap.size+1+1,0,none⟩=_:=fun o=>Boxed.cell (t:=3) ((World.putObj_heap_other (by omega)).trans g2)
    have f4:∀ o,(W'.putObj D o).cell? ⟨w.heap.size+1+1+1,0,none⟩=_:=fun o=>Boxed.cell (t:=28) ((World.putObj_heap_other (by omega)).trans g3)
    refine⟨.tuple #[.agg #[.int .i64 0,(.slice none 0 0)],.int .i64 0,.int .i64 8],by simp[results,Try.results19,go_sem,f1,f2,f3,f4,hu37],_,rfl,?_,?_⟩
    . exact Kd.R_mono (Kd.R_lower (Kd.R_step (Kd.R_bound (Kd.R_nil _ _ _ (w.heap.size + 4) (fun _ => True))) (fun k hk _ => World.putObj_heap_other (by
        rintro rfl
        obtain⟨_,_,_,q,_,cells,hc⟩:=hk
        rw[hKd]at hc
        cases hc))) (by omega)) (fun _ _ => trivial)
    . exact(g6 _ (Nat.le_refl _) _ (hbw1.out.trans (HBl.out.mono (by omega)))).trans (belowK_b (w:=w) (Nat.le_refl _) W' D _ _ (by omega) hKd rfl rfl)
  case stop=>
    rintro D c pre W hD _ ⟨⟨v,hc,h1,hR,h2,h3⟩,hB⟩ hK
    obtain rfl:=hc.out
    have hDn:w1.heap.size<=D:=hD
    have hz1:=hs1.out
    gi_wp2
    refine⟨by simp,.inl ⟨_,_,rfl,run_takeDeferred hK,?_⟩⟩
    have f0:∀ o,(W.putObj D o).heap[w.heap.size+1]? =_:=fun o=>(World.putObj_heap_other (by omega)).trans h1
    have f1:∀ o,(W.putObj D o).cell? ⟨w.heap.size+1,0,none⟩=_:=fun o=>(blk_cell (f0 o) 0).trans rfl
    have f2:∀ o,(W.putObj D o).cell? ⟨w.heap.size+1,1,none⟩=_:=fun o=>(blk_cell (f0 o) 1).trans rfl
    have f3:∀ o,(W.putObj D o).cell? ⟨w.heap.size+1+1,0,none⟩=_:=fun o=>Boxed.cell (t:=3) ((World.putObj_heap_other (by omega)).trans h2)
    have f4:∀ o,(W.putObj D o).cell? ⟨w.heap.size+1+1+1,0,none⟩=_:=fun o=>Boxed.cell (t:=28) ((World.putObj_heap_other (by omega)).trans h3)
    refine⟨.tuple #[.agg #[.int .i64 r1,v],.int .i64 r3,.int .i64 r4],by simp[results,Try.results19,go_sem,f1,f2,f3,f4,hu37],_,rfl,?_,?_⟩
    . exact Kd.R_mono (Kd.R_lower (Kd.R_step (Kd.R_bound (hR)) (fun k hk _ => World.putObj_heap_other (by
        rintro rfl
        obtain⟨_,_,_,q,_,cells,hc⟩:=hk
        rw[hK]at hc
        cases hc))) (by omega)) (fun _ _ => trivial)
    . exact(hB).trans (belowK_b (w:=w) (Nat.le_refl _) W D _ _ (by omega) hK rfl rfl)
end
noncomputable def dragnetlaw13_alive.f (k:Nat):Option (Bool):=(post_Put.f k ([]:List Int) (([(⟨3,(([0]:List Int))⟩:S37),(⟨5,(([1,4]:List Int))⟩:S37)]:List (S37)))).bind fun bt323=>((post_Seek.f k bt323.1 4).bind fun bt327=>(if bt323.2=0 then(if bt327.2.2.2=0 then(if bt327.2.2.1=1 then(if bt327.1=5 then(if(bt327.2.1.length:Int)=2 then(if(bt323.1.length:Int) > 3 then(if 0 < (bt323.1.length:Int)then(if(rd bt323.1 0)=2 then(if 1 < (bt323.1.length:Int)then(some ((rd bt323.1 1)==5))else(none))else(some false))else(none))else(some false))else(some false))else(some false))else(some false))else(some false))else(some false)))
theorem dragnetlaw13_alive.mono:∀ k,LeO (dragnetlaw13_alive.f k) (dragnetlaw13_alive.f (k+1)):=by
 intro k
 unfold dragnetlaw13_alive.f
 repeat' first
   |(with_reducible exact post_Put.mono _ _ _)
   |(with_reducible exact post_Seek.mono _ _ _)
   |(with_reducible exact LeO.refl _)
   |(with_reducible exact LeO.none _)
   |(with_reducible refine LeO.ite ?_ ?_)
   |(with_reducible refine LeO.bind ?_ (fun _=>?_))
set_option maxHeartbeats 8000000 in
set_option maxRecDepth 100000 in
theorem dragnetlaw13_alive.calls (k:Nat) (r:Bool) (w:World) (h:dragnetlaw13_alive.f k=some r) (hr_:Aside0 (r=true)):
  Calls Try.prog 9 #[] w fun e w'=>e= .returned (.bool r)∧Below w.heap.size w w':=by
 have hu37:=Try.underlying37
 have HB:=Aside0.mk (Below.refl w.heap.size w)
 have H:((post_Put.f k ([]:List Int) (([(⟨3,(([0]:List Int))⟩:S37),(⟨5,(([1,4]:List Int))⟩:S37)]:List (S37)))).bind fun bt323=>((post_Seek.f k bt323.1 4).bind fun bt327=>(if bt323.2=0 then(if bt327.2.2.2=0 then(if bt327.2.2.1=1 then(if bt327.1=5 then(if(bt327.2.1.length:Int)=2 then(if(bt323.1.length:Int) > 3 then(if 0 < (bt323.1.length:Int)then(if(rd bt323.1 0)=2 then(if 1 < (bt323.1.length:Int)then(some ((rd bt323.1 1)==5))else(none))else(some false))else(none))else(some false))else(some false))else(some false))else(some false))else(some false))else(some false))))=some r:=h
 clear h
 obtain⟨y314,hy314⟩:∃ y_:List Int,y_=(([0]:List Int)):=⟨_,rfl⟩
 replace H:((post_Put.f k ([]:List Int) (([(⟨3,y314⟩:S37),(⟨5,(([1,4]:List Int))⟩:S37)]:List (S37)))).bind fun bt323=>((post_Seek.f k bt323.1 4).bind fun bt327=>(if bt323.2=0 then(if bt327.2.2.2=0 then(if bt327.2.2.1=1 then(if bt327.1=5 then(if(bt327.2.1.length:Int)=2 then(if(bt323.1.length:Int) > 3 then(if 0 < (bt323.1.length:Int)then(if(rd bt323.1 0)=2 then(if 1 < (bt323.1.length:Int)then(some ((rd bt323.1 1)==5))else(none))else(some false))else(none))else(some false))else(some false))else(some false))else(some false))else(some false))else(some false))))=some r:=hx_ hy314 H
 have Ny314:=Aside0.mk hy314
 clear hy314
 obtain⟨y317,hy317⟩:∃ y_:List Int,y_=(([1,4]:List Int)):=⟨_,rfl⟩
 replace H:((post_Put.f k ([]:List Int) (([(⟨3,y314⟩:S37),(⟨5,y317⟩:S37)]:List (S37)))).bind fun bt323=>((post_Seek.f k bt323.1 4).bind fun bt327=>(if bt323.2=0 then(if bt327.2.2.2=0 then(if bt327.2.2.1=1 then(if bt327.1=5 then(if(bt327.2.1.length:Int)=2 then(if(bt323.1.length:Int) > 3 then(if 0 < (bt323.1.length:Int)then(if(rd bt323.1 0)=2 then(if 1 < (bt323.1.length:Int)then(some ((rd bt323.1 1)==5))else(none))else(some false))else(none))else(some false))else(some false))else(some false))else(some false))else(some false))else(some false))))=some r:=hx_ hy317 H
 have Ny317:=Aside0.mk hy317
 clear hy317
 obtain⟨y320,hy320⟩:∃ y_:List (S37),y_=(([(⟨3,y314⟩:S37),(⟨5,y317⟩:S37)]:List (S37))):=⟨_,rfl⟩
 replace H:((post_Put.f k ([]:List Int) y320).bind fun bt323=>((post_Seek.f k bt323.1 4).bind fun bt327=>(if bt323.2=0 then(if bt327.2.2.2=0 then(if bt327.2.2.1=1 then(if bt327.1=5 then(if(bt327.2.1.length:Int)=2 then(if(bt323.1.length:Int) > 3 then(if 0 < (bt323.1.length:Int)then(if(rd bt323.1 0)=2 then(if 1 < (bt323.1.length:Int)then(some ((rd bt323.1 1)==5))else(none))else(some false))else(none))else(some false))else(some false))else(some false))else(some false))else(some false))else(some false))))=some r:=hx_ hy320 H
 have Ny320:=Aside0.mk hy320
 clear hy320
 replace H:=Option.bind_eq_some_iff.mp H
 obtain⟨⟨t323,t324⟩,A10,H⟩:=H
 try dsimp only at H
 have A1:=Aside0.mk A10
 clear A10
 replace H:=Option.bind_eq_some_iff.mp H
 obtain⟨⟨t327,t328,t331,t332⟩,A20,H⟩:=H
 try dsimp only at H
 have A2:=Aside0.mk A20
 clear A20
 by_cases c3:t324=0
 rotate_left
 .rw[if_neg c3]at H
  have c3b0:=beq_eq_false_iff_ne.mpr c3
  have c3b1:=bne_iff_ne.mpr c3
  obtain rfl:=Option.some.inj H
  cases hr_.out
 rw[if_pos c3]at H
 have c3b0:=beq_iff_eq.mpr c3
 have c3b1:=bne_eq_false_iff_eq.mpr c3
 clear c3
 by_cases c4:t332=0
 rotate_left
 .rw[if_neg c4]at H
  have c4b0:=beq_eq_false_iff_ne.mpr c4
  have c4b1:=bne_iff_ne.mpr c4
  obtain rfl:=Option.some.inj H
  cases hr_.out
 rw[if_pos c4]at H
 have c4b0:=beq_iff_eq.mpr c4
 have c4b1:=bne_eq_false_iff_eq.mpr c4
 clear c4
 by_cases c5:t331=1
 rotate_left
 .rw[if_neg c5]at H
  have c5b0:=beq_eq_false_iff_ne.mpr c5
  have c5b1:=bne_iff_ne.mpr c5
  obtain rfl:=Option.some.inj H
  cases hr_.out
 rw[if_pos c5]at H
 have c5b0:=beq_iff_eq.mpr c5
 have c5b1:=bne_eq_false_iff_eq.mpr c5
 clear c5
 by_cases c6:t327=5
 rotate_left
 .rw[if_neg c6]at H
  have c6b0:=beq_eq_false_iff_ne.mpr c6
  have c6b1:=bne_iff_ne.mpr c6
  obtain rfl:=Option.some.inj H
  cases hr_.out
 rw[if_pos c6]at H
 have c6b0:=beq_iff_eq.mpr c6
 have c6b1:=bne_eq_false_iff_eq.mpr c6
 clear c6
 by_cases c7:(t328.length:Int)=2
 rotate_left
 .rw[if_neg c7]at H
  have c7b0:=beq_eq_false_iff_ne.mpr c7
  have c7b1:=bne_iff_ne.mpr c7
  obtain rfl:=Option.some.inj H
  cases hr_.out
 rw[if_pos c7]at H
 have c7b0:=beq_iff_eq.mpr c7
 have c7b1:=bne_eq_false_iff_eq.mpr c7
 clear c7
 by_cases c8:(t323.length:Int) > 3
 rotate_left
 .rw[if_neg c8]at H
  have c8b0:=decide_eq_false c8
  have c8b1:decide (3 < t323.length)=false:=decide_eq_false (by omega)
  clear c8
  obtain rfl:=Option.some.inj H
  cases hr_.out
 rw[if_pos c8]at H
 have c8b0:=decide_eq_true c8
 have c8b1:decide (3 < t323.length)=true:=decide_eq_true (by omega)
 clear c8
 by_cases c9:0 < (t323.length:Int)
 rotate_left
 .rw[if_neg c9]at H
  cases H
 rw[if_pos c9]at H
 have c9b0:=decide_eq_true c9
 have c9b1:decide (0 < t323.length)=true:=decide_eq_true (by omega)
 clear c9
 by_cases c10:(rd t323 0)=2
 rotate_left
 .rw[if_neg c10]at H
  have c10b0:=beq_eq_false_iff_ne.mpr c10
  have c10b1:=bne_iff_ne.mpr c10
  obtain rfl:=Option.some.inj H
  cases hr_.out
 rw[if_pos c10]at H
 have c10b0:=beq_iff_eq.mpr c10
 have c10b1:=bne_eq_false_iff_eq.mpr c10
 clear c10
 by_cases c11:1 < (t323.length:Int)
 rotate_left
 .rw[if_neg c11]at H
  cases H
 rw[if_pos c11]at H
 have c11b0:=decide_eq_true c11
 have c11b1:decide (1 < t323.length)=true:=decide_eq_true (by omega)
 clear c11
 obtain rfl:=Option.some.inj H
 go_enter Try.func9,Try.ntmps9
 go_wp2_with (first|((with_reducible refine gate_dst (N:=7) rfl ?_);(try(refine gate_guard (by rfl) ?_;dsimp only));refine Kd.R_lit (Kd.int .i64) _ 3 ?hg (N:=7) ?hd (xs:=([0]:List Int)) (inner:=[.int .i64 0]) (ok:=fun _=>True) (okp:=fun _=>True) ?hr ?hp (fun _ hk=>hk) trivial (Below.refl _ _) (Nat.le_refl _) (by simp) ?_;(case hd=>rfl);(case hg=>rfl);(case hr=>first|(go_simp;done)|(go_simp;rfl));(case hp=>exact(Reps.one (show Kd.M (Kd.int .i64) _ _ _ 0 [.int .i64 0] from rfl) (Reps.none _ _)));intro v315 w12 ho13 hb hg_ hnew_;clear hg_ hnew_;(first|rw[<- Ny314.out]at ho13|(simp only[Int.reduceToNat]at ho13;rw[<- Ny314.out]at ho13));have HO316:=Aside0.mk (Kd.R_lower ho13 (pbS_ bw_));replace HB:=Aside0.mk (below_step bw_ hb);clear hb ho13;obtain⟨Ao14,co14,eo14⟩:=Kd.R_slice HO316.out;subst eo14)|((with_reducible refine gate_dst (N:=9) rfl ?_);(try(refine gate_guard (by rfl) ?_;dsimp only));refine Kd.R_lit (Kd.int .i64) _ 3 ?hg (N:=9) ?hd (xs:=([1,4]:List Int)) (inner:=[.int .i64 1,.int .i64 4]) (ok:=fun _=>True) (okp:=fun _=>True) ?hr ?hp (fun _ hk=>hk) trivial (Below.refl _ _) (Nat.le_refl _) (by simp) ?_;(case hd=>rfl);(case hg=>rfl);(case hr=>first|(go_simp;done)|(go_simp;rfl));(case hp=>exact(Reps.one (show Kd.M (Kd.int .i64) _ _ _ 1 [.int .i64 1] from rfl) (Reps.one (show Kd.M (Kd.int .i64) _ _ _ 4 [.int .i64 4] from rfl) (Reps.none _ _))));intro v318 w15 ho16 hb hg_ hnew_;clear hg_ hnew_;(first|rw[<- Ny317.out]at ho16|(simp only[Int.reduceToNat]at ho16;rw[<- Ny317.out]at ho16));have n0_:=Aside0.mk (Kd.R_elder' (Kd.ru_ HO316.out) (Kd.R_base ho16) hb);have n1_:=Aside0.mk (Kd.R_lower (Kd.R_new' ho16 (Kd.R_lt (Kd.ru_ HO316.out))) (pbS_ bw_));have n2_:=Aside0.mk (below_step bw_ hb);clear HO316;clear HB;have HO316:=n0_;have HO319:=n1_;have HB:=n2_;clear n0_ n1_ n2_;clear hb ho16;obtain⟨Ao17,co17,eo17⟩:=Kd.R_slice HO319.out;subst eo17)|((with_reducible refine gate_dst (N:=11) rfl ?_);(try(refine gate_guard (by rfl) ?_;dsimp only));refine Kd.N_lit k37 _ 37 ?hg (N':=11) ?hd (xs:=([(⟨3,y314⟩:S37),(⟨5,y317⟩:S37)]:List (S37))) (inner:=[.int .i64 3,.slice Ao14 y314.length co14,.int .i64 5,.slice Ao17 y317.length co17]) (ok:=(fun _=>True)) (okp:=(fun _=>True)) ?hr ?hp (fun _ hk=>hk) ((show ∀ k_,w15.heap.size<=k_->(fun _=>True) k_ from fun k_ hk=>trivial) _ (Nat.le_refl _)) (Below.refl _ _) (Nat.le_refl _) (by simp) ?_;(case hd=>rfl);(case hg=>rfl);(case hr=>first|(go_simp;done)|(go_simp;rfl));(case hp=>exact(Reps.c2 (show Kd.FK k37 _ _ (⟨3,y314⟩:S37) [.int .i64 3,.slice Ao14 y314.length co14] from(k37_mkF _ _ (⟨3,y314⟩:S37) (Kd.R_reads' (Kd.R_mono (ok':=(fun _=>True)) (HO316.out) (fun k_ hk=>trivial))).2.1 (Kd.R_F (Kd.R_mono (ok':=(fun _=>True)) (HO316.out) (fun k_ hk=>trivial))))) (Reps.c2 (show Kd.FK k37 _ _ (⟨5,y317⟩:S37) [.int .i64 5,.slice Ao17 y317.length co17] from(k37_mkF _ _ (⟨5,y317⟩:S37) (Kd.R_reads' (Kd.R_mono (ok':=(fun _=>True)) (HO319.out) (fun k_ hk=>trivial))).2.1 (Kd.R_F (Kd.R_mono (ok':=(fun _=>True)) (HO319.out) (fun k_ hk=>trivial))))) (Reps.none _ _))));intro v321 w18 ho19 hb hg_ hnew_;clear hg_ hnew_;(first|rw[<- Ny320.out]at ho19|(simp only[Int.reduceToNat]at ho19;rw[<- Ny320.out]at ho19));have n0_:=Aside0.mk (Kd.N_lower ho19 (pbS_ bw_));have n1_:=Aside0.mk (below_step bw_ hb);clear HB;clear HO316;clear HO319;have HO322:=n0_;have HB:=n1_;clear n0_ n1_;clear hb ho19;obtain⟨Ao20,co20,eo20⟩:=Kd.N_slice HO322.out;subst eo20)|((with_reducible refine gaC_ (f:=13) rfl ?_);refine goesL_ (some 12) rfl rfl Try.func13 (by kernel_rfl) rfl #[.slice none 0 0,.slice Ao20 y320.length co20] rfl am_ ?_;(refine(post_Put.calls k _ _ ([]:List Int) _ _ y320 t323 t324 _ ?side1 ?side2 ?side3 ?side4 A1.out).mono ?_);(case side1=>exact Kd.C_nil _ _);(case side2=>exact Nat.le_refl _);(case side3=>exact Kd.cu_ (Kd.N_reads' HO322.out).2.2);(case side4=>exact(Kd.N_reads' HO322.out).2.1);rintro e w21 ⟨v325,rfl,ho0,hb⟩;refine⟨_,rfl,?_⟩;replace HO322:=Aside0.mk (Kd.N_elder' (Kd.nu_ HO322.out) (Kd.R_base ho0) hb);have HO326:=Aside0.mk (Kd.R_lower ho0 (pbS_ bw_));replace HB:=Aside0.mk (below_step bw_ hb);obtain⟨Ao22,co22,eo22⟩:=Kd.R_slice HO326.out;subst eo22)|((with_reducible refine gaC_ (f:=19) rfl ?_);refine goesL_ (some 17) rfl rfl Try.func19 (by kernel_rfl) rfl #[.slice Ao22 t323.length co22,.int .i64 4] rfl am_ ?_;(with_reducible refine(post_Seek.calls k _ _ t323 4 t327 t328 t331 t332 _ ?side1 ?side2 A2.out).mono ?_);(case side1=>exact Kd.cu_ (Kd.R_reads' HO326.out).2.2);(case side2=>exact(Kd.R_reads' HO326.out).2.1);rintro e w23 ⟨v329,rfl,ho0,hb⟩;refine⟨_,rfl,?_⟩;replace HO322:=Aside0.mk (Kd.N_elder' (Kd.nu_ HO322.out) (Kd.R_base ho0) hb);replace HO326:=Aside0.mk (Kd.R_below (Kd.ru_ HO326.out) hb);have HO330:=Aside0.mk (Kd.R_lower ho0 (pbS_ bw_));replace HB:=Aside0.mk (below_step bw_ hb))|((with_reducible refine gate_dst (N:=3) rfl ?_);(try(refine gate_guard (by rfl) ?_;dsimp only));refine box_event ?hg (N:=3) ?hd (cs:= #[.int .i64 0,.slice none 0 0]) (t:=37) ?hr ?_;(case hd=>rfl);(case hg=>rfl);(case hr=>first|(go_simp;done)|(go_simp;rfl));intro gb333 hg w24 hbox hb;have n0_:=Aside0.mk (Kd.N_below (Kd.N_elderB (Kd.nu_ HO322.out) gb333 (Nat.le_of_eq hg.symm)) hb);have n1_:=Aside0.mk (Kd.R_below (Kd.ru_ HO326.out) hb);have n2_:=Aside0.mk (Kd.R_below (Kd.ru_ HO330.out) hb);have n3_:=Aside0.mk (below_step bw_ hb);have n4_:=Aside0.mk (hbox);have n5_:=Aside0.mk ((by rw[hg];exact(pbS_ bw_):w.heap.size<=gb333));have n6_:=Aside0.mk ((by rw[hg];exact(pbS_ bw_):w.heap.size<=gb333));clear HO322;clear HO326;clear HO330;clear HB;have HO322:=n0_;have HO326:=n1_;have HO330:=n2_;have HB:=n3_;have BK333:=n4_;have GW333:=n5_;have GE333:=n6_;clear n0_ n1_ n2_ n3_ n4_ n5_ n6_;clear hb hbox hg;have hcz25_0:w24.cell? ⟨gb333,0,none⟩=some (.int .i64 0):=(blk_cell BK333.out 0).trans rfl;have hcz25_1:w24.cell? ⟨gb333,1,none⟩=some (.slice none 0 0):=(blk_cell BK333.out 1).trans rfl;have hfz25_0:=blk_frozen BK333.out 0;have hfz25_1:=blk_frozen BK333.out 1;obtain⟨Ao26,co26,eo26⟩:=Kd.R_slice HO330.out;subst eo26;have p334:0<=(0:Int):=(by omega);have q334:0 < (t323.length:Int):=od_;obtain⟨ad334,e334,hx334_0⟩:=Kd.at_int (Kd.R_reads' HO326.out).2.2 0 p334 q334;cases e334;have qi334:(0 < t323.length)=True:=eq_true (by omega);(try rw[show((0:Int)).toNat=0 from rfl]at hx334_0);(try rw[Addr.add_zero']at hx334_0);have hn334_0:ad334.block≠gb333:=Kd.own_blk (Kd.R_ne HO326.out BK333.out (by decide));have hn334_1:ad334.block≠gb333:=Kd.own_blk (Kd.R_ne HO326.out BK333.out (by decide));replace hx334_0:=(cell_far (p:=⟨gb333,0,none⟩) (by first|(rw[add_block];exact hn334_0)|(show(Addr.add _ _).block≠_;rw[add_block];exact hn334_0)|exact hn334_0) (.int .i64 t327)).trans hx334_0;replace hx334_0:=(cell_far (p:=⟨gb333,1,none⟩) (by first|(rw[add_block];exact hn334_1)|(show(Addr.add _ _).block≠_;rw[add_block];exact hn334_1)|exact hn334_1) (.slice Ao26 t328.length co26)).trans hx334_0;clear hn334_0;clear hn334_1;replace p334:=eq_true p334;replace q334:=eq_true q334;have p335:0<=(1:Int):=(by omega);have q335:1 < (t323.length:Int):=od_;obtain⟨ad335,e335,hx335_0⟩:=Kd.at_int (Kd.R_reads' HO326.out).2.2 1 p335 q335;obtain rfl:ad334=ad335:=(by injection e335);(try simp only[show(1:Int).toNat=1 from rfl,Nat.reduceMul,Nat.reduceEqDiff,Go.Addr.add,↓reduceIte]at hx335_0);have qi335:(1 < t323.length)=True:=eq_true (by omega);(try rw[show((1:Int)).toNat=1 from rfl]at hx335_0);have hn335_0:ad334.block≠gb333:=Kd.own_blk (Kd.R_ne HO326.out BK333.out (by decide));have hn335_1:ad334.block≠gb333:=Kd.own_blk (Kd.R_ne HO326.out BK333.out (by decide));replace hx335_0:=(cell_far (p:=⟨gb333,0,none⟩) (by first|(rw[add_block];exact hn335_0)|(show(Addr.add _ _).block≠_;rw[add_block];exact hn335_0)|exact hn335_0) (.int .i64 t327)).trans hx335_0;replace hx335_0:=(cell_far (p:=⟨gb333,1,none⟩) (by first|(rw[add_block];exact hn335_1)|(show(Addr.add _ _).block≠_;rw[add_block];exact hn335_1)|exact hn335_1) (.slice Ao26 t328.length co26)).trans hx335_0;clear hn335_0;clear hn335_1;replace p335:=eq_true p335;replace q335:=eq_true q335))
 go_ret
 exact⟨rf_,bs_⟩
noncomputable def dragnetref01_Copy.f (l0:List Int):Option (List Int):=(some (([]:List Int):List Int)).bind fun y337=>(if y337.length+l0.length < 140737488355328 then(some (y337++l0))else(none))
set_option maxHeartbeats 8000000 in
set_option maxRecDepth 100000 in
theorem dragnetref01_Copy.calls (A0:Option Addr) (c0:Nat) (l0:List Int) (r:List Int) (w:World) (hr0:Kd.C (Kd.int .u8) w A0 l0.length l0) (hc0:l0.length<=c0) (h:dragnetref01_Copy.f l0=some r):
  Calls Try.prog 11 #[.slice A0 l0.length c0] w fun e w'=>∃ v0_:Value,e= .returned (v0_)∧Kd.R (Kd.int .u8) 5 w' w.heap.size (fun _=>True) v0_ r∧Below w.heap.size w w':=by
 have HR0:=Aside0.mk hr0
 have HC0:=Aside0.mk hc0
 clear hr0 hc0
 have HB:=Aside0.mk (Below.refl w.heap.size w)
 have H:((some (([]:List Int):List Int)).bind fun y337=>(if y337.length+l0.length < 140737488355328 then(some (y337++l0))else(none)))=some r:=h
 clear h
 obtain⟨y337,hy337⟩:∃ y_:List Int,y_=(([]:List Int)):=⟨_,rfl⟩
 replace H:(if y337.length+l0.length < 140737488355328 then(some (y337++l0))else(none))=some r:=hx_ hy337 H
 have Ny337:=Aside0.mk hy337
 clear hy337
 by_cases c2:y337.length+l0.length < 140737488355328
 rotate_left
 .rw[if_neg c2]at H
  cases H
 rw[if_pos c2]at H
 have LMc2:=Aside0.mk c2
 clear c2
 obtain⟨y340,hy340⟩:∃ y_:List Int,y_=(y337++l0):=⟨_,rfl⟩
 replace H:(some y340)=some r:=hx_ hy340 H
 have Ny340:=Aside0.mk hy340
 clear hy340
 obtain rfl:=Option.some.inj H
 go_enter Try.func11,Try.ntmps11
 go_wp2_with (first|((with_reducible refine gate_dst (N:=3) rfl ?_);refine Kd.R_lit (Kd.int .u8) _ 5 ?hg (N:=3) ?hd (xs:=([]:List Int)) (inner:=[]) (ok:=fun _=>True) (okp:=fun _=>True) ?hr ?hp (fun _ hk=>hk) trivial (Below.refl _ _) (Nat.le_refl _) (by simp) ?_;(case hd=>rfl);(case hg=>rfl);(case hr=>first|(go_simp;done)|(go_simp;rfl));(case hp=>exact(Reps.none _ _));intro v338 w3 ho4 hb hg_ hnew_;clear hg_ hnew_;(first|rw[<- Ny337.out]at ho4|(simp only[Int.reduceToNat]at ho4;rw[<- Ny337.out]at ho4));have HO339:=Aside0.mk (Kd.R_lower ho4 (pbS_ bw_));replace HB:=Aside0.mk (below_step bw_ hb);clear hb ho4)|((with_reducible refine gate_builtin (b:= .append) (xs:= #[.tmp 3,.tmp 4]) rfl ?_);at_builtin;refine Kd.R_append_rows (Kd.int .u8) (w0:=w) w.heap.size rfl (.tmp 3) (.tmp 4) 22 5 (.int .u8 0) 1 rfl Try.underlying22 info5 rfl (by decide) (by omega) v338 y337 l0 _ _ _ (fun _=>True) (fun _=>False) rfl rfl ?aO ?aR (fun _ _ h=>h) (fun _ h=>h.elim) ?aF ?aB ?aS ?aL ?_;(case aR=>exact Kd.cu_ (Kd.C_below HR0.out HB.out));(case aB=>exact bw_);(case aF=>exact(fun _ _=>trivial));(case aO=>exact(Kd.ru_ HO339.out));(case aS=>exact(pbS_ bw_));(case aL=>have:=LMc2.out;omega);intro v341 w5 ho hb hg hat;rw[<- Ny340.out]at ho;have n0_:=Aside0.mk (hb);have n1_:=Aside0.mk (ho);clear HB;clear HO339;have HB:=n0_;have HO342:=n1_;clear n0_ n1_;clear ho hb hg hat))
 go_ret
 exact⟨_,rf_,by(with_reducible repeat(first|apply Kd.rA_|apply Kd.rN_|apply Kd.rD_));exact HO342.out,bw_⟩
end Go.Proofs.Ytooeclfeallkkaa.P
end
section
namespace Go.Proofs.Ytooeclfeallkkaa.P
open Go.RowKit Go.Proofs.YtooeclfeallkkaaW.PrintWords Go.Proofs.YtooeclfeallkkaaW.PrintLast Go.Proofs.YtooeclfeallkkaaW.PrintMore
attribute [local go_sem] max2_int min2_int max_two min_two max_three min_three max_four min_four
set_option linter.unusedVariables false
set_option linter.unusedSimpArgs false
def dragnetref01_Same.f (l0:List Int) (l1:List Int):Option (Bool):=some ((strOfNums l0).toList==(strOfNums l1).toList)
set_option maxHeartbeats 8000000 in
set_option maxRecDepth 100000 in
theorem dragnetref01_Same.calls (A0:Option Addr) (c0:Nat) (l0:List Int) (A1:Option Addr) (c1:Nat) (l1:List Int) (r:Bool) (w:World) (hr0:Kd.C (Kd.int .u8) w A0 l0.length l0) (hc0:l0.length<=c0) (hr1:Kd.C (Kd.int .u8) w A1 l1.length l1) (hc1:l1.length<=c1) (h:dragnetref01_Same.f l0 l1=some r):
  Calls Try.prog 14 #[.slice A0 l0.length c0,.slice A1 l1.length c1] w fun e w'=>e= .returned (.bool r)∧Drawn0 w w':=by
 have HR0:=Aside0.mk hr0
 have HC0:=Aside0.mk hc0
 clear hr0 hc0
 have HR1:=Aside0.mk hr1
 have HC1:=Aside0.mk hc1
 clear hr1 hc1
 have H:(some ((strOfNums l0).toList==(strOfNums l1).toList))=some r:=h
 clear h
 obtain rfl:=Option.some.inj H
 have hcv3:=Kd.C_string (P:=Try.prog) (A:=A0) (c:=c0) Try.underlying22 Try.underlying5 Try.underlying9 HR0.out
 have hcv4:=Kd.C_string (P:=Try.prog) (A:=A1) (c:=c1) Try.underlying22 Try.underlying5 Try.underlying9 HR1.out
 go_enter Try.func14,Try.ntmps14
 go_wp2
 go_ret
 exact⟨by first|rfl|(simp;done)|(simp[*];done),by repeat(first|exact Drawn0.refl _|apply Drawn0.step)⟩
def dragnetref09_Ints.l0:Nat->List Int->List Int->Int->Option (Bool)
 |0,_,_,_=>none
 |k+1,x0,x1,x5=>if x5 < (x0.length:Int)then(if 0<=x5 then(if x5 < (x1.length:Int)then(if(rd x0 x5)=(rd x1 x5)then(dragnetref09_Ints.l0 k x0 x1 (wrap64 (x5+1)))else(some false))else(none))else(none))else(some true)
def dragnetref09_Ints.f (k:Nat) (l0:List Int) (l1:List Int):Option (Bool):=if(l0.length:Int)=(l1.length:Int)then(dragnetref09_Ints.l0 k l0 l1 0)else(some false)
theorem dragnetref09_Ints.mono_l:∀ k,(∀ y0 y1 y2,LeO (dragnetref09_Ints.l0 k y0 y1 y2) (dragnetref09_Ints.l0 (k+1) y0 y1 y2))
 |0=>fun _ _ _ r h=>by simp[dragnetref09_Ints.l0]at h
 |k+1=>by
  have ih0:=dragnetref09_Ints.mono_l k
  .intro y0 y1 y2
   unfold dragnetref09_Ints.l0
   repeat' first
   |(with_reducible exact ih0 _ _ _)
   |(with_reducible exact LeO.refl _)
   |(with_reducible exact LeO.none _)
   |(with_reducible refine LeO.ite ?_ ?_)
   |(with_reducible refine LeO.bind ?_ (fun _=>?_))
theorem dragnetref09_Ints.mono:∀ a0 a1 k,LeO (dragnetref09_Ints.f k a0 a1) (dragnetref09_Ints.f (k+1) a0 a1):=by
 intro a0 a1 k
 have ih0:=dragnetref09_Ints.mono_l k
 unfold dragnetref09_Ints.f
 repeat' first
   |(with_reducible exact ih0 _ _ _)
   |(with_reducible exact LeO.refl _)
   |(with_reducible exact LeO.none _)
   |(with_reducible refine LeO.ite ?_ ?_)
   |(with_reducible refine LeO.bind ?_ (fun _=>?_))
set_option maxHeartbeats 8000000 in
set_option maxRecDepth 100000 in
theorem dragnetref09_Ints.calls (k:Nat) (A0:Option Addr) (c0:Nat) (l0:List Int) (A1:Option Addr) (c1:Nat) (l1:List Int) (r:Bool) (w:World) (hr0:Kd.C (Kd.int .i64) w A0 l0.length l0) (hc0:l0.length<=c0) (hr1:Kd.C (Kd.int .i64) w A1 l1.length l1) (hc1:l1.length<=c1) (h:dragnetref09_Ints.f k l0 l1=some r):
  Calls Try.prog 41 #[.slice A0 l0.length c0,.slice A1 l1.length c1] w fun e w'=>e= .returned (.bool r)∧Drawn0 w w':=by
 have HR0:=Aside0.mk hr0
 have HC0:=Aside0.mk hc0
 clear hr0 hc0
 have HR1:=Aside0.mk hr1
 have HC1:=Aside0.mk hc1
 clear hr1 hc1
 have H:(if(l0.length:Int)=(l1.length:Int)then(dragnetref09_Ints.l0 k l0 l1 0)else(some false))=some r:=h
 clear h
 by_cases c3:(l0.length:Int)=(l1.length:Int)
 rotate_left
 .rw[if_neg c3]at H
  have c3b0:=beq_eq_false_iff_ne.mpr c3
  have c3b1:=bne_iff_ne.mpr c3
  have c3b2:(l0.length==l1.length)=false:=by first|simpa using c3|(simp at c3 ⊢;omega)
  obtain rfl:=Option.some.inj H
  go_enter Try.func41,Try.ntmps41
  go_wp2
  go_ret
  exact⟨by first|rfl|(simp;done)|(simp[*];done),by repeat(first|exact Drawn0.refl _|apply Drawn0.step)⟩
 rw[if_pos c3]at H
 have c3b0:=beq_iff_eq.mpr c3
 have c3b1:=bne_eq_false_iff_eq.mpr c3
 have c3b2:(l0.length==l1.length)=true:=by first|simpa using c3|(simp at c3 ⊢;omega)
 clear c3
 have H':=Aside0.mk H
 clear H
 go_enter Try.func41,Try.ntmps41
 go_wp2
 go_loopg [5] k (fun kq v5 w'=>∃ (x5_1:Int),v5= .int .i64 x5_1∧Aside0 (dragnetref09_Ints.l0 kq l0 l1 x5_1=some r)∧Aside0 (kq<=k)∧Drawn0 w w')
 case atStart=>exact⟨(0),rs_,H',⟨Nat.le_refl _⟩,by repeat(first|exact Drawn0.refl _|apply Drawn0.step)⟩
 case round=>
  clear H'
  clear c3b0 c3b1 c3b2
  obtain⟨x5_1,rfl,HA,HK1,⟨m1,rfl⟩⟩:=hrel
  cases gk with
  |zero=>exact absurd HA.out (by simp[dragnetref09_Ints.l0])
  |succ k1=>
   have H:=HA.out
   clear HA
   simp only[dragnetref09_Ints.l0]at H
   by_cases c4:x5_1 < (l0.length:Int)
   rotate_left
   .rw[if_neg c4]at H
    have c4b0:=decide_eq_false c4
    clear c4
    obtain rfl:=Option.some.inj H
    go_wp2
    go_ret
    exact⟨by first|rfl|(simp;done)|(simp[*];done),by repeat(first|exact Drawn0.refl _|apply Drawn0.step)⟩
   rw[if_pos c4]at H
   have c4b0:=decide_eq_true c4
   clear c4
   by_cases c5:0<=x5_1
   rotate_left
   .rw[if_neg c5]at H
    cases H
   rw[if_pos c5]at H
   have c5b0:=decide_eq_true c5
   clear c5
   by_cases c6:x5_1 < (l1.length:Int)
   rotate_left
   .rw[if_neg c6]at H
    cases H
   rw[if_pos c6]at H
   have c6b0:=decide_eq_true c6
   clear c6
   by_cases c7:(rd l0 x5_1)=(rd l1 x5_1)
   rotate_left
   .rw[if_neg c7]at H
    have c7b0:=beq_eq_false_iff_ne.mpr c7
    have c7b1:=bne_iff_ne.mpr c7
    obtain rfl:=Option.some.inj H
    have p354:0<=(x5_1:Int):=od_
    have q354:x5_1 < (l0.length:Int):=od_
    obtain⟨ad354,e354,hx354_0⟩:=Kd.at_int HR0.out x5_1 p354 q354
    cases e354
    replace p354:=eq_true p354
    replace q354:=eq_true q354
    have p355:0<=(x5_1:Int):=od_
    have q355:x5_1 < (l1.length:Int):=od_
    obtain⟨ad355,e355,hx355_0⟩:=Kd.at_int HR1.out x5_1 p355 q355
    cases e355
    replace p355:=eq_true p355
    replace q355:=eq_true q355
    go_wp2
    repeat(go_quiet (fail);try go_wp2)
    go_ret
    exact⟨by first|rfl|(simp;done)|(simp[*];done),by repeat(first|exact Drawn0.refl _|apply Drawn0.step)⟩
   rw[if_pos c7]at H
   have c7b0:=beq_iff_eq.mpr c7
   have c7b1:=bne_eq_false_iff_eq.mpr c7
   clear c7
   have H':=Aside0.mk H
   clear H
   have p354:0<=(x5_1:Int):=od_
   have q354:x5_1 < (l0.length:Int):=od_
   obtain⟨ad354,e354,hx354_0⟩:=Kd.at_int HR0.out x5_1 p354 q354
   cases e354
   replace p354:=eq_true p354
   replace q354:=eq_true q354
   have p355:0<=(x5_1:Int):=od_
   have q355:x5_1 < (l1.length:Int):=od_
   obtain⟨ad355,e355,hx355_0⟩:=Kd.at_int HR1.out x5_1 p355 q355
   cases e355
   replace p355:=eq_true p355
   replace q355:=eq_true q355
   go_wp2
   repeat(go_quiet (fail);try go_wp2)
   go_roundg k1
   case measure=>have:=HK1.out;omega
   case rel=>exact⟨(wrap64 (x5_1+1)),rs_,H',⟨by have:=HK1.out;omega⟩,by repeat(first|exact Drawn0.refl _|apply Drawn0.step)⟩
def dragnetref13_SamePost.f (k:Nat) (a0_0:Int) (l0_1:List Int) (a1_0:Int) (l1_1:List Int):Option (Bool):=if a0_0=a1_0 then((dragnetref09_Ints.f k l0_1 l1_1).bind fun t358=>(some t358))else(some false)
theorem dragnetref13_SamePost.mono:∀ a0 a1 a2 a3 k,LeO (dragnetref13_SamePost.f k a0 a1 a2 a3) (dragnetref13_SamePost.f (k+1) a0 a1 a2 a3):=by
 intro a0 a1 a2 a3 k
 unfold dragnetref13_SamePost.f
 repeat' first
   |(with_reducible exact dragnetref09_Ints.mono _ _ _)
   |(with_reducible exact LeO.refl _)
   |(with_reducible exact LeO.none _)
   |(with_reducible refine LeO.ite ?_ ?_)
   |(with_reducible refine LeO.bind ?_ (fun _=>?_))
set_option maxHeartbeats 8000000 in
set_option maxRecDepth 100000 in
theorem dragnetref13_SamePost.calls (k:Nat) (a0_0:Int) (A0_1:Option Addr) (c0_1:Nat) (l0_1:List Int) (a1_0:Int) (A1_1:Option Addr) (c1_1:Nat) (l1_1:List Int) (r:Bool) (w:World) (hr0_1:Kd.C (Kd.int .i64) w A0_1 l0_1.length l0_1) (hc0_1:l0_1.length<=c0_1) (hr1_1:Kd.C (Kd.int .i64) w A1_1 l1_1.length l1_1) (hc1_1:l1_1.length<=c1_1) (h:dragnetref13_SamePost.f k a0_0 l0_1 a1_0 l1_1=some r):
  Calls Try.prog 21 #[.agg #[.int .i64 a0_0,.slice A0_1 l0_1.length c0_1],.agg #[.int .i64 a1_0,.slice A1_1 l1_1.length c1_1]] w fun e w'=>e= .returned (.bool r)∧Below w.heap.size w w':=by
 have hu37:=Try.underlying37
 have HR0_1:=Aside0.mk hr0_1
 have HC0_1:=Aside0.mk hc0_1
 clear hr0_1 hc0_1
 have HR1_1:=Aside0.mk hr1_1
 have HC1_1:=Aside0.mk hc1_1
 clear hr1_1 hc1_1
 have HB:=Aside0.mk (Below.refl w.heap.size w)
 have H:(if a0_0=a1_0 then((dragnetref09_Ints.f k l0_1 l1_1).bind fun t358=>(some t358))else(some false))=some r:=h
 clear h
 by_cases c3:a0_0=a1_0
 rotate_left
 .rw[if_neg c3]at H
  have c3b0:=beq_eq_false_iff_ne.mpr c3
  have c3b1:=bne_iff_ne.mpr c3
  obtain rfl:=Option.some.inj H
  go_enter Try.func21,Try.ntmps21
  go_wp2_with (first|((with_reducible refine gate_dst (N:=2) rfl ?_);refine box_event ?hg (N:=2) ?hd (cs:= #[.int .i64 a0_0,.slice A0_1 l0_1.length c0_1]) (t:=37) ?hr ?_;(case hd=>rfl);(case hg=>rfl);(case hr=>first|(go_simp;done)|(go_simp;rfl));intro gb356 hg w10 hbox hb;have n0_:=Aside0.mk (below_step bw_ hb);have n1_:=Aside0.mk (hbox);have n2_:=Aside0.mk ((by rw[hg];exact(pbS_ bw_):w.heap.size<=gb356));have n3_:=Aside0.mk ((by rw[hg];exact(pbS_ bw_):w.heap.size<=gb356));clear HB;have HB:=n0_;have BK356:=n1_;have GW356:=n2_;have GE356:=n3_;clear n0_ n1_ n2_ n3_;clear hb hbox hg)|((with_reducible refine gate_dst (N:=3) rfl ?_);refine box_event ?hg (N:=3) ?hd (cs:= #[.int .i64 a1_0,.slice A1_1 l1_1.length c1_1]) (t:=37) ?hr ?_;(case hd=>rfl);(case hg=>rfl);(case hr=>first|(go_simp;done)|(go_simp;rfl));intro gb357 hg w11 hbox hb;have n0_:=Aside0.mk (blk_below (g:=gb356) (o:= .cells #[.int .i64 a0_0,.slice A0_1 l0_1.length c0_1] 37 (0,0)) (bk_ BK356.out) hb);have n1_:=Aside0.mk (below_step bs_ hb);have n2_:=Aside0.mk (hbox);have n3_:=Aside0.mk ((by rw[hg];exact(pbS_ bs_):w.heap.size<=gb357));have n4_:=Aside0.mk ((by rw[hg];exact(pbS_ bs_):w.heap.size<=gb357));have n5_:=Aside0.mk ((by rw[hg];exact Nat.ne_of_lt (blk_lt (g:=gb356) (o:= .cells #[.int .i64 a0_0,.slice A0_1 l0_1.length c0_1] 37 (0,0)) (bk_ BK356.out)):gb356≠gb357));have n6_:=Aside0.mk ((by rw[hg];exact Nat.ne_of_gt (blk_lt (g:=gb356) (o:= .cells #[.int .i64 a0_0,.slice A0_1 l0_1.length c0_1] 37 (0,0)) (bk_ BK356.out)):gb357≠gb356));clear BK356;clear HB;have BK356:=n0_;have HB:=n1_;have BK357:=n2_;have GW357:=n3_;have GE357:=n4_;have NB356_357:=n5_;have NB357_356:=n6_;clear n0_ n1_ n2_ n3_ n4_ n5_ n6_;clear hb hbox hg;have hnb12:=NB356_357.out;have hnc12:=NB357_356.out;have hcz13_0:w11.cell? ⟨gb356,0,none⟩=some (.int .i64 a0_0):=(blk_cell BK356.out 0).trans rfl;have hcz13_1:w11.cell? ⟨gb356,1,none⟩=some (.slice A0_1 l0_1.length c0_1):=(blk_cell BK356.out 1).trans rfl;have hfz13_0:=blk_frozen BK356.out 0;have hfz13_1:=blk_frozen BK356.out 1;have hcz14_0:w11.cell? ⟨gb357,0,none⟩=some (.int .i64 a1_0):=(blk_cell BK357.out 0).trans rfl;have hcz14_1:w11.cell? ⟨gb357,1,none⟩=some (.slice A1_1 l1_1.length c1_1):=(blk_cell BK357.out 1).trans rfl;have hfz14_0:=blk_frozen BK357.out 0;have hfz14_1:=blk_frozen BK357.out 1))
  go_ret
  exact⟨rf_,bs_⟩
 rw[if_pos c3]at H
 have c3b0:=beq_iff_eq.mpr c3
 have c3b1:=bne_eq_false_iff_eq.mpr c3
 clear c3
 replace H:=Option.bind_eq_some_iff.mp H
 obtain⟨t358,A40,H⟩:=H
 try dsimp only at H
 have A4:=Aside0.mk A40
 clear A40
 obtain rfl:=Option.some.inj H
 go_enter Try.func21,Try.ntmps21
 go_wp2_with (first|((with_reducible refine gate_dst (N:=2) rfl ?_);refine box_event ?hg (N:=2) ?hd (cs:= #[.int .i64 a0_0,.slice A0_1 l0_1.length c0_1]) (t:=37) ?hr ?_;(case hd=>rfl);(case hg=>rfl);(case hr=>first|(go_simp;done)|(go_simp;rfl));intro gb356 hg w5 hbox hb;have n0_:=Aside0.mk (below_step bw_ hb);have n1_:=Aside0.mk (hbox);have n2_:=Aside0.mk ((by rw[hg];exact(pbS_ bw_):w.heap.size<=gb356));have n3_:=Aside0.mk ((by rw[hg];exact(pbS_ bw_):w.heap.size<=gb356));clear HB;have HB:=n0_;have BK356:=n1_;have GW356:=n2_;have GE356:=n3_;clear n0_ n1_ n2_ n3_;clear hb hbox hg)|((with_reducible refine gate_dst (N:=3) rfl ?_);refine box_event ?hg (N:=3) ?hd (cs:= #[.int .i64 a1_0,.slice A1_1 l1_1.length c1_1]) (t:=37) ?hr ?_;(case hd=>rfl);(case hg=>rfl);(case hr=>first|(go_simp;done)|(go_simp;rfl));intro gb357 hg w6 hbox hb;have n0_:=Aside0.mk (blk_below (g:=gb356) (o:= .cells #[.int .i64 a0_0,.slice A0_1 l0_1.length c0_1] 37 (0,0)) (bk_ BK356.out) hb);have n1_:=Aside0.mk (below_step bs_ hb);have n2_:=Aside0.mk (hbox);have n3_:=Aside0.mk ((by rw[hg];exact(pbS_ bs_):w.heap.size<=gb357));have n4_:=Aside0.mk ((by rw[hg];exact(pbS_ bs_):w.heap.size<=gb357));have n5_:=Aside0.mk ((by rw[hg];exact Nat.ne_of_lt (blk_lt (g:=gb356) (o:= .cells #[.int .i64 a0_0,.slice A0_1 l0_1.length c0_1] 37 (0,0)) (bk_ BK356.out)):gb356≠gb357));have n6_:=Aside0.mk ((by rw[hg];exact Nat.ne_of_gt (blk_lt (g:=gb356) (o:= .cells #[.int .i64 a0_0,.slice A0_1 l0_1.length c0_1] 37 (0,0)) (bk_ BK356.out)):gb357≠gb356));clear BK356;clear HB;have BK356:=n0_;have HB:=n1_;have BK357:=n2_;have GW357:=n3_;have GE357:=n4_;have NB356_357:=n5_;have NB357_356:=n6_;clear n0_ n1_ n2_ n3_ n4_ n5_ n6_;clear hb hbox hg;have hnb7:=NB356_357.out;have hnc7:=NB357_356.out;have hcz8_0:w6.cell? ⟨gb356,0,none⟩=some (.int .i64 a0_0):=(blk_cell BK356.out 0).trans rfl;have hcz8_1:w6.cell? ⟨gb356,1,none⟩=some (.slice A0_1 l0_1.length c0_1):=(blk_cell BK356.out 1).trans rfl;have hfz8_0:=blk_frozen BK356.out 0;have hfz8_1:=blk_frozen BK356.out 1;have hcz9_0:w6.cell? ⟨gb357,0,none⟩=some (.int .i64 a1_0):=(blk_cell BK357.out 0).trans rfl;have hcz9_1:w6.cell? ⟨gb357,1,none⟩=some (.slice A1_1 l1_1.length c1_1):=(blk_cell BK357.out 1).trans rfl;have hfz9_0:=blk_frozen BK357.out 0;have hfz9_1:=blk_frozen BK357.out 1)|(go_at_call 41;(with_reducible refine(dragnetref09_Ints.calls k _ _ l0_1 _ _ l1_1 t358 _ ?side1 ?side2 ?side3 ?side4 A4.out).mono ?_);(case side1=>exact Kd.cu_ (Kd.C_below HR0_1.out HB.out));(case side2=>exact HC0_1.out);(case side3=>exact Kd.cu_ (Kd.C_below HR1_1.out HB.out));(case side4=>exact HC1_1.out);rintro e w' ⟨rfl,⟨nd,rfl⟩⟩))
 go_ret
 exact⟨rf_,bs_⟩
end Go.Proofs.Ytooeclfeallkkaa.P
end
