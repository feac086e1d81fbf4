/- Words and proofs that PostSeeks leans on; put together by wip/tools/shake.py. -/
import Derived.Test.YtooeclfeallkkaaZPostSeeks0
import Derived.Test.YtooeclfeallkkaaZPostSeeks1
import Derived.Test.YtooeclfeallkkaaZPostSeeks2
import Derived.Test.YtooeclfeallkkaaZPostSeeks3
import Derived.Test.YtooeclfeallkkaaZPostSeeks4
import Derived.Test.YtooeclfeallkkaaZPostSeeks5
import Derived.Test.YtooeclfeallkkaaZPostSeeks6
import Derived.Test.YtooeclfeallkkaaZPostSeeks7
import Derived.Test.YtooeclfeallkkaaZPostSeeks8
import Derived.Test.YtooeclfeallkkaaZPostSeeks9
import Derived.Test.YtooeclfeallkkaaZPostSeeks10
import Derived.Test.YtooeclfeallkkaaZPostSeeks11
import Derived.Test.YtooeclfeallkkaaZPostSeeks12
import Derived.BigFrameIn
import Derived.Laws.StructEq
import Derived.LoopIn
import Derived.LoopNIn
import Derived.OwnWalkIn
import Derived.Scope
import Derived.Shelf.Abstract
import Derived.Sort.QuietIn
import Derived.TacticsInMore
import Derived.Test.YtooeclfeallkkaaProg
section
namespace Go.Proofs.Ytooeclfeallkkaa.P
open Go.RowKit Go.Proofs.YtooeclfeallkkaaW.PrintWords Go.Proofs.YtooeclfeallkkaaW.PrintLast Go.Proofs.YtooeclfeallkkaaW.PrintMore
attribute [local go_sem] max2_int min2_int max_two min_two max_three min_three max_four min_four
set_option linter.unusedVariables false
set_option linter.unusedSimpArgs false
def errW:Option Int->Value
 |none=> .nilIface
 |some c=> .iface 0 (.int .i64 c)
theorem eWn_:errW none= .nilIface:=rfl
theorem eWs_ (c:Int):errW (some c)= .iface 0 (.int .i64 c):=rfl
theorem info3:(Try.prog.info? 3).map (fun i=>(i.zero,i.size,i.bytes))=some (some (.int .i64 0),1,8):=by kernel_rfl
theorem info5:(Try.prog.info? 5).map (fun i=>(i.zero,i.size,i.bytes))=some (some (.int .u8 0),1,1):=by kernel_rfl
theorem info37:(Try.prog.info? 37).map (fun i=>(i.zero,i.size,i.bytes))=some (some (.agg #[(.int .i64 0),(.slice none 0 0)]),2,32):=by kernel_rfl
theorem info48:(Try.prog.info? 48).map (fun i=>(i.zero,i.size,i.bytes))=some (some (.int .u64 0),1,8):=by kernel_rfl
structure S37 where
 f0:Int
 f1:(List Int)
def z37:S37:=⟨(0:Int),([]:List Int)⟩
def k37:Kd S37:=Kd.iso (Kd.pair (Kd.int .i64) (Kd.slice 3 (Kd.int .i64))) (fun x:S37=>(x.f0,x.f1))
theorem k37_open {w:World} {x:S37} {cs:List Value} (h:k37.K w x cs):∃ A1 c1,cs=[.int .i64 x.f0,.slice A1 x.f1.length c1]∧x.f1.length<=c1∧(Kd.int .i64).C w A1 x.f1.length x.f1:=by
 obtain⟨_,_,rfl,rfl,⟨A1,c1,rfl,l1,g1⟩⟩:=h
 exact⟨A1,c1,rfl,l1,g1⟩
theorem k37_openM {w:World} {base:Nat} {ok:Nat->Prop} {x:S37} {cs:List Value} (h:k37.M w base ok x cs):∃ v1,cs=[.int .i64 x.f0,v1]∧(Kd.int .i64).R 3 w base ok v1 x.f1:=by
 obtain⟨_,_,rfl,rfl,⟨v1,rfl,g1⟩⟩:=h
 exact⟨v1,rfl,g1⟩
theorem k37_mk (w:World) (x:S37) {A1:Option Addr} {c1:Nat} (l1:x.f1.length<=c1) (g1:(Kd.int .i64).C w A1 x.f1.length x.f1):k37.K w x [.int .i64 x.f0,.slice A1 x.f1.length c1]:=⟨[.int .i64 x.f0],[.slice A1 x.f1.length c1],rfl,rfl,⟨A1,c1,rfl,l1,g1⟩⟩
theorem k37_mkM (w:World) (base:Nat) (ok:Nat->Prop) (x:S37) {v1:Value} (g1:(Kd.int .i64).R 3 w base ok v1 x.f1):k37.M w base ok x [.int .i64 x.f0,v1]:=⟨[.int .i64 x.f0],[v1],rfl,rfl,⟨v1,rfl,g1⟩⟩
theorem k37_mkF (W:World) (ok:Nat->Prop) (x:S37) {A1:Option Addr} {c1:Nat} (l1:x.f1.length<=c1) (g1:Kd.F (Kd.int .i64) W ok A1 x.f1.length x.f1):Kd.FK k37 W ok x [.int .i64 x.f0,.slice A1 x.f1.length c1]:=fun W2 hW=>k37_mk W2 x l1 (g1 W2 hW)
def rd_T37 (xs:List S37) (i:Int):S37:=xs.getD i.toNat z37
theorem at_T37 {w:World} {A:Option Addr} {n:Nat} {xs:List S37} (h:Kd.C k37 w A n xs) (i:Int) (h0:0<=i) (h1:i < n):∃ ad A1 c1,A=some ad∧w.cell? (ad.add (i.toNat*2))=some (.int .i64 (rd_T37 xs i).f0)∧w.cell? ⟨(ad.add (i.toNat*2)).block,(ad.add (i.toNat*2)).off+1,none⟩=some (.slice A1 (rd_T37 xs i).f1.length c1)∧(rd_T37 xs i).f1.length<=c1∧(Kd.int .i64).C w A1 (rd_T37 xs i).f1.length (rd_T37 xs i).f1:=by
 obtain⟨ad,c,e,_,hK,hc0⟩:=Kd.C_get h z37 i h0 h1
 have hc:∀ j u,c[j]? =some u->w.cell? (ad.add (i.toNat*2+j))=some u:=hc0
 obtain⟨A1,c1,rfl,l1,g1⟩:=k37_open hK
 exact⟨ad,A1,c1,e,hc 0 _ rfl,by rw[<- add_field _ _ 1 (by omega)];exact hc 1 _ rfl,l1,g1⟩
def rd_L5 (xs:List (List Int)) (i:Int):(List Int):=xs.getD i.toNat ([]:List Int)
theorem at_L5 {w:World} {A:Option Addr} {n:Nat} {xs:List (List Int)} (h:Kd.C (Kd.slice 5 (Kd.int .u8)) w A n xs) (i:Int) (h0:0<=i) (h1:i < n):∃ ad A0 c0,A=some ad∧w.cell? (ad.add i.toNat)=some (.slice A0 (rd_L5 xs i).length c0)∧(rd_L5 xs i).length<=c0∧(Kd.int .u8).C w A0 (rd_L5 xs i).length (rd_L5 xs i):=by
 obtain⟨ad,c,e,_,hK,hc0⟩:=Kd.C_get h ([]:List Int) i h0 h1
 have hc:∀ j u,c[j]? =some u->w.cell? (ad.add (i.toNat*1+j))=some u:=hc0
 obtain⟨A0,c0,rfl,l0,g0⟩:=hK
 exact⟨ad,A0,c0,e,by have hq:=hc 0 _ rfl;rwa [Nat.mul_one,Nat.add_zero]at hq,l0,g0⟩
mutual
def post_Formed.l0:Nat->Int->List (S37)->Int->Int->Option (Bool)
 |0,_,_,_,_=>none
 |k+1,x3,x9,x10,x11=>if x11 < x10 then(if 0<=x11 then(if x11 < (x9.length:Int)then(if((rd_T37 x9 x11).f0)<=x3 then(post_Formed.j1 k x9 x10 x11 true ((rd_T37 x9 x11).f0) ((rd_T37 x9 x11).f1))else(if((rd_T37 x9 x11).f0) > 4095 then(post_Formed.j1 k x9 x10 x11 true ((rd_T37 x9 x11).f0) ((rd_T37 x9 x11).f1))else(post_Formed.j1 k x9 x10 x11 ((((rd_T37 x9 x11).f1).length:Int)==0) ((rd_T37 x9 x11).f0) ((rd_T37 x9 x11).f1))))else(none))else(none))else(some true)
def post_Formed.j1:Nat->List (S37)->Int->Int->Bool->Int->List Int->Option (Bool)
 |0,_,_,_,_,_,_=>none
 |k+1,x9,x10,x11,x29,x103000,x103001=>if x29=true then(some false)else(post_Formed.l1 k x103000 (-1) x9 x10 x11 x103001 (x103001.length:Int) 0)
def post_Formed.l1:Nat->Int->Int->List (S37)->Int->Int->List Int->Int->Int->Option (Bool)
 |0,_,_,_,_,_,_,_,_=>none
 |k+1,x3,x6,x9,x10,x11,x33,x34,x35=>if x35 < x34 then(if 0<=x35 then(if x35 < (x33.length:Int)then(if(rd x33 x35)<=x6 then(some false)else(if(rd x33 x35) > 2147483647 then(some false)else(post_Formed.l1 k x3 (rd x33 x35) x9 x10 x11 x33 x34 (wrap64 (x35+1)))))else(none))else(none))else(post_Formed.l0 k x3 x9 x10 (wrap64 (x11+1)))
end
def post_Formed.f (k:Nat) (l0:List (S37)):Option (Bool):=post_Formed.l0 k (-1) l0 (l0.length:Int) 0
theorem post_Formed.mono_l:∀ k,(∀ y0 y1 y2 y3,LeO (post_Formed.l0 k y0 y1 y2 y3) (post_Formed.l0 (k+1) y0 y1 y2 y3))∧(∀ y0 y1 y2 y3 y4 y5,LeO (post_Formed.j1 k y0 y1 y2 y3 y4 y5) (post_Formed.j1 (k+1) y0 y1 y2 y3 y4 y5))∧(∀ y0 y1 y2 y3 y4 y5 y6 y7,LeO (post_Formed.l1 k y0 y1 y2 y3 y4 y5 y6 y7) (post_Formed.l1 (k+1) y0 y1 y2 y3 y4 y5 y6 y7))
 |0=>⟨fun _ _ _ _ r h=>by simp[post_Formed.l0]at h,fun _ _ _ _ _ _ r h=>by simp[post_Formed.j1]at h,fun _ _ _ _ _ _ _ _ r h=>by simp[post_Formed.l1]at h⟩
 |k+1=>by
  obtain⟨ih0,ih1,ih2⟩:=post_Formed.mono_l k
  refine⟨?_,?_,?_⟩
  .intro y0 y1 y2 y3
   unfold post_Formed.l0
   repeat' first
   |(with_reducible exact ih0 _ _ _ _)
   |(with_reducible exact ih1 _ _ _ _ _ _)
   |(with_reducible exact ih2 _ _ _ _ _ _ _ _)
   |(with_reducible exact LeO.refl _)
   |(with_reducible exact LeO.none _)
   |(with_reducible refine LeO.ite ?_ ?_)
   |(with_reducible refine LeO.bind ?_ (fun _=>?_))
  .intro y0 y1 y2 y3 y4 y5
   unfold post_Formed.j1
   repeat' first
   |(with_reducible exact ih0 _ _ _ _)
   |(with_reducible exact ih1 _ _ _ _ _ _)
   |(with_reducible exact ih2 _ _ _ _ _ _ _ _)
   |(with_reducible exact LeO.refl _)
   |(with_reducible exact LeO.none _)
   |(with_reducible refine LeO.ite ?_ ?_)
   |(with_reducible refine LeO.bind ?_ (fun _=>?_))
  .intro y0 y1 y2 y3 y4 y5 y6 y7
   unfold post_Formed.l1
   repeat' first
   |(with_reducible exact ih0 _ _ _ _)
   |(with_reducible exact ih1 _ _ _ _ _ _)
   |(with_reducible exact ih2 _ _ _ _ _ _ _ _)
   |(with_reducible exact LeO.refl _)
   |(with_reducible exact LeO.none _)
   |(with_reducible refine LeO.ite ?_ ?_)
   |(with_reducible refine LeO.bind ?_ (fun _=>?_))
theorem post_Formed.mono:∀ a0 k,LeO (post_Formed.f k a0) (post_Formed.f (k+1) a0):=by
 intro a0 k
 obtain⟨ih0,ih1,ih2⟩:=post_Formed.mono_l k
 unfold post_Formed.f
 repeat' first
   |(with_reducible exact ih0 _ _ _ _)
   |(with_reducible exact ih1 _ _ _ _ _ _)
   |(with_reducible exact ih2 _ _ _ _ _ _ _ _)
   |(with_reducible exact LeO.refl _)
   |(with_reducible exact LeO.none _)
   |(with_reducible refine LeO.ite ?_ ?_)
   |(with_reducible refine LeO.bind ?_ (fun _=>?_))
set_option maxHeartbeats 8000000 in
set_option maxRecDepth 100000 in
theorem post_Formed.calls (k:Nat) (A0:Option Addr) (c0:Nat) (l0:List (S37)) (r:Bool) (w:World) (hr0:Kd.C k37 w A0 l0.length l0) (hc0:l0.length<=c0) (h:post_Formed.f k l0=some r):
  Calls Try.prog 16 #[.slice A0 l0.length c0] w fun e w'=>e= .returned (.bool r)∧Below w.heap.size w w':=by
 have hu37:=Try.underlying37
 have HR0:=Aside0.mk hr0
 have HC0:=Aside0.mk hc0
 clear hr0 hc0
 have HB:=Aside0.mk (Below.refl w.heap.size w)
 have H:(post_Formed.l0 k (-1) l0 (l0.length:Int) 0)=some r:=h
 clear h
 have H':=Aside0.mk H
 clear H
 go_enter Try.func16,Try.ntmps16
 go_wp2
 go_loopg [3,11] k (fun kq v3 v11 w'=>∃ (x3_1:Int) (x11_1:Int),v3= .int .i64 x3_1∧v11= .int .i64 x11_1∧Aside0 (post_Formed.l0 kq x3_1 l0 (l0.length:Int) x11_1=some r)∧Aside0 (kq<=k)∧Aside0 (Below w.heap.size w w'))
 case atStart=>exact⟨((-1)),(0),rs_,rs_,H',⟨Nat.le_refl _⟩,⟨bw_⟩⟩
 case round=>
  clear H'
  obtain⟨x3_1,x11_1,rfl,rfl,HA,HK1,HB⟩:=hrel
  cases gk with
  |zero=>exact absurd HA.out (by simp[post_Formed.l0])
  |succ k1=>
   have H:=HA.out
   clear HA
   simp only[post_Formed.l0]at H
   by_cases c2:x11_1 < (l0.length:Int)
   rotate_left
   .rw[if_neg c2]at H
    have c2b0:=decide_eq_false c2
    clear c2
    obtain rfl:=Option.some.inj H
    go_wp2
    go_ret
    exact⟨rf_,bw_⟩
   rw[if_pos c2]at H
   have c2b0:=decide_eq_true c2
   clear c2
   by_cases c3:0<=x11_1
   rotate_left
   .rw[if_neg c3]at H
    cases H
   rw[if_pos c3]at H
   have c3b0:=decide_eq_true c3
   clear c3
   by_cases c4:x11_1 < (l0.length:Int)
   rotate_left
   .rw[if_neg c4]at H
    cases H
   rw[if_pos c4]at H
   have c4b0:=decide_eq_true c4
   clear c4
   have HC5:=Aside0.mk H
   clear H
   have p101:0<=(x11_1:Int):=od_
   have q101:x11_1 < (l0.length:Int):=od_
   obtain⟨ad101,A101_1,c101_1,e101,hx101_0,hx101_1,hl101_1,hi101_1⟩:=at_T37 HR0.out x11_1 p101 q101
   cases e101
   replace hx101_0:=cx_ HB.out rfl hx101_0
   replace hx101_1:=cx_ HB.out rfl hx101_1
   have HR101_1:=Aside0.mk hi101_1
   have HC101_1:=Aside0.mk hl101_1
   clear hi101_1 hl101_1
   replace p101:=eq_true p101
   replace q101:=eq_true q101
   go_upto_region 5 with (first|((with_reducible refine gate_dst (N:=5) rfl ?_);(try(refine gate_guard (by rfl) ?_;dsimp only));refine box_event ?hg (N:=5) ?hd (cs:= #[.int .i64 0,.slice none 0 0]) (t:=37) ?hr ?_;(case hd=>rfl);(case hg=>rfl);(case hr=>first|(go_simp;done)|(go_simp;rfl));intro gb102 hg w6 hbox hb;have n0_:=Aside0.mk (below_step bw_ hb);have n1_:=Aside0.mk (hbox);have n2_:=Aside0.mk ((by rw[hg];exact(pbS_ bw_):w.heap.size<=gb102));have n3_:=Aside0.mk ((by rw[hg];exact(pbS_ bw_):w.heap.size<=gb102));clear HB;have HB:=n0_;have BK102:=n1_;have GW102:=n2_;have GE102:=n3_;clear n0_ n1_ n2_ n3_;clear hb hbox hg;have hcz7_0:w6.cell? ⟨gb102,0,none⟩=some (.int .i64 0):=(blk_cell BK102.out 0).trans rfl;have hcz7_1:w6.cell? ⟨gb102,1,none⟩=some (.slice none 0 0):=(blk_cell BK102.out 1).trans rfl;have hfz7_0:=blk_frozen BK102.out 0;have hfz7_1:=blk_frozen BK102.out 1))
   go_cut [29] (fun v29 wc=>∃ (kq:Nat) (x29_4:Bool),v29= .bool x29_4∧Aside0 (post_Formed.j1 kq l0 (l0.length:Int) x11_1 x29_4 ((rd_T37 l0 x11_1).f0) ((rd_T37 l0 x11_1).f1)=some r)∧Aside0 (kq<=k1)∧Aside0 (wc.heap[gb102]? =some (.cells #[.int .i64 ((rd_T37 l0 x11_1).f0),(.slice A101_1 ((rd_T37 l0 x11_1).f1).length c101_1)] 37 (0,0)))∧Aside0 (Below w.heap.size w wc))
   case first=>
    have H:=HC5.out
    clear HC5
    by_cases c8:((rd_T37 l0 x11_1).f0)<=x3_1
    .rw[if_pos c8]at H
     have c8b0:=decide_eq_true c8
     clear c8
     (first|rw[c8b0]|(simp only[i64_w,i32_w];rw[c8b0])|skip)
     have H':=Aside0.mk H
     clear H
     have hcz9_0:w6.cell? ⟨gb102,0,none⟩=some (.int .i64 0):=(blk_cell BK102.out 0).trans rfl
     have hcz9_1:w6.cell? ⟨gb102,1,none⟩=some (.slice none 0 0):=(blk_cell BK102.out 1).trans rfl
     have hfz9_0:=blk_frozen BK102.out 0
     have hfz9_1:=blk_frozen BK102.out 1
     go_wp2
     go_meet
     case rel=>exact⟨_,(true),rs_,H',⟨by have:=HK1.out;first|omega|exact Nat.le_refl _⟩,⟨by(with_reducible repeat(first|refine blk_drewN ?_ _|refine blk_drew ?_|refine blk_alloc ?_ _));refine blk_put (cs:= #[.int .i64 ((rd_T37 l0 x11_1).f0),.slice none 0 0]) ?_ 1 _ rfl;(with_reducible repeat(first|refine blk_drewN ?_ _|refine blk_drew ?_|refine blk_alloc ?_ _));refine blk_put (cs:= #[.int .i64 0,.slice none 0 0]) ?_ 0 _ rfl;(with_reducible repeat(first|refine blk_drewN ?_ _|refine blk_drew ?_|refine blk_alloc ?_ _));exact BK102.out⟩,⟨bs_⟩⟩
    .rw[if_neg c8]at H
     have c8b0:=decide_eq_false c8
     clear c8
     (first|rw[c8b0]|(simp only[i64_w,i32_w];rw[c8b0])|skip)
     by_cases c10:((rd_T37 l0 x11_1).f0) > 4095
     rotate_left
     .rw[if_neg c10]at H
      have c10b0:=decide_eq_false c10
      clear c10
      have H':=Aside0.mk H
      clear H
      have hcz12_0:w6.cell? ⟨gb102,0,none⟩=some (.int .i64 0):=(blk_cell BK102.out 0).trans rfl
      have hcz12_1:w6.cell? ⟨gb102,1,none⟩=some (.slice none 0 0):=(blk_cell BK102.out 1).trans rfl
      have hfz12_0:=blk_frozen BK102.out 0
      have hfz12_1:=blk_frozen BK102.out 1
      go_wp2
      go_meet
      case rel=>exact⟨_,(((((rd_T37 l0 x11_1).f1).length:Int)==0)),rs_,H',⟨by have:=HK1.out;first|omega|exact Nat.le_refl _⟩,⟨by(with_reducible repeat(first|refine blk_drewN ?_ _|refine blk_drew ?_|refine blk_alloc ?_ _));refine blk_put (cs:= #[.int .i64 ((rd_T37 l0 x11_1).f0),.slice none 0 0]) ?_ 1 _ rfl;(with_reducible repeat(first|refine blk_drewN ?_ _|refine blk_drew ?_|refine blk_alloc ?_ _));refine blk_put (cs:= #[.int .i64 0,.slice none 0 0]) ?_ 0 _ rfl;(with_reducible repeat(first|refine blk_drewN ?_ _|refine blk_drew ?_|refine blk_alloc ?_ _));exact BK102.out⟩,⟨bs_⟩⟩
     rw[if_pos c10]at H
     have c10b0:=decide_eq_true c10
     clear c10
     have H':=Aside0.mk H
     clear H
     have hcz11_0:w6.cell? ⟨gb102,0,none⟩=some (.int .i64 0):=(blk_cell BK102.out 0).trans rfl
     have hcz11_1:w6.cell? ⟨gb102,1,none⟩=some (.slice none 0 0):=(blk_cell BK102.out 1).trans rfl
     have hfz11_0:=blk_frozen BK102.out 0
     have hfz11_1:=blk_frozen BK102.out 1
     go_wp2
     go_meet
     case rel=>exact⟨_,(true),rs_,H',⟨by have:=HK1.out;first|omega|exact Nat.le_refl _⟩,⟨by(with_reducible repeat(first|refine blk_drewN ?_ _|refine blk_drew ?_|refine blk_alloc ?_ _));refine blk_put (cs:= #[.int .i64 ((rd_T37 l0 x11_1).f0),.slice none 0 0]) ?_ 1 _ rfl;(with_reducible repeat(first|refine blk_drewN ?_ _|refine blk_drew ?_|refine blk_alloc ?_ _));refine blk_put (cs:= #[.int .i64 0,.slice none 0 0]) ?_ 0 _ rfl;(with_reducible repeat(first|refine blk_drewN ?_ _|refine blk_drew ?_|refine blk_alloc ?_ _));exact BK102.out⟩,⟨bs_⟩⟩
   case rest=>
    clear HC5
    clear c2b0
    clear c3b0
    clear c4b0
    clear hcz7_0 hcz7_1
    clear hfz7_0 hfz7_1
    clear hx101_0 hx101_1 p101 q101
    obtain⟨kq,x29_4,rfl,HA,HJ4,BK102,HB⟩:=hcut
    cases kq with
    |zero=>exact absurd HA.out (by simp[post_Formed.j1])
    |succ kj4=>
     have H:=HA.out
     clear HA
     simp only[post_Formed.j1]at H
     by_cases c13:x29_4=true
     .subst c13
      rw[if_pos rfl]at H
      obtain rfl:=Option.some.inj H
      go_wp2
      go_ret
      exact⟨rf_,bs_⟩
     .replace c13:=Bool.eq_false_iff.mpr c13
      subst c13
      rw[if_neg (show ¬ (false=true) by decide)]at H
      have H':=Aside0.mk H
      clear H
      have hcz14_0:wc.cell? ⟨gb102,0,none⟩=some (.int .i64 ((rd_T37 l0 x11_1).f0)):=(blk_cell BK102.out 0).trans rfl
      have hcz14_1:wc.cell? ⟨gb102,1,none⟩=some (.slice A101_1 ((rd_T37 l0 x11_1).f1).length c101_1):=(blk_cell BK102.out 1).trans rfl
      have hfz14_0:=blk_frozen BK102.out 0
      have hfz14_1:=blk_frozen BK102.out 1
      go_wp2
      go_loopg [6,35] kj4 (fun kq v6 v35 w'=>∃ (x6_3:Int) (x35_3:Int),v6= .int .i64 x6_3∧v35= .int .i64 x35_3∧Aside0 (post_Formed.l1 kq ((rd_T37 l0 x11_1).f0) x6_3 l0 (l0.length:Int) x11_1 ((rd_T37 l0 x11_1).f1) (((rd_T37 l0 x11_1).f1).length:Int) x35_3=some r)∧Aside0 (kq<=kj4)∧Aside0 (w'.heap[gb102]? =some (.cells #[.int .i64 ((rd_T37 l0 x11_1).f0),(.slice A101_1 ((rd_T37 l0 x11_1).f1).length c101_1)] 37 (0,0)))∧Aside0 (Below w.heap.size w w'))
      case atStart=>exact⟨((-1)),(0),rs_,rs_,H',⟨Nat.le_refl _⟩,⟨bk_ BK102.out⟩,⟨bs_⟩⟩
      case round=>
       clear H'
       clear hcz14_0 hcz14_1
       clear hfz14_0 hfz14_1
       obtain⟨x6_3,x35_3,rfl,rfl,HA,HK3,BK102,HB⟩:=hrel
       cases gk with
       |zero=>exact absurd HA.out (by simp[post_Formed.l1])
       |succ k3=>
        have H:=HA.out
        clear HA
        simp only[post_Formed.l1]at H
        by_cases c15:x35_3 < (((rd_T37 l0 x11_1).f1).length:Int)
        rotate_left
        .rw[if_neg c15]at H
         have c15b0:=decide_eq_false c15
         clear c15
         have H':=Aside0.mk H
         clear H
         go_wp2
         go_roundg k3
         case measure=>have:=HK1.out;have:=HJ4.out;have:=HK3.out;omega
         case rel=>exact⟨(((rd_T37 l0 x11_1).f0)),(wrap64 (x11_1+1)),rs_,rs_,H',⟨by have:=HK1.out;have:=HJ4.out;have:=HK3.out;omega⟩,⟨bs_⟩⟩
        rw[if_pos c15]at H
        have c15b0:=decide_eq_true c15
        clear c15
        by_cases c16:0<=x35_3
        rotate_left
        .rw[if_neg c16]at H
         cases H
        rw[if_pos c16]at H
        have c16b0:=decide_eq_true c16
        clear c16
        by_cases c17:x35_3 < (((rd_T37 l0 x11_1).f1).length:Int)
        rotate_left
        .rw[if_neg c17]at H
         cases H
        rw[if_pos c17]at H
        have c17b0:=decide_eq_true c17
        clear c17
        by_cases c18:(rd ((rd_T37 l0 x11_1).f1) x35_3)<=x6_3
        .rw[if_pos c18]at H
         have c18b0:=decide_eq_true c18
         clear c18
         obtain rfl:=Option.some.inj H
         have p103:0<=(x35_3:Int):=od_
         have q103:x35_3 < (((rd_T37 l0 x11_1).f1).length:Int):=od_
         obtain⟨ad103,e103,hx103_0⟩:=Kd.at_int HR101_1.out x35_3 p103 q103
         cases e103
         replace hx103_0:=cx_ HB.out rfl hx103_0
         replace p103:=eq_true p103
         replace q103:=eq_true q103
         go_wp2
         go_ret
         exact⟨rf_,bs_⟩
        .rw[if_neg c18]at H
         have c18b0:=decide_eq_false c18
         clear c18
         by_cases c19:(rd ((rd_T37 l0 x11_1).f1) x35_3) > 2147483647
         .rw[if_pos c19]at H
          have c19b0:=decide_eq_true c19
          clear c19
          obtain rfl:=Option.some.inj H
          have p103:0<=(x35_3:Int):=od_
          have q103:x35_3 < (((rd_T37 l0 x11_1).f1).length:Int):=od_
          obtain⟨ad103,e103,hx103_0⟩:=Kd.at_int HR101_1.out x35_3 p103 q103
          cases e103
          replace hx103_0:=cx_ HB.out rfl hx103_0
          replace p103:=eq_true p103
          replace q103:=eq_true q103
          go_wp2
          go_ret
          exact⟨rf_,bs_⟩
         .rw[if_neg c19]at H
          have c19b0:=decide_eq_false c19
          clear c19
          have H':=Aside0.mk H
          clear H
          have p103:0<=(x35_3:Int):=od_
          have q103:x35_3 < (((rd_T37 l0 x11_1).f1).length:Int):=od_
          obtain⟨ad103,e103,hx103_0⟩:=Kd.at_int HR101_1.out x35_3 p103 q103
          cases e103
          replace hx103_0:=cx_ HB.out rfl hx103_0
          replace p103:=eq_true p103
          replace q103:=eq_true q103
          go_wp2
          go_roundg k3
          case measure=>have:=HK1.out;have:=HJ4.out;have:=HK3.out;omega
          case rel=>exact⟨(rd ((rd_T37 l0 x11_1).f1) x35_3),(wrap64 (x35_3+1)),rs_,rs_,H',⟨by have:=HK1.out;have:=HJ4.out;have:=HK3.out;omega⟩,⟨bk_ BK102.out⟩,⟨bs_⟩⟩
def slices_Grow_byte_byte.f (l0:List Int) (a1:Int):Option (List Int):=if 0<=a1 then(if(l0.length:Int)+a1 < 140737488355328 then some l0 else none)else none
set_option maxHeartbeats 8000000 in
set_option maxRecDepth 100000 in
theorem slices_Grow_byte_byte.calls (P0_:Nat->Prop) (u9000_:Value) (l0:List Int) (a1:Int) (r:List Int) (w0 w:World) (hB:Below w0.heap.size w0 w) (ho0:Kd.R (Kd.int .u8) 5 w w0.heap.size P0_ u9000_ l0) (h:slices_Grow_byte_byte.f l0 a1=some r):
  Calls Try.prog 42 #[u9000_,.int .i64 a1] w fun e w'=>∃ v0_:Value,e= .returned (v0_)∧Kd.R (Kd.int .u8) 5 w' w0.heap.size (fun k_=>(P0_ k_∨w.heap.size<=k_)) v0_ r∧Below w0.heap.size w0 w'∧Kept w w' (fun k_=>P0_ k_):=by
 unfold slices_Grow_byte_byte.f at h
 by_cases h0:0<=a1
 rotate_left
 .rw[if_neg h0]at h;cases h
 rw[if_pos h0]at h
 by_cases hl:(l0.length:Int)+a1 < 140737488355328
 rotate_left
 .rw[if_neg hl]at h;cases h
 rw[if_pos hl]at h
 obtain rfl:=Option.some.inj h
 clear h
 obtain⟨A,c,rfl,hnc,_⟩:=Kd.R_reads ho0
 have hcm:c<=9223372036854775807:=by
  rcases(Kd.own_of_R ho0).2 with ⟨he,_⟩|⟨g,cap,cur,he,_,_,_,hcm,_⟩
  .injection he with _ _ he;omega
  .injection he with _ _ he;subst he;simpa[maxLen]using hcm
 by_cases hp:a1<=(c:Int) - (l0.length:Int)
 .have hlt: ¬ 0 < a1 - ((c:Int) - (l0.length:Int)):=by omega
  have HO:=Aside0.mk ho0
  have HB:=Aside0.mk hB
  clear hl ho0 hB
  go_enter Try.func42,Try.ntmps42
  go_wp2
  go_ret
  exact⟨_,rfl,Kd.R_mono HO.out (fun k hk=> .inl hk),HB.out,Kept.refl _ _⟩
 .have hlt:0 < a1 - ((c:Int) - (l0.length:Int)):=by omega
  obtain⟨m,hm⟩:∃ m:Nat,a1 - ((c:Int) - (l0.length:Int))=(m:Int):=⟨(a1 - ((c:Int) - (l0.length:Int))).toNat,by omega⟩
  obtain⟨A',c',w1,hrun,hcc,hR,hg⟩:=Kd.grow_run (P:=Try.prog) 22 3 22 (.int .u8 0) 1 Try.underlying22 Try.underlying3 info5 rfl rfl (by decide) ho0 .i64 m (by omega) hB.size
  have hcut1:∀ W:World,(Instr.slice 22 (.slice A l0.length c) none (some (.int .i64 (c:Int))) none).run Try.prog W= .ok (.slice A c c) W:=fun W=>by
   obtain⟨i0,hi0,_,hsz,_⟩:=info_parts info5
   have hel:Try.prog.elem 22=5:=by simp[Program.elem,Try.underlying22]
   have hu:Try.prog.underlying 22=some (.slice (Try.prog.elem 22)):=by rw[hel];exact Try.underlying22
   have ha:(A.map fun x=>x.add 0)=A:=by cases A<;>simp[Addr.add]
   rw[run_slice_h W 22 A l0.length c hu .i64 (c:Int) (by omega) (by omega),hel]
   simp[sizeOf,typeInfo,hi0,sliced,Result.andThen,ha]
  have hcut2:∀ W:World,(Instr.slice 22 (.slice A' (c+m) c') none (some (.int .i64 (l0.length:Int))) none).run Try.prog W= .ok (.slice A' l0.length c') W:=fun W=>by
   obtain⟨i0,hi0,_,hsz,_⟩:=info_parts info5
   have:=cut_to (P:=Try.prog) 22 5 .i64 Try.underlying22 hi0 A' (c+m) c' (l0.length:Int) (by omega) (by omega) hcc W
   simpa using this
  have hfin:Kd.R (Kd.int .u8) 5 w1 w0.heap.size (fun k_=>(P0_ k_∨w.heap.size<=k_)) (.slice A' l0.length c') l0:=hR
  have hK:Kept w w1 (fun k_=>P0_ k_):=Kept.of_grown hg (Kept.refl _ _) (fun k hk=> .inl (ho0.1 k hk))
  have hBB:Below w0.heap.size w0 w1:=hB.grown hg hB.size (fun k hk=>Kd.R_base ho0 k hk)
  have HO:=Aside0.mk hfin
  have HK:=Aside0.mk hK
  have HB:=Aside0.mk hBB
  have HRUN:=Aside0.mk hrun
  have HM:=Aside0.mk hm
  have HL:=Aside0.mk hlt
  have hmb:(m:Int)<=140737488355328:=by omega
  have hmp:(0:Int) < (m:Int):=by omega
  clear hl ho0 hB hR hg hrun hfin hK hBB hcc hlt hp
  go_enter Try.func42,Try.ntmps42
  go_wp2_with (first|((with_reducible refine gate_builtin (b:= .append) (xs:= #[.tmp 20,.tmp 21]) rfl ?_);at_builtin;refine Kd.grow_event rfl (.tmp 20) (.tmp 21) 22 3 rfl (.slice A c c) (.int .i64 (m:Int)) _ rfl (by first|rfl|(go_simp;rfl)) HRUN.out ?_))
  go_ret
  exact⟨_,rfl,HO.out,HB.out,HK.out⟩
def slices_Clone_byte_byte.f (l0:List Int):Option (List Int):=if l0.length < 140737488355328 then some l0 else none
set_option maxHeartbeats 8000000 in
set_option maxRecDepth 100000 in
theorem slices_Clone_byte_byte.calls (A0:Option Addr) (c0:Nat) (l0:List Int) (r:List Int) (w:World) (hr0:Kd.C (Kd.int .u8) w A0 l0.length l0) (hc0:l0.length<=c0) (h:slices_Clone_byte_byte.f l0=some r):
  Calls Try.prog 43 #[.slice A0 l0.length c0] w fun e w'=>∃ v0_:Value,e= .returned (v0_)∧Kd.R (Kd.int .u8) 5 w' w.heap.size (fun _=>True) v0_ r∧Below w.heap.size w w':=by
 have HR0:=Aside0.mk hr0
 have HC0:=Aside0.mk hc0
 have HB:=Aside0.mk (Below.refl w.heap.size w)
 have H:(if l0.length < 140737488355328 then some l0 else none)=some r:=h
 clear h
 by_cases c2:l0.length < 140737488355328
 rotate_left
 .rw[if_neg c2]at H
  cases H
 rw[if_pos c2]at H
 obtain rfl:=Option.some.inj H
 cases A0 with
 |none=>
  have hl:l0=[]:=by
   rcases Nat.eq_zero_or_pos l0.length with h|h
   .exact List.eq_nil_of_length_eq_zero h
   .obtain⟨ad,e,_⟩:=hr0.2.2 h
    cases e
  subst hl
  clear hr0 hc0 c2
  have qT:∀ (w:World) (a:Option Addr) (n c:Nat),(binOp .eql 22 (.slice a n c) (.slice none 0 0)).run Try.prog w= .ok (.bool a.isNone) w:=fun w a n c=>Lib.run_eql_slice_nil w _ _ a n c 0 0 Try.underlying22
  go_enter Try.func43,Try.ntmps43
  go_wp2
  go_ret
  exact⟨_,rfl,Kd.R_nil _ _ _ _ _,bw_⟩
 |some a0=>
  clear hr0 hc0
  obtain⟨y1,hy1⟩:∃ y_:List Int,y_=(([]:List Int)):=⟨_,rfl⟩
  have LMc2:Aside0 (y1.length+l0.length < 140737488355328):=Aside0.mk (by rw[hy1];simpa using c2)
  clear c2
  obtain⟨y2,hy2⟩:∃ y_:List Int,y_=y1++l0:=⟨_,rfl⟩
  have Nl:Aside0 (l0=y2):=Aside0.mk (by rw[hy2,hy1];rfl)
  have Ny1:=Aside0.mk hy1
  have Ny2:=Aside0.mk hy2
  clear hy1 hy2
  have qT:∀ (w:World) (a:Option Addr) (n c:Nat),(binOp .eql 22 (.slice a n c) (.slice none 0 0)).run Try.prog w= .ok (.bool a.isNone) w:=fun w a n c=>Lib.run_eql_slice_nil w _ _ a n c 0 0 Try.underlying22
  go_enter Try.func43,Try.ntmps43
  go_wp2_with (first|((with_reducible refine gate_dst (N:=5) rfl ?_);refine Kd.R_lit (Kd.int .u8) _ 5 ?hg (N:=5) ?hd (xs:=([]:List Int)) (inner:=[]) (ok:=fun _=>True) (okp:=fun _=>True) ?hr ?hp (fun _ hk=>hk) trivial (Below.refl _ _) (Nat.le_refl _) (by simp) ?_;(case hd=>rfl);(case hg=>rfl);(case hr=>first|(go_simp;done)|(go_simp;rfl));(case hp=>exact(Reps.none _ _));intro v162 w3 ho4 hb hg_ hnew_;clear hg_ hnew_;(first|rw[<- Ny1.out]at ho4|(simp only[Int.reduceToNat]at ho4;rw[<- Ny1.out]at ho4));have HO163:=Aside0.mk (Kd.R_lower ho4 (pbS_ bw_));replace HB:=Aside0.mk (below_step bw_ hb);clear hb ho4)|((with_reducible refine gate_builtin (b:= .append) (xs:= #[.tmp 5,.tmp 6]) rfl ?_);at_builtin;refine Kd.R_append_rows (Kd.int .u8) (w0:=w) w.heap.size rfl (.tmp 5) (.tmp 6) 22 5 (.int .u8 0) 1 rfl Try.underlying22 info5 rfl (by decide) (by omega) v162 y1 l0 _ _ _ (fun _=>True) (fun _=>False) rfl rfl ?aO ?aR (fun _ _ h=>h) (fun _ h=>h.elim) ?aF ?aB ?aS ?aL ?_;(case aR=>exact Kd.cu_ (Kd.C_below HR0.out HB.out));(case aB=>exact bw_);(case aF=>exact(fun _ _=>trivial));(case aO=>exact(Kd.ru_ HO163.out));(case aS=>exact(pbS_ bw_));(case aL=>have:=LMc2.out;omega);intro v165 w5 ho hb hg hat;rw[<- Ny2.out,<- Nl.out]at ho;have n0_:=Aside0.mk (hb);have n1_:=Aside0.mk (ho);clear HB;clear HO163;have HB:=n0_;have HO166:=n1_;clear n0_ n1_;clear ho hb hg hat))
  go_ret
  exact⟨_,rfl,by(with_reducible repeat(first|apply Kd.rA_|apply Kd.rN_|apply Kd.rD_));exact HO166.out,bw_⟩
def bits_Len64.f (a0:Int):Option Int:=if 0<=a0 then(if a0<=18446744073709551615 then some (Lib.bitLen a0.toNat:Int)else none)else none
theorem bits_Len64.calls (a0:Int) (r:Int) (w:World) (h:bits_Len64.f a0=some r):
  Calls Try.prog 64 #[.int .u64 a0] w fun e w'=>e= .returned (.int .i64 r)∧Drawn0 w w':=by
 unfold bits_Len64.f at h
 by_cases h0:0<=a0
 rotate_left
 .rw[if_neg h0]at h;cases h
 rw[if_pos h0]at h
 by_cases h1:a0<=18446744073709551615
 rotate_left
 .rw[if_neg h1]at h;cases h
 rw[if_pos h1]at h
 obtain rfl:=Option.some.inj h
 exact(Go.Proofs.YtooeclfeallkkaaPre.pre_bits_Len64 a0 w h0 h1).mono fun e w' ⟨he,hw⟩=>⟨he,by subst hw;exact Drawn0.refl _⟩
def num_size.f (a0:Int):Option (Int):=(bits_Len64.f a0).bind fun t104=>(some (wrap64 (Int.tdiv (wrap64 (t104+7)) 8)))
set_option maxHeartbeats 8000000 in
set_option maxRecDepth 100000 in
theorem num_size.calls (a0:Int) (r:Int) (w:World) (h:num_size.f a0=some r):
  Calls Try.prog 44 #[.int .u64 a0] w fun e w'=>e= .returned (.int .i64 r)∧Drawn0 w w':=by
 have H:((bits_Len64.f a0).bind fun t104=>(some (wrap64 (Int.tdiv (wrap64 (t104+7)) 8))))=some r:=h
 clear h
 replace H:=Option.bind_eq_some_iff.mp H
 obtain⟨t104,A20,H⟩:=H
 try dsimp only at H
 have A2:=Aside0.mk A20
 clear A20
 obtain rfl:=Option.some.inj H
 go_enter Try.func44,Try.ntmps44
 go_wp2_with (first|((with_reducible refine gaC_ (f:=64) rfl ?_);refine goesL_ (some 4) rfl rfl Try.func64 (by kernel_rfl) rfl #[.int .u64 a0] rfl am_ ?_;(with_reducible refine(bits_Len64.calls a0 t104 _ A2.out).mono ?_);rintro e w' ⟨rfl,⟨nd,rfl⟩⟩;refine⟨_,rfl,?_⟩))
 go_ret
 exact⟨by first|rfl|(simp;done)|(simp[*];done),by repeat(first|exact Drawn0.refl _|apply Drawn0.step)⟩
def num_Put.l0:Nat->Int->List Int->Int->Int->Option (List Int)
 |0,_,_,_,_=>none
 |k+1,x1,x5,x25,x26=>if x26 < x25 then(if x5.length < 140737488355328 then(num_Put.l0 k (x1 / 256) (x5++[(x1) % 256]) x25 (wrap64 (x26+1)))else(none))else(some x5)
def num_Put.f (k:Nat) (l0:List Int) (a1:Int):Option (List Int):=(slices_Clone_byte_byte.f l0).bind fun t105=>((slices_Grow_byte_byte.f t105 9).bind fun t108=>(if a1<=247 then(if t108.length < 140737488355328 then(some (t108++[(a1) % 256]))else(none))else((num_size.f a1).bind fun t114=>(if t108.length < 140737488355328 then(num_Put.l0 k a1 (t108++[(wrap64 (247+t114)) % 256]) t114 0)else(none)))))
theorem num_Put.mono_l:∀ k,(∀ y0 y1 y2 y3,LeO (num_Put.l0 k y0 y1 y2 y3) (num_Put.l0 (k+1) y0 y1 y2 y3))
 |0=>fun _ _ _ _ r h=>by simp[num_Put.l0]at h
 |k+1=>by
  have ih0:=num_Put.mono_l k
  .intro y0 y1 y2 y3
   unfold num_Put.l0
   repeat' first
   |(with_reducible exact ih0 _ _ _ _)
   |(with_reducible exact LeO.refl _)
   |(with_reducible exact LeO.none _)
   |(with_reducible refine LeO.ite ?_ ?_)
   |(with_reducible refine LeO.bind ?_ (fun _=>?_))
theorem num_Put.mono:∀ a0 a1 k,LeO (num_Put.f k a0 a1) (num_Put.f (k+1) a0 a1):=by
 intro a0 a1 k
 have ih0:=num_Put.mono_l k
 unfold num_Put.f
 repeat' first
   |(with_reducible exact ih0 _ _ _ _)
   |(with_reducible exact LeO.refl _)
   |(with_reducible exact LeO.none _)
   |(with_reducible refine LeO.ite ?_ ?_)
   |(with_reducible refine LeO.bind ?_ (fun _=>?_))
set_option maxHeartbeats 8000000 in
set_option maxRecDepth 100000 in
theorem num_Put.calls (k:Nat) (A0:Option Addr) (c0:Nat) (l0:List Int) (a1:Int) (r:List Int) (w:World) (hr0:Kd.C (Kd.int .u8) w A0 l0.length l0) (hc0:l0.length<=c0) (h:num_Put.f k l0 a1=some r):
  Calls Try.prog 24 #[.slice A0 l0.length c0,.int .u64 a1] w fun e w'=>∃ v0_:Value,e= .returned (v0_)∧Kd.R (Kd.int .u8) 5 w' w.heap.size (fun _=>True) v0_ r∧Below w.heap.size w w':=by
 have HR0:=Aside0.mk hr0
 have HC0:=Aside0.mk hc0
 clear hr0 hc0
 have HB:=Aside0.mk (Below.refl w.heap.size w)
 have H:((slices_Clone_byte_byte.f l0).bind fun t105=>((slices_Grow_byte_byte.f t105 9).bind fun t108=>(if a1<=247 then(if t108.length < 140737488355328 then(some (t108++[(a1) % 256]))else(none))else((num_size.f a1).bind fun t114=>(if t108.length < 140737488355328 then(num_Put.l0 k a1 (t108++[(wrap64 (247+t114)) % 256]) t114 0)else(none))))))=some r:=h
 clear h
 replace H:=Option.bind_eq_some_iff.mp H
 obtain⟨t105,A30,H⟩:=H
 try dsimp only at H
 have A3:=Aside0.mk A30
 clear A30
 replace H:=Option.bind_eq_some_iff.mp H
 obtain⟨t108,A40,H⟩:=H
 try dsimp only at H
 have A4:=Aside0.mk A40
 clear A40
 by_cases c5:a1<=247
 .rw[if_pos c5]at H
  have c5b0:=decide_eq_true c5
  clear c5
  by_cases c6:t108.length < 140737488355328
  rotate_left
  .rw[if_neg c6]at H
   cases H
  rw[if_pos c6]at H
  have LMc6:=Aside0.mk c6
  clear c6
  obtain⟨y111,hy111⟩:∃ y_:List Int,y_=(t108++[(a1) % 256]):=⟨_,rfl⟩
  replace H:(some y111)=some r:=hx_ hy111 H
  have Ny111:=Aside0.mk hy111
  clear hy111
  obtain rfl:=Option.some.inj H
  go_enter Try.func24,Try.ntmps24
  go_wp2_with (first|((with_reducible refine gaC_ (f:=43) rfl ?_);refine goesL_ (some 8) rfl rfl Try.func43 (by kernel_rfl) rfl #[.slice A0 l0.length c0] rfl am_ ?_;(with_reducible refine(slices_Clone_byte_byte.calls _ _ l0 t105 _ ?side1 ?side2 A3.out).mono ?_);(case side1=>exact Kd.cu_ HR0.out);(case side2=>exact HC0.out);rintro e w7 ⟨v106,rfl,ho0,hb⟩;refine⟨_,rfl,?_⟩;have HO107:=Aside0.mk (Kd.R_lower ho0 (pbS_ bw_));replace HB:=Aside0.mk (below_step bw_ hb);obtain⟨Ao8,co8,eo8⟩:=Kd.R_slice HO107.out;subst eo8)|((with_reducible refine gaC_ (f:=42) rfl ?_);refine goesL_ (some 9) rfl rfl Try.func42 (by kernel_rfl) rfl #[.slice Ao8 t105.length co8,.int .i64 9] rfl am_ ?_;(with_reducible refine(slices_Grow_byte_byte.calls (fun k_=>some k_=(.slice Ao8 t105.length co8:Value).ownBlock) (.slice Ao8 t105.length co8) t105 9 t108 w _ ?side1 ?side2 A4.out).mono ?_);(case side1=>repeat(first|(with_reducible first|exact HB.out|apply pbA_|apply pbN_|apply pb1_)|exact HB.out));(case side2=>exact Kd.R_tight rfl HO107.out);rintro e w9 ⟨v109,rfl,ho0,hb,hkp⟩;refine⟨_,rfl,?_⟩;have n0_:=Aside0.mk (Kd.R_mono (ok':=fun k_=>True) ho0 (fun k_ hk_=>trivial));have n1_:=Aside0.mk (hb);clear HB;clear HO107;have HO110:=n0_;have HB:=n1_;clear n0_ n1_;(try clear hkp))|((with_reducible refine gate_builtin (b:= .append) (xs:= #[.tmp 12,.tmp 15]) rfl ?_);at_builtin;refine Kd.R_append (Kd.int .u8) (w0:=w) w.heap.size rfl (.tmp 12) (.tmp 15) 22 5 (.int .u8 0) 1 rfl Try.underlying22 info5 rfl (by decide) (by omega) v109 t108 ((a1) % 256) [.int .u8 ((a1) % 256)] (fun _=>True) (fun _=>False) rfl rfl ?aP (fun _ hk=>hk.elim) ?aF ?aO ?aB ?aS ?aL ?_;(case aP=>exact rfl);(case aB=>exact bw_);(case aF=>exact(fun _ _=>trivial));(case aO=>exact(Kd.ru_ HO110.out));(case aS=>exact(pbS_ bw_));(case aL=>have:=LMc6.out;omega);intro v112 w10 ho hb hg hat;rw[<- Ny111.out]at ho;have n0_:=Aside0.mk (hb);have n1_:=Aside0.mk (ho);clear HB;clear HO110;have HB:=n0_;have HO113:=n1_;clear n0_ n1_;clear ho hb hg hat))
  go_ret
  exact⟨_,rf_,by(with_reducible repeat(first|apply Kd.rA_|apply Kd.rN_|apply Kd.rD_));exact HO113.out,bw_⟩
 .rw[if_neg c5]at H
  have c5b0:=decide_eq_false c5
  clear c5
  replace H:=Option.bind_eq_some_iff.mp H
  obtain⟨t114,A110,H⟩:=H
  try dsimp only at H
  have A11:=Aside0.mk A110
  clear A110
  by_cases c12:t108.length < 140737488355328
  rotate_left
  .rw[if_neg c12]at H
   cases H
  rw[if_pos c12]at H
  have LMc12:=Aside0.mk c12
  clear c12
  obtain⟨y115,hy115⟩:∃ y_:List Int,y_=(t108++[(wrap64 (247+t114)) % 256]):=⟨_,rfl⟩
  replace H:(num_Put.l0 k a1 y115 t114 0)=some r:=hx_ hy115 H
  have Ny115:=Aside0.mk hy115
  clear hy115
  have H':=Aside0.mk H
  clear H
  go_enter Try.func24,Try.ntmps24
  go_wp2_with (first|((with_reducible refine gaC_ (f:=43) rfl ?_);refine goesL_ (some 8) rfl rfl Try.func43 (by kernel_rfl) rfl #[.slice A0 l0.length c0] rfl am_ ?_;(with_reducible refine(slices_Clone_byte_byte.calls _ _ l0 t105 _ ?side1 ?side2 A3.out).mono ?_);(case side1=>exact Kd.cu_ HR0.out);(case side2=>exact HC0.out);rintro e w13 ⟨v106,rfl,ho0,hb⟩;refine⟨_,rfl,?_⟩;have HO107:=Aside0.mk (Kd.R_lower ho0 (pbS_ bw_));replace HB:=Aside0.mk (below_step bw_ hb);obtain⟨Ao14,co14,eo14⟩:=Kd.R_slice HO107.out;subst eo14)|((with_reducible refine gaC_ (f:=42) rfl ?_);refine goesL_ (some 9) rfl rfl Try.func42 (by kernel_rfl) rfl #[.slice Ao14 t105.length co14,.int .i64 9] rfl am_ ?_;(with_reducible refine(slices_Grow_byte_byte.calls (fun k_=>some k_=(.slice Ao14 t105.length co14:Value).ownBlock) (.slice Ao14 t105.length co14) t105 9 t108 w _ ?side1 ?side2 A4.out).mono ?_);(case side1=>repeat(first|(with_reducible first|exact HB.out|apply pbA_|apply pbN_|apply pb1_)|exact HB.out));(case side2=>exact Kd.R_tight rfl HO107.out);rintro e w15 ⟨v109,rfl,ho0,hb,hkp⟩;refine⟨_,rfl,?_⟩;have n0_:=Aside0.mk (Kd.R_mono (ok':=fun k_=>True) ho0 (fun k_ hk_=>trivial));have n1_:=Aside0.mk (hb);clear HB;clear HO107;have HO110:=n0_;have HB:=n1_;clear n0_ n1_;(try clear hkp))|((with_reducible refine gaC_ (f:=44) rfl ?_);refine goesL_ (some 18) rfl rfl Try.func44 (by kernel_rfl) rfl #[.int .u64 a1] rfl am_ ?_;(with_reducible refine(num_size.calls a1 t114 _ A11.out).mono ?_);rintro e w' ⟨rfl,⟨nd,rfl⟩⟩;refine⟨_,rfl,?_⟩)|((with_reducible refine gate_builtin (b:= .append) (xs:= #[.tmp 19,.tmp 23]) rfl ?_);at_builtin;refine Kd.R_append (Kd.int .u8) (w0:=w) w.heap.size rfl (.tmp 19) (.tmp 23) 22 5 (.int .u8 0) 1 rfl Try.underlying22 info5 rfl (by decide) (by omega) v109 t108 ((wrap64 (247+t114)) % 256) [.int .u8 ((wrap64 (247+t114)) % 256)] (fun _=>True) (fun _=>False) rfl rfl ?aP (fun _ hk=>hk.elim) ?aF ?aO ?aB ?aS ?aL ?_;(case aP=>exact rfl);(case aB=>exact bw_);(case aF=>exact(fun _ _=>trivial));(case aO=>exact(Kd.ru_ HO110.out));(case aS=>exact(pbS_ bw_));(case aL=>have:=LMc12.out;omega);intro v116 w16 ho hb hg hat;rw[<- Ny115.out]at ho;have n0_:=Aside0.mk (hb);have n1_:=Aside0.mk (ho);clear HB;clear HO110;have HB:=n0_;have HO117:=n1_;clear n0_ n1_;clear ho hb hg hat))
  go_loopg [1,5,26] k (fun kq v1 v5 v26 w'=>∃ (x1_1:Int) (x5_1:List Int) (x26_1:Int),v1= .int .u64 x1_1∧v26= .int .i64 x26_1∧Aside0 (num_Put.l0 kq x1_1 x5_1 t114 x26_1=some r)∧Aside0 (kq<=k)∧Aside0 (Kd.R (Kd.int .u8) 5 w' w.heap.size (fun _=>True) v5 x5_1)∧Aside0 (Below w.heap.size w w'))
  case atStart=>exact⟨(a1),(y115),(0),rs_,rs_,H',⟨Nat.le_refl _⟩,⟨Kd.ru_ HO117.out⟩,⟨bw_⟩⟩
  case round=>
   clear H'
   clear c5b0
   obtain⟨x1_1,x5_1,x26_1,rfl,rfl,HA,HK1,HO_5,HB⟩:=hrel
   cases gk with
   |zero=>exact absurd HA.out (by simp[num_Put.l0])
   |succ k1=>
    have H:=HA.out
    clear HA
    simp only[num_Put.l0]at H
    by_cases c17:x26_1 < t114
    rotate_left
    .rw[if_neg c17]at H
     have c17b0:=decide_eq_false c17
     clear c17
     obtain rfl:=Option.some.inj H
     go_wp2
     go_ret
     exact⟨_,rf_,by(with_reducible repeat(first|apply Kd.rA_|apply Kd.rN_|apply Kd.rD_));exact HO_5.out,bw_⟩
    rw[if_pos c17]at H
    have c17b0:=decide_eq_true c17
    clear c17
    by_cases c18:x5_1.length < 140737488355328
    rotate_left
    .rw[if_neg c18]at H
     cases H
    rw[if_pos c18]at H
    have LMc18:=Aside0.mk c18
    clear c18
    obtain⟨y118,hy118⟩:∃ y_:List Int,y_=(x5_1++[(x1_1) % 256]):=⟨_,rfl⟩
    replace H:(num_Put.l0 k1 (x1_1 / 256) y118 t114 (wrap64 (x26_1+1)))=some r:=hx_ hy118 H
    have Ny118:=Aside0.mk hy118
    clear hy118
    have H':=Aside0.mk H
    clear H
    go_wp2_with (first|((with_reducible refine gate_builtin (b:= .append) (xs:= #[.tmp 28,.tmp 31]) rfl ?_);at_builtin;refine Kd.R_append (Kd.int .u8) (w0:=w) w.heap.size rfl (.tmp 28) (.tmp 31) 22 5 (.int .u8 0) 1 rfl Try.underlying22 info5 rfl (by decide) (by omega) u5 x5_1 ((x1_1) % 256) [.int .u8 ((x1_1) % 256)] (fun _=>True) (fun _=>False) rfl rfl ?aP (fun _ hk=>hk.elim) ?aF ?aO ?aB ?aS ?aL ?_;(case aP=>exact rfl);(case aB=>exact bw_);(case aF=>exact(fun _ _=>trivial));(case aO=>exact(Kd.ru_ HO_5.out));(case aS=>exact(pbS_ bw_));(case aL=>have:=LMc18.out;omega);intro v119 w19 ho hb hg hat;rw[<- Ny118.out]at ho;have n0_:=Aside0.mk (hb);have n1_:=Aside0.mk (ho);clear HB;clear HO_5;have HB:=n0_;have HO120:=n1_;clear n0_ n1_;clear ho hb hg hat))
    go_roundg k1
    case measure=>have:=HK1.out;omega
    case rel=>exact⟨(x1_1 / 256),(y118),(wrap64 (x26_1+1)),rs_,rs_,H',⟨by have:=HK1.out;omega⟩,⟨Kd.ru_ HO120.out⟩,⟨bw_⟩⟩
def slices_Min_uint64_uint64.l0:Nat->List Int->Int->Int->Option (Int)
 |0,_,_,_=>none
 |k+1,x0,x3,x4=>if x4 < (x0.length:Int)then(if 0<=x4 then(slices_Min_uint64_uint64.l0 k x0 (mn x3 (rd x0 x4)) (wrap64 (x4+1)))else(none))else(some x3)
def slices_Min_uint64_uint64.f (k:Nat) (l0:List Int):Option (Int):=if(l0.length:Int) < 1 then(none)else(if 0 < (l0.length:Int)then(slices_Min_uint64_uint64.l0 k l0 (rd l0 0) 1)else(none))
theorem slices_Min_uint64_uint64.mono_l:∀ k,(∀ y0 y1 y2,LeO (slices_Min_uint64_uint64.l0 k y0 y1 y2) (slices_Min_uint64_uint64.l0 (k+1) y0 y1 y2))
 |0=>fun _ _ _ r h=>by simp[slices_Min_uint64_uint64.l0]at h
 |k+1=>by
  have ih0:=slices_Min_uint64_uint64.mono_l k
  .intro y0 y1 y2
   unfold slices_Min_uint64_uint64.l0
   repeat' first
   |(with_reducible exact ih0 _ _ _)
   |(with_reducible exact LeO.refl _)
   |(with_reducible exact LeO.none _)
   |(with_reducible refine LeO.ite ?_ ?_)
   |(with_reducible refine LeO.bind ?_ (fun _=>?_))
theorem slices_Min_uint64_uint64.mono:∀ a0 k,LeO (slices_Min_uint64_uint64.f k a0) (slices_Min_uint64_uint64.f (k+1) a0):=by
 intro a0 k
 have ih0:=slices_Min_uint64_uint64.mono_l k
 unfold slices_Min_uint64_uint64.f
 repeat' first
   |(with_reducible exact ih0 _ _ _)
   |(with_reducible exact LeO.refl _)
   |(with_reducible exact LeO.none _)
   |(with_reducible refine LeO.ite ?_ ?_)
   |(with_reducible refine LeO.bind ?_ (fun _=>?_))
set_option maxHeartbeats 8000000 in
set_option maxRecDepth 100000 in
theorem slices_Min_uint64_uint64.calls (k:Nat) (A0:Option Addr) (c0:Nat) (l0:List Int) (r:Int) (w:World) (hr0:Kd.C (Kd.int .u64) w A0 l0.length l0) (hc0:l0.length<=c0) (h:slices_Min_uint64_uint64.f k l0=some r):
  Calls Try.prog 46 #[.slice A0 l0.length c0] w fun e w'=>e= .returned (.int .u64 r)∧Below w.heap.size w w':=by
 have HR0:=Aside0.mk hr0
 have HC0:=Aside0.mk hc0
 clear hr0 hc0
 have HB:=Aside0.mk (Below.refl w.heap.size w)
 have H:(if(l0.length:Int) < 1 then(none)else(if 0 < (l0.length:Int)then(slices_Min_uint64_uint64.l0 k l0 (rd l0 0) 1)else(none)))=some r:=h
 clear h
 by_cases c2:(l0.length:Int) < 1
 .rw[if_pos c2]at H
  cases H
 .rw[if_neg c2]at H
  have c2b0:=decide_eq_false c2
  have c2b1:decide (l0.length < 1)=false:=decide_eq_false (by omega)
  clear c2
  by_cases c3:0 < (l0.length:Int)
  rotate_left
  .rw[if_neg c3]at H
   cases H
  rw[if_pos c3]at H
  have c3b0:=decide_eq_true c3
  have c3b1:decide (0 < l0.length)=true:=decide_eq_true (by omega)
  clear c3
  have H':=Aside0.mk H
  clear H
  have p121:0<=(0:Int):=(by omega)
  have q121:0 < (l0.length:Int):=od_
  obtain⟨ad121,e121,hx121_0⟩:=Kd.at_int HR0.out 0 p121 q121
  cases e121
  have qi121:(0 < l0.length)=True:=eq_true (by omega)
  rw[show((0:Int)).toNat=0 from rfl]at hx121_0
  rw[Addr.add_zero']at hx121_0
  replace p121:=eq_true p121
  replace q121:=eq_true q121
  go_enter Try.func46,Try.ntmps46
  go_wp2
  go_loopg [3,4] k (fun kq v3 v4 w'=>∃ (x3_1:Int) (x4_1:Int),v3= .int .u64 x3_1∧v4= .int .i64 x4_1∧Aside0 (slices_Min_uint64_uint64.l0 kq l0 x3_1 x4_1=some r)∧Aside0 (kq<=k)∧Aside0 (Below w.heap.size w w'))
  case atStart=>exact⟨(rd l0 0),(1),rs_,rs_,H',⟨Nat.le_refl _⟩,⟨bw_⟩⟩
  case round=>
   clear H'
   clear c2b0 c2b1
   clear c3b0 c3b1 hx121_0 p121 q121
   obtain⟨x3_1,x4_1,rfl,rfl,HA,HK1,HB⟩:=hrel
   cases gk with
   |zero=>exact absurd HA.out (by simp[slices_Min_uint64_uint64.l0])
   |succ k1=>
    have H:=HA.out
    clear HA
    simp only[slices_Min_uint64_uint64.l0]at H
    by_cases c4:x4_1 < (l0.length:Int)
    rotate_left
    .rw[if_neg c4]at H
     have c4b0:=decide_eq_false c4
     clear c4
     obtain rfl:=Option.some.inj H
     go_wp2
     go_ret
     exact⟨rf_,bw_⟩
    rw[if_pos c4]at H
    have c4b0:=decide_eq_true c4
    clear c4
    by_cases c5:0<=x4_1
    rotate_left
    .rw[if_neg c5]at H
     cases H
    rw[if_pos c5]at H
    have c5b0:=decide_eq_true c5
    clear c5
    obtain⟨ji6,hji6⟩:∃ j_:Int,(mn x3_1 (rd l0 x4_1))=j_:=⟨_,rfl⟩
    replace H:(slices_Min_uint64_uint64.l0 k1 l0 ji6 (wrap64 (x4_1+1)))=some r:=hj_ hji6 H
    have hji6_:(if(rd l0 x4_1) < x3_1 then(rd l0 x4_1)else x3_1)=ji6:=hji6
    have H':=Aside0.mk H
    clear H
    have p122:0<=(x4_1:Int):=od_
    have q122:x4_1 < (l0.length:Int):=od_
    obtain⟨ad122,e122,hx122_0⟩:=Kd.at_int HR0.out x4_1 p122 q122
    obtain rfl:ad121=ad122:=(by injection e122)
    replace hx122_0:=cx_ HB.out rfl hx122_0
    replace p122:=eq_true p122
    replace q122:=eq_true q122
    go_wp2
    subst hji6
    go_roundg k1
    case measure=>have:=HK1.out;omega
    case rel=>exact⟨((mn x3_1 (rd l0 x4_1))),(wrap64 (x4_1+1)),(by first|rfl|(simp;done)|(simp only[<- hji6]<;>(first|rfl|simp))|(simp[*];done)),rs_,H',⟨by have:=HK1.out;omega⟩,⟨bw_⟩⟩
def pfor_high.f (a0:Int) (a1:Int):Option (Int):=if a1≥64 then(some 0)else(if 0<=a1 then(some (shr .u64 a0 a1))else(none))
set_option maxHeartbeats 8000000 in
set_option maxRecDepth 100000 in
theorem pfor_high.calls (a0:Int) (a1:Int) (r:Int) (w:World) (h:pfor_high.f a0 a1=some r):
  Calls Try.prog 48 #[.int .u64 a0,.int .i64 a1] w fun e w'=>e= .returned (.int .u64 r)∧Drawn0 w w':=by
 have H:(if a1≥64 then(some 0)else(if 0<=a1 then(some (shr .u64 a0 a1))else(none)))=some r:=h
 clear h
 by_cases c3:a1≥64
 .rw[if_pos c3]at H
  have c3b0:=decide_eq_true c3
  clear c3
  obtain rfl:=Option.some.inj H
  go_enter Try.func48,Try.ntmps48
  go_wp2
  go_ret
  exact⟨by first|rfl|(simp;done)|(simp[*];done),by repeat(first|exact Drawn0.refl _|apply Drawn0.step)⟩
 .rw[if_neg c3]at H
  have c3b0:=decide_eq_false c3
  clear c3
  by_cases c4:0<=a1
  rotate_left
  .rw[if_neg c4]at H
   cases H
  rw[if_pos c4]at H
  have c4b0:=eq_true c4
  have c4b1:=decide_eq_true c4
  clear c4
  obtain⟨ji5,hji5⟩:∃ j_:Int,(shr .u64 a0 a1)=j_:=⟨_,rfl⟩
  replace H:(some ji5)=some r:=hj_ hji5 H
  have hji5_:(a0 / 2 ^ min a1.toNat 64)=ji5:=hji5
  have hji5z:a1<=64->(a0 / 2 ^ a1.toNat)=ji5:=shr_small hji5
  obtain rfl:=Option.some.inj H
  go_enter Try.func48,Try.ntmps48
  go_wp2
  go_ret
  exact⟨by first|rfl|(simp;done)|(simp only[<- hji5]<;>(first|rfl|simp))|(simp[*];done),by repeat(first|exact Drawn0.refl _|apply Drawn0.step)⟩
def pfor_size.f (k:Nat) (a0:Int):Option (Int):=(num_Put.f k ([]:List Int) a0).bind fun t123=>(some (t123.length:Int))
theorem pfor_size.mono:∀ a0 k,LeO (pfor_size.f k a0) (pfor_size.f (k+1) a0):=by
 intro a0 k
 unfold pfor_size.f
 repeat' first
   |(with_reducible exact num_Put.mono _ _ _)
   |(with_reducible exact LeO.refl _)
   |(with_reducible exact LeO.none _)
   |(with_reducible refine LeO.ite ?_ ?_)
   |(with_reducible refine LeO.bind ?_ (fun _=>?_))
set_option maxHeartbeats 8000000 in
set_option maxRecDepth 100000 in
theorem pfor_size.calls (k:Nat) (a0:Int) (r:Int) (w:World) (h:pfor_size.f k a0=some r):
  Calls Try.prog 65 #[.int .u64 a0] w fun e w'=>e= .returned (.int .i64 r)∧Below w.heap.size w w':=by
 have HB:=Aside0.mk (Below.refl w.heap.size w)
 have H:((num_Put.f k ([]:List Int) a0).bind fun t123=>(some (t123.length:Int)))=some r:=h
 clear h
 replace H:=Option.bind_eq_some_iff.mp H
 obtain⟨t123,A20,H⟩:=H
 try dsimp only at H
 have A2:=Aside0.mk A20
 clear A20
 obtain rfl:=Option.some.inj H
 go_enter Try.func65,Try.ntmps65
 go_wp2_with (first|((with_reducible refine gaC_ (f:=24) rfl ?_);refine goesL_ (some 4) rfl rfl Try.func24 (by kernel_rfl) rfl #[.slice none 0 0,.int .u64 a0] rfl am_ ?_;(refine(num_Put.calls k _ _ ([]:List Int) a0 t123 _ ?side1 ?side2 A2.out).mono ?_);(case side1=>exact Kd.C_nil _ _);(case side2=>exact Nat.le_refl _);rintro e w3 ⟨v124,rfl,ho0,hb⟩;refine⟨_,rfl,?_⟩;have HO125:=Aside0.mk (Kd.R_lower ho0 (pbS_ bw_));replace HB:=Aside0.mk (below_step bw_ hb);obtain⟨Ao4,co4,eo4⟩:=Kd.R_slice HO125.out;subst eo4))
 go_ret
 exact⟨rf_,bw_⟩
mutual
def pfor_width.l0:Nat->List Int->Int->Int->Int->Option (Int)
 |0,_,_,_,_=>none
 |k+1,x0,x3,x4,x5=>if x5<=64 then(pfor_width.l1 k x0 x3 x4 x5 (wrap64 (Int.tdiv (wrap64 ((wrap64 ((x0.length:Int)*x5))+7)) 8)) x0 (x0.length:Int) 0)else(some x3)
def pfor_width.l1:Nat->List Int->Int->Int->Int->Int->List Int->Int->Int->Option (Int)
 |0,_,_,_,_,_,_,_,_=>none
 |k+1,x0,x3,x4,x5,x6,x20,x21,x22=>if x22 < x21 then(if 0<=x22 then(if x22 < (x20.length:Int)then((pfor_high.f (rd x20 x22) x5).bind fun t127=>(if t127 > 0 then((pfor_size.f k t127).bind fun t128=>(pfor_width.l1 k x0 x3 x4 x5 (wrap64 (x6+(wrap64 (1+t128)))) x20 x21 (wrap64 (x22+1))))else(pfor_width.l1 k x0 x3 x4 x5 x6 x20 x21 (wrap64 (x22+1)))))else(none))else(none))else(if x4 < 0 then(pfor_width.l0 k x0 x5 x6 (wrap64 (x5+1)))else(if x6 < x4 then(pfor_width.l0 k x0 x5 x6 (wrap64 (x5+1)))else(pfor_width.l0 k x0 x3 x4 (wrap64 (x5+1)))))
end
def pfor_width.f (k:Nat) (l0:List Int):Option (Int):=pfor_width.l0 k l0 0 (-1) 0
theorem pfor_width.mono_l:∀ k,(∀ y0 y1 y2 y3,LeO (pfor_width.l0 k y0 y1 y2 y3) (pfor_width.l0 (k+1) y0 y1 y2 y3))∧(∀ y0 y1 y2 y3 y4 y5 y6 y7,LeO (pfor_width.l1 k y0 y1 y2 y3 y4 y5 y6 y7) (pfor_width.l1 (k+1) y0 y1 y2 y3 y4 y5 y6 y7))
 |0=>⟨fun _ _ _ _ r h=>by simp[pfor_width.l0]at h,fun _ _ _ _ _ _ _ _ r h=>by simp[pfor_width.l1]at h⟩
 |k+1=>by
  obtain⟨ih0,ih1⟩:=pfor_width.mono_l k
  refine⟨?_,?_⟩
  .intro y0 y1 y2 y3
   unfold pfor_width.l0
   repeat' first
   |(with_reducible exact ih0 _ _ _ _)
   |(with_reducible exact ih1 _ _ _ _ _ _ _ _)
   |(with_reducible exact pfor_size.mono _ _)
   |(with_reducible exact LeO.refl _)
   |(with_reducible exact LeO.none _)
   |(with_reducible refine LeO.ite ?_ ?_)
   |(with_reducible refine LeO.bind ?_ (fun _=>?_))
  .intro y0 y1 y2 y3 y4 y5 y6 y7
   unfold pfor_width.l1
   repeat' first
   |(with_reducible exact ih0 _ _ _ _)
   |(with_reducible exact ih1 _ _ _ _ _ _ _ _)
   |(with_reducible exact pfor_size.mono _ _)
   |(with_reducible exact LeO.refl _)
   |(with_reducible exact LeO.none _)
   |(with_reducible refine LeO.ite ?_ ?_)
   |(with_reducible refine LeO.bind ?_ (fun _=>?_))
theorem pfor_width.mono:∀ a0 k,LeO (pfor_width.f k a0) (pfor_width.f (k+1) a0):=by
 intro a0 k
 obtain⟨ih0,ih1⟩:=pfor_width.mono_l k
 unfold pfor_width.f
 repeat' first
   |(with_reducible exact ih0 _ _ _ _)
   |(with_reducible exact ih1 _ _ _ _ _ _ _ _)
   |(with_reducible exact pfor_size.mono _ _)
   |(with_reducible exact LeO.refl _)
   |(with_reducible exact LeO.none _)
   |(with_reducible refine LeO.ite ?_ ?_)
   |(with_reducible refine LeO.bind ?_ (fun _=>?_))
set_option maxHeartbeats 8000000 in
set_option maxRecDepth 100000 in
theorem pfor_width.calls (k:Nat) (A0:Option Addr) (c0:Nat) (l0:List Int) (r:Int) (w:World) (hr0:Kd.C (Kd.int .u64) w A0 l0.length l0) (hc0:l0.length<=c0) (h:pfor_width.f k l0=some r):
  Calls Try.prog 47 #[.slice A0 l0.length c0] w fun e w'=>e= .returned (.int .i64 r)∧Below w.heap.size w w':=by
 have HR0:=Aside0.mk hr0
 have HC0:=Aside0.mk hc0
 clear hr0 hc0
 have HB:=Aside0.mk (Below.refl w.heap.size w)
 have H:(pfor_width.l0 k l0 0 (-1) 0)=some r:=h
 clear h
 have H':=Aside0.mk H
 clear H
 go_enter Try.func47,Try.ntmps47
 go_wp2
 go_loopg [3,4,5] k (fun kq v3 v4 v5 w'=>∃ (x3_1:Int) (x4_1:Int) (x5_1:Int),v3= .int .i64 x3_1∧v4= .int .i64 x4_1∧v5= .int .i64 x5_1∧Aside0 (pfor_width.l0 kq l0 x3_1 x4_1 x5_1=some r)∧Aside0 (kq<=k)∧Aside0 (Below w.heap.size w w'))
 case atStart=>exact⟨(0),((-1)),(0),rs_,rs_,rs_,H',⟨Nat.le_refl _⟩,⟨bw_⟩⟩
 case round=>
  clear H'
  obtain⟨x3_1,x4_1,x5_1,rfl,rfl,rfl,HA,HK1,HB⟩:=hrel
  cases gk with
  |zero=>exact absurd HA.out (by simp[pfor_width.l0])
  |succ k1=>
   have H:=HA.out
   clear HA
   simp only[pfor_width.l0]at H
   by_cases c2:x5_1<=64
   rotate_left
   .rw[if_neg c2]at H
    have c2b0:=decide_eq_false c2
    clear c2
    obtain rfl:=Option.some.inj H
    go_wp2
    go_ret
    exact⟨rf_,bw_⟩
   rw[if_pos c2]at H
   have c2b0:=decide_eq_true c2
   clear c2
   have H':=Aside0.mk H
   clear H
   go_wp2
   go_loopg [6,22] k1 (fun kq v6 v22 w'=>∃ (x6_2:Int) (x22_2:Int),v6= .int .i64 x6_2∧v22= .int .i64 x22_2∧Aside0 (pfor_width.l1 kq l0 x3_1 x4_1 x5_1 x6_2 l0 (l0.length:Int) x22_2=some r)∧Aside0 (kq<=k1)∧Aside0 (Below w.heap.size w w'))
   case atStart=>exact⟨(wrap64 (Int.tdiv (wrap64 ((wrap64 ((l0.length:Int)*x5_1))+7)) 8)),(0),rs_,rs_,H',⟨Nat.le_refl _⟩,⟨bw_⟩⟩
   case round=>
    clear H'
    clear c2b0
    obtain⟨x6_2,x22_2,rfl,rfl,HA,HK2,HB⟩:=hrel
    cases gk with
    |zero=>exact absurd HA.out (by simp[pfor_width.l1])
    |succ k2=>
     have H:=HA.out
     clear HA
     simp only[pfor_width.l1]at H
     by_cases c3:x22_2 < (l0.length:Int)
     rotate_left
     .rw[if_neg c3]at H
      have c3b0:=decide_eq_false c3
      clear c3
      by_cases c10:x4_1 < 0
      .rw[if_pos c10]at H
       have c10b0:=decide_eq_true c10
       clear c10
       have H':=Aside0.mk H
       clear H
       go_wp2
       go_roundg k2
       case measure=>have:=HK1.out;have:=HK2.out;omega
       case rel=>exact⟨(x5_1),(x6_2),(wrap64 (x5_1+1)),rs_,rs_,rs_,H',⟨by have:=HK1.out;have:=HK2.out;omega⟩,⟨bw_⟩⟩
      .rw[if_neg c10]at H
       have c10b0:=decide_eq_false c10
       clear c10
       by_cases c11:x6_2 < x4_1
       rotate_left
       .rw[if_neg c11]at H
        have c11b0:=decide_eq_false c11
        clear c11
        have H':=Aside0.mk H
        clear H
        go_wp2
        go_roundg k2
        case measure=>have:=HK1.out;have:=HK2.out;omega
        case rel=>exact⟨(x3_1),(x4_1),(wrap64 (x5_1+1)),rs_,rs_,rs_,H',⟨by have:=HK1.out;have:=HK2.out;omega⟩,⟨bw_⟩⟩
       rw[if_pos c11]at H
       have c11b0:=decide_eq_true c11
       clear c11
       have H':=Aside0.mk H
       clear H
       go_wp2
       go_roundg k2
       case measure=>have:=HK1.out;have:=HK2.out;omega
       case rel=>exact⟨(x5_1),(x6_2),(wrap64 (x5_1+1)),rs_,rs_,rs_,H',⟨by have:=HK1.out;have:=HK2.out;omega⟩,⟨bw_⟩⟩
     rw[if_pos c3]at H
     have c3b0:=decide_eq_true c3
     clear c3
     by_cases c4:0<=x22_2
     rotate_left
     .rw[if_neg c4]at H
      cases H
     rw[if_pos c4]at H
     have c4b0:=decide_eq_true c4
     clear c4
     by_cases c5:x22_2 < (l0.length:Int)
     rotate_left
     .rw[if_neg c5]at H
      cases H
     rw[if_pos c5]at H
     have c5b0:=decide_eq_true c5
     clear c5
     replace H:=Option.bind_eq_some_iff.mp H
     obtain⟨t127,A60,H⟩:=H
     try dsimp only at H
     have A6:=Aside0.mk A60
     clear A60
     by_cases c7:t127 > 0
     rotate_left
     .rw[if_neg c7]at H
      have c7b0:=decide_eq_false c7
      clear c7
      have H':=Aside0.mk H
      clear H
      have p126:0<=(x22_2:Int):=od_
      have q126:x22_2 < (l0.length:Int):=od_
      obtain⟨ad126,e126,hx126_0⟩:=Kd.at_int HR0.out x22_2 p126 q126
      cases e126
      replace hx126_0:=cx_ HB.out rfl hx126_0
      replace p126:=eq_true p126
      replace q126:=eq_true q126
      go_wp2_with (first|((with_reducible refine gaC_ (f:=48) rfl ?_);refine goesL_ (some 28) rfl rfl Try.func48 (by kernel_rfl) rfl #[.int .u64 (rd l0 x22_2),.int .i64 x5_1] rfl am_ ?_;(with_reducible refine(pfor_high.calls (rd l0 x22_2) x5_1 t127 _ A6.out).mono ?_);rintro e w' ⟨rfl,⟨nd,rfl⟩⟩;refine⟨_,rfl,?_⟩))
      go_roundg k2
      case measure=>have:=HK1.out;have:=HK2.out;omega
      case rel=>exact⟨(x6_2),(wrap64 (x22_2+1)),rs_,rs_,H',⟨by have:=HK1.out;have:=HK2.out;omega⟩,⟨bw_⟩⟩
     rw[if_pos c7]at H
     have c7b0:=decide_eq_true c7
     clear c7
     replace H:=Option.bind_eq_some_iff.mp H
     obtain⟨t128,A80,H⟩:=H
     try dsimp only at H
     have A8:=Aside0.mk A80
     clear A80
     have H':=Aside0.mk H
     clear H
     have p126:0<=(x22_2:Int):=od_
     have q126:x22_2 < (l0.length:Int):=od_
     obtain⟨ad126,e126,hx126_0⟩:=Kd.at_int HR0.out x22_2 p126 q126
     cases e126
     replace hx126_0:=cx_ HB.out rfl hx126_0
     replace p126:=eq_true p126
     replace q126:=eq_true q126
     go_wp2_with (first|((with_reducible refine gaC_ (f:=48) rfl ?_);refine goesL_ (some 28) rfl rfl Try.func48 (by kernel_rfl) rfl #[.int .u64 (rd l0 x22_2),.int .i64 x5_1] rfl am_ ?_;(with_reducible refine(pfor_high.calls (rd l0 x22_2) x5_1 t127 _ A6.out).mono ?_);rintro e w' ⟨rfl,⟨nd,rfl⟩⟩;refine⟨_,rfl,?_⟩)|((with_reducible refine gaC_ (f:=65) rfl ?_);refine goesL_ (some 33) rfl rfl Try.func65 (by kernel_rfl) rfl #[.int .u64 t127] rfl am_ ?_;(with_reducible refine(pfor_size.calls k2 t127 t128 _ A8.out).mono ?_);rintro e w9 ⟨rfl,hb⟩;refine⟨_,rfl,?_⟩;replace HB:=Aside0.mk (below_step bw_ hb)))
     go_roundg k2
     case measure=>have:=HK1.out;have:=HK2.out;omega
     case rel=>exact⟨(wrap64 (x6_2+(wrap64 (1+t128)))),(wrap64 (x22_2+1)),rs_,rs_,H',⟨by have:=HK1.out;have:=HK2.out;omega⟩,⟨bw_⟩⟩
def bits_Width.l0:Nat->Int->List Int->Int->Int->Option (Int)
 |0,_,_,_,_=>none
 |k+1,x3,x6,x7,x8=>if x8 < x7 then(if 0<=x8 then(if x8 < (x6.length:Int)then(bits_Width.l0 k (Go.bits .or .u64 x3 (rd x6 x8)) x6 x7 (wrap64 (x8+1)))else(none))else(none))else((bits_Len64.f x3).bind fun t130=>(some t130))
def bits_Width.f (k:Nat) (l0:List Int):Option (Int):=bits_Width.l0 k 0 l0 (l0.length:Int) 0
theorem bits_Width.mono_l:∀ k,(∀ y0 y1 y2 y3,LeO (bits_Width.l0 k y0 y1 y2 y3) (bits_Width.l0 (k+1) y0 y1 y2 y3))
 |0=>fun _ _ _ _ r h=>by simp[bits_Width.l0]at h
 |k+1=>by
  have ih0:=bits_Width.mono_l k
  .intro y0 y1 y2 y3
   unfold bits_Width.l0
   repeat' first
   |(with_reducible exact ih0 _ _ _ _)
   |(with_reducible exact LeO.refl _)
   |(with_reducible exact LeO.none _)
   |(with_reducible refine LeO.ite ?_ ?_)
   |(with_reducible refine LeO.bind ?_ (fun _=>?_))
theorem bits_Width.mono:∀ a0 k,LeO (bits_Width.f k a0) (bits_Width.f (k+1) a0):=by
 intro a0 k
 have ih0:=bits_Width.mono_l k
 unfold bits_Width.f
 repeat' first
   |(with_reducible exact ih0 _ _ _ _)
   |(with_reducible exact LeO.refl _)
   |(with_reducible exact LeO.none _)
   |(with_reducible refine LeO.ite ?_ ?_)
   |(with_reducible refine LeO.bind ?_ (fun _=>?_))
set_option maxHeartbeats 8000000 in
set_option maxRecDepth 100000 in
theorem bits_Width.calls (k:Nat) (A0:Option Addr) (c0:Nat) (l0:List Int) (r:Int) (w:World) (hr0:Kd.C (Kd.int .u64) w A0 l0.length l0) (hc0:l0.length<=c0) (h:bits_Width.f k l0=some r):
  Calls Try.prog 66 #[.slice A0 l0.length c0] w fun e w'=>e= .returned (.int .i64 r)∧Drawn0 w w':=by
 have HR0:=Aside0.mk hr0
 have HC0:=Aside0.mk hc0
 clear hr0 hc0
 have H:(bits_Width.l0 k 0 l0 (l0.length:Int) 0)=some r:=h
 clear h
 have H':=Aside0.mk H
 clear H
 go_enter Try.func66,Try.ntmps66
 go_wp2
 go_loopg [3,8] k (fun kq v3 v8 w'=>∃ (x3_1:Int) (x8_1:Int),v3= .int .u64 x3_1∧v8= .int .i64 x8_1∧Aside0 (bits_Width.l0 kq x3_1 l0 (l0.length:Int) x8_1=some r)∧Aside0 (kq<=k)∧Drawn0 w w')
 case atStart=>exact⟨(0),(0),rs_,rs_,H',⟨Nat.le_refl _⟩,by repeat(first|exact Drawn0.refl _|apply Drawn0.step)⟩
 case round=>
  clear H'
  obtain⟨x3_1,x8_1,rfl,rfl,HA,HK1,⟨m1,rfl⟩⟩:=hrel
  cases gk with
  |zero=>exact absurd HA.out (by simp[bits_Width.l0])
  |succ k1=>
   have H:=HA.out
   clear HA
   simp only[bits_Width.l0]at H
   by_cases c2:x8_1 < (l0.length:Int)
   rotate_left
   .rw[if_neg c2]at H
    have c2b0:=decide_eq_false c2
    clear c2
    replace H:=Option.bind_eq_some_iff.mp H
    obtain⟨t130,A50,H⟩:=H
    try dsimp only at H
    have A5:=Aside0.mk A50
    clear A50
    obtain rfl:=Option.some.inj H
    go_wp2_with (first|((with_reducible refine gaC_ (f:=64) rfl ?_);refine goesL_ (some 17) rfl rfl Try.func64 (by kernel_rfl) rfl #[.int .u64 x3_1] rfl am_ ?_;(with_reducible refine(bits_Len64.calls x3_1 t130 _ A5.out).mono ?_);rintro e w' ⟨rfl,⟨nd,rfl⟩⟩;refine⟨_,rfl,?_⟩))
    go_ret
    exact⟨by first|rfl|(simp;done)|(simp[*];done),by repeat(first|exact Drawn0.refl _|apply Drawn0.step)⟩
   rw[if_pos c2]at H
   have c2b0:=decide_eq_true c2
   clear c2
   by_cases c3:0<=x8_1
   rotate_left
   .rw[if_neg c3]at H
    cases H
   rw[if_pos c3]at H
   have c3b0:=decide_eq_true c3
   clear c3
   by_cases c4:x8_1 < (l0.length:Int)
   rotate_left
   .rw[if_neg c4]at H
    cases H
   rw[if_pos c4]at H
   have c4b0:=decide_eq_true c4
   clear c4
   have H':=Aside0.mk H
   clear H
   have p129:0<=(x8_1:Int):=od_
   have q129:x8_1 < (l0.length:Int):=od_
   obtain⟨ad129,e129,hx129_0⟩:=Kd.at_int HR0.out x8_1 p129 q129
   cases e129
   replace p129:=eq_true p129
   replace q129:=eq_true q129
   go_wp2
   go_roundg k1
   case measure=>have:=HK1.out;omega
   case rel=>exact⟨(Go.bits .or .u64 x3_1 (rd l0 x8_1)),(wrap64 (x8_1+1)),rs_,rs_,H',⟨by have:=HK1.out;omega⟩,by repeat(first|exact Drawn0.refl _|apply Drawn0.step)⟩
mutual
def bits_Pack.j0:Nat->List Int->Int->Bool->Option (List Int×Int)
 |0,_,_,_=>none
 |k+1,x0,x1,x18=>if x18=true then(some (([]:List Int),1))else((bits_Width.f k x0).bind fun t131=>(if t131 > x1 then(some (([]:List Int),7))else(if 0<=(wrap64 ((wrap64 ((wrap64 ((x0.length:Int) / 8))*x1))+x1))then(if(wrap64 ((wrap64 ((wrap64 ((x0.length:Int) / 8))*x1))+x1):Int).toNat<=281474976710656 then(bits_Pack.l0 k x1 (List.replicate 0 0) 0 0 x0 (x0.length:Int) 0)else(none))else(none))))
def bits_Pack.l0:Nat->Int->List Int->Int->Int->List Int->Int->Int->Option (List Int×Int)
 |0,_,_,_,_,_,_,_=>none
 |k+1,x1,x6,x7,x8,x31,x32,x33=>if x33 < x32 then(if 0<=x33 then(if x33 < (x31.length:Int)then(bits_Pack.l1 k x1 x6 x7 x8 (rd x31 x33) x1 x31 x32 x33)else(none))else(none))else(if x8 > 0 then(if x6.length < 140737488355328 then(some ((x6++[(x7) % 256]),0))else(none))else(some (x6,0)))
def bits_Pack.l1:Nat->Int->List Int->Int->Int->Int->Int->List Int->Int->Int->Option (List Int×Int)
 |0,_,_,_,_,_,_,_,_,_=>none
 |k+1,x1,x6,x7,x8,x10,x11,x31,x32,x33=>if x11 > 0 then(if 0<=(mn x11 (wrap64 (8 - x8)))then(if 0<=x8 then(if(wrap64 (x8+(mn x11 (wrap64 (8 - x8)))))=8 then(if x6.length < 140737488355328 then(bits_Pack.l1 k x1 (x6++[(Go.bits .or .u64 x7 (shl .u64 (Go.bits .and .u64 x10 (IntKind.u64.wrap ((shl .u64 1 (mn x11 (wrap64 (8 - x8)))) - 1))) x8)) % 256]) 0 0 (shr .u64 x10 (mn x11 (wrap64 (8 - x8)))) (wrap64 (x11 - (mn x11 (wrap64 (8 - x8))))) x31 x32 x33)else(none))else(bits_Pack.l1 k x1 x6 (Go.bits .or .u64 x7 (shl .u64 (Go.bits .and .u64 x10 (IntKind.u64.wrap ((shl .u64 1 (mn x11 (wrap64 (8 - x8)))) - 1))) x8)) (wrap64 (x8+(mn x11 (wrap64 (8 - x8))))) (shr .u64 x10 (mn x11 (wrap64 (8 - x8)))) (wrap64 (x11 - (mn x11 (wrap64 (8 - x8))))) x31 x32 x33))else(none))else(none))else(bits_Pack.l0 k x1 x6 x7 x8 x31 x32 (wrap64 (x33+1)))
end
def bits_Pack.f (k:Nat) (l0:List Int) (a1:Int):Option (List Int×Int):=if a1 < 0 then(bits_Pack.j0 k l0 a1 true)else(bits_Pack.j0 k l0 a1 (decide (a1 > 64)))
theorem bits_Pack.mono_l:∀ k,(∀ y0 y1 y2,LeO (bits_Pack.j0 k y0 y1 y2) (bits_Pack.j0 (k+1) y0 y1 y2))∧(∀ y0 y1 y2 y3 y4 y5 y6,LeO (bits_Pack.l0 k y0 y1 y2 y3 y4 y5 y6) (bits_Pack.l0 (k+1) y0 y1 y2 y3 y4 y5 y6))∧(∀ y0 y1 y2 y3 y4 y5 y6 y7 y8,LeO (bits_Pack.l1 k y0 y1 y2 y3 y4 y5 y6 y7 y8) (bits_Pack.l1 (k+1) y0 y1 y2 y3 y4 y5 y6 y7 y8))
 |0=>⟨fun _ _ _ r h=>by simp[bits_Pack.j0]at h,fun _ _ _ _ _ _ _ r h=>by simp[bits_Pack.l0]at h,fun _ _ _ _ _ _ _ _ _ r h=>by simp[bits_Pack.l1]at h⟩
 |k+1=>by
  obtain⟨ih0,ih1,ih2⟩:=bits_Pack.mono_l k
  refine⟨?_,?_,?_⟩
  .intro y0 y1 y2
   unfold bits_Pack.j0
   repeat' first
   |(with_reducible exact ih0 _ _ _)
   |(with_reducible exact ih1 _ _ _ _ _ _ _)
   |(with_reducible exact ih2 _ _ _ _ _ _ _ _ _)
   |(with_reducible exact bits_Width.mono _ _)
   |(with_reducible exact LeO.refl _)
   |(with_reducible exact LeO.none _)
   |(with_reducible refine LeO.ite ?_ ?_)
   |(with_reducible refine LeO.bind ?_ (fun _=>?_))
  .intro y0 y1 y2 y3 y4 y5 y6
   unfold bits_Pack.l0
   repeat' first
   |(with_reducible exact ih0 _ _ _)
   |(with_reducible exact ih1 _ _ _ _ _ _ _)
   |(with_reducible exact ih2 _ _ _ _ _ _ _ _ _)
   |(with_reducible exact bits_Width.mono _ _)
   |(with_reducible exact LeO.refl _)
   |(with_reducible exact LeO.none _)
   |(with_reducible refine LeO.ite ?_ ?_)
   |(with_reducible refine LeO.bind ?_ (fun _=>?_))
  .intro y0 y1 y2 y3 y4 y5 y6 y7 y8
   unfold bits_Pack.l1
   repeat' first
   |(with_reducible exact ih0 _ _ _)
   |(with_reducible exact ih1 _ _ _ _ _ _ _)
   |(with_reducible exact ih2 _ _ _ _ _ _ _ _ _)
   |(with_reducible exact bits_Width.mono _ _)
   |(with_reducible exact LeO.refl _)
   |(with_reducible exact LeO.none _)
   |(with_reducible refine LeO.ite ?_ ?_)
   |(with_reducible refine LeO.bind ?_ (fun _=>?_))
theorem bits_Pack.mono:∀ a0 a1 k,LeO (bits_Pack.f k a0 a1) (bits_Pack.f (k+1) a0 a1):=by
 intro a0 a1 k
 obtain⟨ih0,ih1,ih2⟩:=bits_Pack.mono_l k
 unfold bits_Pack.f
 repeat' first
   |(with_reducible exact ih0 _ _ _)
   |(with_reducible exact ih1 _ _ _ _ _ _ _)
   |(with_reducible exact ih2 _ _ _ _ _ _ _ _ _)
   |(with_reducible exact bits_Width.mono _ _)
   |(with_reducible exact LeO.refl _)
   |(with_reducible exact LeO.none _)
   |(with_reducible refine LeO.ite ?_ ?_)
   |(with_reducible refine LeO.bind ?_ (fun _=>?_))
set_option maxHeartbeats 8000000 in
set_option maxRecDepth 100000 in
theorem bits_Pack.calls (k:Nat) (A0:Option Addr) (c0:Nat) (l0:List Int) (a1:Int) (r1:List Int) (r2:Int) (w:World) (hr0:Kd.C (Kd.int .u64) w A0 l0.length l0) (hc0:l0.length<=c0) (h:bits_Pack.f k l0 a1=some (r1,r2)):
  Calls Try.prog 49 #[.slice A0 l0.length c0,.int .i64 a1] w fun e w'=>∃ v0_:Value,e= .returned (.tuple #[v0_,.int .i64 r2])∧Kd.R (Kd.int .u8) 5 w' w.heap.size (fun _=>True) v0_ r1∧Below w.heap.size w w':=by
 have HR0:=Aside0.mk hr0
 have HC0:=Aside0.mk hc0
 clear hr0 hc0
 have HB:=Aside0.mk (Below.refl w.heap.size w)
 have H:(if a1 < 0 then(bits_Pack.j0 k l0 a1 true)else(bits_Pack.j0 k l0 a1 (decide (a1 > 64))))=some (r1,r2):=h
 clear h
 have HC3:=Aside0.mk H
 clear H
 go_enter Try.func49,Try.ntmps49
 go_upto_region 1 with (fail)
 go_cut [18] (fun v18 wc=>∃ (kq:Nat) (x18_2:Bool),v18= .bool x18_2∧Aside0 (bits_Pack.j0 kq l0 a1 x18_2=some (r1,r2))∧Aside0 (kq<=k)∧Aside0 (Below w.heap.size w wc))
 case first=>
  have H:=HC3.out
  clear HC3
  by_cases c4:a1 < 0
  rotate_left
  .rw[if_neg c4]at H
   have c4b0:=decide_eq_false c4
   clear c4
   (first|rw[c4b0]|(simp only[i64_w,i32_w];rw[c4b0])|skip)
   have H':=Aside0.mk H
   clear H
   go_wp2
   go_meet
   case rel=>exact⟨_,(decide (a1 > 64)),rs_,H',⟨by first|omega|exact Nat.le_refl _⟩,⟨bw_⟩⟩
  rw[if_pos c4]at H
  have c4b0:=decide_eq_true c4
  clear c4
  (first|rw[c4b0]|(simp only[i64_w,i32_w];rw[c4b0])|skip)
  have H':=Aside0.mk H
  clear H
  go_wp2
  go_meet
  case rel=>exact⟨_,(true),rs_,H',⟨by first|omega|exact Nat.le_refl _⟩,⟨bw_⟩⟩
 case rest=>
  clear HC3
  obtain⟨kq,x18_2,rfl,HA,HJ2,HB⟩:=hcut
  cases kq with
  |zero=>exact absurd HA.out (by simp[bits_Pack.j0])
  |succ kj2=>
   have H:=HA.out
   clear HA
   simp only[bits_Pack.j0]at H
   by_cases c5:x18_2=true
   .subst c5
    rw[if_pos rfl]at H
    simp only[Option.some.injEq,Prod.mk.injEq]at H
    obtain⟨rfl,rfl⟩:=H
    go_wp2
    go_ret2
    exact⟨_,rf_,ni_,bw_⟩
   .replace c5:=Bool.eq_false_iff.mpr c5
    subst c5
    rw[if_neg (show ¬ (false=true) by decide)]at H
    replace H:=Option.bind_eq_some_iff.mp H
    obtain⟨t131,A60,H⟩:=H
    try dsimp only at H
    have A6:=Aside0.mk A60
    clear A60
    by_cases c7:t131 > a1
    .rw[if_pos c7]at H
     have c7b0:=decide_eq_true c7
     clear c7
     simp only[Option.some.injEq,Prod.mk.injEq]at H
     obtain⟨rfl,rfl⟩:=H
     go_wp2_with (first|((with_reducible refine gaC_ (f:=66) rfl ?_);refine goesL_ (some 20) rfl rfl Try.func66 (by kernel_rfl) rfl #[.slice A0 l0.length c0] rfl am_ ?_;(with_reducible refine(bits_Width.calls kj2 _ _ l0 t131 _ ?side1 ?side2 A6.out).mono ?_);(case side1=>exact Kd.cu_ (Kd.C_below HR0.out HB.out));(case side2=>exact HC0.out);rintro e w' ⟨rfl,⟨nd,rfl⟩⟩;refine⟨_,rfl,?_⟩))
     go_ret2
     exact⟨_,rf_,ni_,bw_⟩
    .rw[if_neg c7]at H
     have c7b0:=decide_eq_false c7
     clear c7
     obtain⟨ji8,hji8⟩:∃ j_:Int,(wrap64 ((wrap64 ((wrap64 ((l0.length:Int) / 8))*a1))+a1))=j_:=⟨_,rfl⟩
     replace H:(if 0<=(ji8)then(if(ji8:Int).toNat<=281474976710656 then(bits_Pack.l0 kj2 a1 (List.replicate 0 0) 0 0 l0 (l0.length:Int) 0)else(none))else(none))=some (r1,r2):=hj_ hji8 H
     have hji8w:(IntKind.i64.wrap ((wrap64 ((wrap64 ((l0.length:Int) / 8))*a1))+a1))=ji8:=(i64_w _).trans hji8
     by_cases c9:0<=(ji8)
     rotate_left
     .rw[if_neg c9]at H
      cases H
     rw[if_pos c9]at H
     have c9b0:=eq_true c9
     have c9b1:=decide_eq_true c9
     clear c9
     by_cases c10:(ji8:Int).toNat<=281474976710656
     rotate_left
     .rw[if_neg c10]at H
      cases H
     rw[if_pos c10]at H
     have c10b0:=eq_true c10
     have c10b1:=decide_eq_true c10
     clear c10
     obtain⟨y132,hy132⟩:∃ y_:List Int,y_=(List.replicate 0 0):=⟨_,rfl⟩
     replace H:(bits_Pack.l0 kj2 a1 y132 0 0 l0 (l0.length:Int) 0)=some (r1,r2):=hx_ hy132 H
     have Ny132:=Aside0.mk hy132
     clear hy132
     have H':=Aside0.mk H
     clear H
     go_wp2_with (first|((with_reducible refine gaC_ (f:=66) rfl ?_);refine goesL_ (some 20) rfl rfl Try.func66 (by kernel_rfl) rfl #[.slice A0 l0.length c0] rfl am_ ?_;(with_reducible refine(bits_Width.calls kj2 _ _ l0 t131 _ ?side1 ?side2 A6.out).mono ?_);(case side1=>exact Kd.cu_ (Kd.C_below HR0.out HB.out));(case side2=>exact HC0.out);rintro e w' ⟨rfl,⟨nd,rfl⟩⟩;refine⟨_,rfl,?_⟩)|((with_reducible refine gate_dst (N:=30) rfl ?_);refine Kd.R_makecap (Kd.int .u8) _ 5 rfl (N:=30) rfl 22 _ _ rfl 0 ji8 rfl rfl Try.underlying22 (.int .u8 0) 1 info5 rfl (by decide) (by omega) 0 (ok:=fun _=>True) (okp:=fun _=>True) rfl (fun _ hk=>hk) trivial (by omega) od_ (Nat.le_trans (Nat.mul_le_mul_right _ (od_:ji8.toNat<=281474976710656)) (by omega)) (Below.refl _ _) (Nat.le_refl _) ?_;intro v133 w11 ho12 hb hg_ hnew_;clear hg_ hnew_;(first|rw[<- Ny132.out]at ho12|(simp only[Int.reduceToNat]at ho12;rw[<- Ny132.out]at ho12));have HO134:=Aside0.mk (Kd.R_lower ho12 (pbS_ bw_));replace HB:=Aside0.mk (below_step bw_ hb);clear hb ho12))
     go_loopg [6,7,8,33] kj2 (fun kq v6 v7 v8 v33 w'=>∃ (x6_2:List Int) (x7_2:Int) (x8_2:Int) (x33_2:Int),v7= .int .u64 x7_2∧v8= .int .i64 x8_2∧v33= .int .i64 x33_2∧Aside0 (bits_Pack.l0 kq a1 x6_2 x7_2 x8_2 l0 (l0.length:Int) x33_2=some (r1,r2))∧Aside0 (kq<=kj2)∧Aside0 (Kd.R (Kd.int .u8) 5 w' w.heap.size (fun _=>True) v6 x6_2)∧Aside0 (Below w.heap.size w w'))
     case atStart=>exact⟨(y132),(0),(0),(0),rs_,rs_,rs_,H',⟨Nat.le_refl _⟩,⟨Kd.ru_ HO134.out⟩,⟨bw_⟩⟩
     case round=>
      clear H'
      clear c7b0
      clear c9b0 c9b1
      clear c10b0 c10b1
      obtain⟨x6_2,x7_2,x8_2,x33_2,rfl,rfl,rfl,HA,HK2,HO_6,HB⟩:=hrel
      cases gk with
      |zero=>exact absurd HA.out (by simp[bits_Pack.l0])
      |succ k2=>
       have H:=HA.out
       clear HA
       simp only[bits_Pack.l0]at H
       by_cases c13:x33_2 < (l0.length:Int)
       rotate_left
       .rw[if_neg c13]at H
        have c13b0:=decide_eq_false c13
        clear c13
        by_cases c27:x8_2 > 0
        rotate_left
        .rw[if_neg c27]at H
         have c27b0:=decide_eq_false c27
         clear c27
         simp only[Option.some.injEq,Prod.mk.injEq]at H
         obtain⟨rfl,rfl⟩:=H
         go_wp2
         go_ret2
         exact⟨_,by first|rfl|(simp[eWn_,eWs_]<;>rfl)|(simp only[<- hji8];first|rfl|(simp[eWn_,eWs_]<;>rfl))|(simp[*,eWn_,eWs_]<;>rfl),by(with_reducible repeat(first|apply Kd.rA_|apply Kd.rN_|apply Kd.rD_));exact HO_6.out,bw_⟩
        rw[if_pos c27]at H
        have c27b0:=decide_eq_true c27
        clear c27
        by_cases c28:x6_2.length < 140737488355328
        rotate_left
        .rw[if_neg c28]at H
         cases H
        rw[if_pos c28]at H
        have LMc28:=Aside0.mk c28
        clear c28
        obtain⟨y135,hy135⟩:∃ y_:List Int,y_=(x6_2++[(x7_2) % 256]):=⟨_,rfl⟩
        replace H:(some (y135,0))=some (r1,r2):=hx_ hy135 H
        have Ny135:=Aside0.mk hy135
        clear hy135
        simp only[Option.some.injEq,Prod.mk.injEq]at H
        obtain⟨rfl,rfl⟩:=H
        go_wp2_with (first|((with_reducible refine gate_builtin (b:= .append) (xs:= #[.tmp 72,.tmp 75]) rfl ?_);at_builtin;refine Kd.R_append (Kd.int .u8) (w0:=w) w.heap.size rfl (.tmp 72) (.tmp 75) 22 5 (.int .u8 0) 1 rfl Try.underlying22 info5 rfl (by decide) (by omega) u6 x6_2 ((x7_2) % 256) [.int .u8 ((x7_2) % 256)] (fun _=>True) (fun _=>False) rfl rfl ?aP (fun _ hk=>hk.elim) ?aF ?aO ?aB ?aS ?aL ?_;(case aP=>exact rfl);(case aB=>exact bw_);(case aF=>exact(fun _ _=>trivial));(case aO=>exact(Kd.ru_ HO_6.out));(case aS=>exact(pbS_ bw_));(case aL=>have:=LMc28.out;omega);intro v136 w29 ho hb hg hat;rw[<- Ny135.out]at ho;have n0_:=Aside0.mk (hb);have n1_:=Aside0.mk (ho);clear HB;clear HO_6;have HB:=n0_;have HO137:=n1_;clear n0_ n1_;clear ho hb hg hat))
        go_ret2
        exact⟨_,by first|rfl|(simp[eWn_,eWs_]<;>rfl)|(simp only[<- hji8];first|rfl|(simp[eWn_,eWs_]<;>rfl))|(simp[*,eWn_,eWs_]<;>rfl),by(with_reducible repeat(first|apply Kd.rA_|apply Kd.rN_|apply Kd.rD_));exact HO137.out,bw_⟩
       rw[if_pos c13]at H
       have c13b0:=decide_eq_true c13
       clear c13
       by_cases c14:0<=x33_2
       rotate_left
       .rw[if_neg c14]at H
        cases H
       rw[if_pos c14]at H
       have c14b0:=decide_eq_true c14
       clear c14
       by_cases c15:x33_2 < (l0.length:Int)
       rotate_left
       .rw[if_neg c15]at H
        cases H
       rw[if_pos c15]at H
       have c15b0:=decide_eq_true c15
       clear c15
       have H':=Aside0.mk H
       clear H
       have p138:0<=(x33_2:Int):=od_
       have q138:x33_2 < (l0.length:Int):=od_
       obtain⟨ad138,e138,hx138_0⟩:=Kd.at_int HR0.out x33_2 p138 q138
       cases e138
       replace hx138_0:=cx_ HB.out rfl hx138_0
       replace p138:=eq_true p138
       replace q138:=eq_true q138
       go_wp2
       go_loopg [6,7,8,10,11] k2 (fun kq v6 v7 v8 v10 v11 w'=>∃ (x6_3:List Int) (x7_3:Int) (x8_3:Int) (x10_3:Int) (x11_3:Int),v7= .int .u64 x7_3∧v8= .int .i64 x8_3∧v10= .int .u64 x10_3∧v11= .int .i64 x11_3∧Aside0 (bits_Pack.l1 kq a1 x6_3 x7_3 x8_3 x10_3 x11_3 l0 (l0.length:Int) x33_2=some (r1,r2))∧Aside0 (kq<=k2)∧Aside0 (Kd.R (Kd.int .u8) 5 w' w.heap.size (fun _=>True) v6 x6_3)∧Aside0 (Below w.heap.size w w'))
       case atStart=>exact⟨(x6_2),(x7_2),(x8_2),(rd l0 x33_2),(a1),rs_,rs_,rs_,rs_,H',⟨Nat.le_refl _⟩,⟨Kd.ru_ HO_6.out⟩,⟨bw_⟩⟩
       case round=>
        clear H'
        clear c13b0
        clear c14b0
        clear c15b0 hx138_0 p138
        clear q138
        obtain⟨x6_3,x7_3,x8_3,x10_3,x11_3,rfl,rfl,rfl,rfl,HA,HK3,HO_6,HB⟩:=hrel
        cases gk with
        |zero=>exact absurd HA.out (by simp[bits_Pack.l1])
        |succ k3=>
         have H:=HA.out
         clear HA
         simp only[bits_Pack.l1]at H
         by_cases c16:x11_3 > 0
         rotate_left
         .rw[if_neg c16]at H
          have c16b0:=decide_eq_false c16
          clear c16
          have H':=Aside0.mk H
          clear H
          go_wp2
          go_roundg k3
          case measure=>have:=HJ2.out;have:=HK2.out;have:=HK3.out;omega
          case rel=>exact⟨(x6_3),(x7_3),(x8_3),(wrap64 (x33_2+1)),rs_,rs_,rs_,H',⟨by have:=HJ2.out;have:=HK2.out;have:=HK3.out;omega⟩,⟨Kd.ru_ HO_6.out⟩,⟨bw_⟩⟩
         rw[if_pos c16]at H
         have c16b0:=decide_eq_true c16
         clear c16
         obtain⟨ji17,hji17⟩:∃ j_:Int,(mn x11_3 (wrap64 (8 - x8_3)))=j_:=⟨_,rfl⟩
         replace H:(if 0<=(ji17)then(if 0<=x8_3 then(if(wrap64 (x8_3+(ji17)))=8 then(if x6_3.length < 140737488355328 then(bits_Pack.l1 k3 a1 (x6_3++[(Go.bits .or .u64 x7_3 (shl .u64 (Go.bits .and .u64 x10_3 (IntKind.u64.wrap ((shl .u64 1 (ji17)) - 1))) x8_3)) % 256]) 0 0 (shr .u64 x10_3 (ji17)) (wrap64 (x11_3 - (ji17))) l0 (l0.length:Int) x33_2)else(none))else(bits_Pack.l1 k3 a1 x6_3 (Go.bits .or .u64 x7_3 (shl .u64 (Go.bits .and .u64 x10_3 (IntKind.u64.wrap ((shl .u64 1 (ji17)) - 1))) x8_3)) (wrap64 (x8_3+(ji17))) (shr .u64 x10_3 (ji17)) (wrap64 (x11_3 - (ji17))) l0 (l0.length:Int) x33_2))else(none))else(none))=some (r1,r2):=hj_ hji17 H
         have hji17_:(if(wrap64 (8 - x8_3)) < x11_3 then(wrap64 (8 - x8_3))else x11_3)=ji17:=hji17
         by_cases c18:0<=(ji17)
         rotate_left
         .rw[if_neg c18]at H
          cases H
         rw[if_pos c18]at H
         have c18b0:=eq_true c18
         have c18b1:=decide_eq_true c18
         clear c18
         obtain⟨ji19,hji19⟩:∃ j_:Int,(shl .u64 1 (ji17))=j_:=⟨_,rfl⟩
         replace H:(if 0<=x8_3 then(if(wrap64 (x8_3+(ji17)))=8 then(if x6_3.length < 140737488355328 then(bits_Pack.l1 k3 a1 (x6_3++[(Go.bits .or .u64 x7_3 (shl .u64 (Go.bits .and .u64 x10_3 (IntKind.u64.wrap ((ji19) - 1))) x8_3)) % 256]) 0 0 (shr .u64 x10_3 (ji17)) (wrap64 (x11_3 - (ji17))) l0 (l0.length:Int) x33_2)else(none))else(bits_Pack.l1 k3 a1 x6_3 (Go.bits .or .u64 x7_3 (shl .u64 (Go.bits .and .u64 x10_3 (IntKind.u64.wrap ((ji19) - 1))) x8_3)) (wrap64 (x8_3+(ji17))) (shr .u64 x10_3 (ji17)) (wrap64 (x11_3 - (ji17))) l0 (l0.length:Int) x33_2))else(none))=some (r1,r2):=hj_ hji19 H
         have hji19_:(IntKind.u64.wrap (1*2 ^ min (ji17).toNat 64))=ji19:=hji19
         have hji19z:(ji17)<=64->(IntKind.u64.wrap (1*2 ^ (ji17).toNat))=ji19:=shl_small hji19
         have hji19u:(IntKind.u64.wrap (2 ^ min (ji17).toNat 64))=ji19:=by have h_:=hji19_;rw[Int.one_mul]at h_;exact h_
         have hji19v:(ji17)<=64->(IntKind.u64.wrap (2 ^ (ji17).toNat))=ji19:=fun hle_=>by have h_:=hji19z hle_;rw[Int.one_mul]at h_;exact h_
         by_cases c20:0<=x8_3
         rotate_left
         .rw[if_neg c20]at H
          cases H
         rw[if_pos c20]at H
         have c20b0:=eq_true c20
         have c20b1:=decide_eq_true c20
         clear c20
         obtain⟨ji21,hji21⟩:∃ j_:Int,(shl .u64 (Go.bits .and .u64 x10_3 (IntKind.u64.wrap ((ji19) - 1))) x8_3)=j_:=⟨_,rfl⟩
         replace H:(if(wrap64 (x8_3+(ji17)))=8 then(if x6_3.length < 140737488355328 then(bits_Pack.l1 k3 a1 (x6_3++[(Go.bits .or .u64 x7_3 (ji21)) % 256]) 0 0 (shr .u64 x10_3 (ji17)) (wrap64 (x11_3 - (ji17))) l0 (l0.length:Int) x33_2)else(none))else(bits_Pack.l1 k3 a1 x6_3 (Go.bits .or .u64 x7_3 (ji21)) (wrap64 (x8_3+(ji17))) (shr .u64 x10_3 (ji17)) (wrap64 (x11_3 - (ji17))) l0 (l0.length:Int) x33_2))=some (r1,r2):=hj_ hji21 H
         have hji21_:(IntKind.u64.wrap ((Go.bits .and .u64 x10_3 (IntKind.u64.wrap ((ji19) - 1)))*2 ^ min x8_3.toNat 64))=ji21:=hji21
         have hji21z:x8_3<=64->(IntKind.u64.wrap ((Go.bits .and .u64 x10_3 (IntKind.u64.wrap ((ji19) - 1)))*2 ^ x8_3.toNat))=ji21:=shl_small hji21
         have c22b0:=eq_true (od_:0<=(ji17))
         obtain⟨ji23,hji23⟩:∃ j_:Int,(shr .u64 x10_3 (ji17))=j_:=⟨_,rfl⟩
         replace H:(if(wrap64 (x8_3+(ji17)))=8 then(if x6_3.length < 140737488355328 then(bits_Pack.l1 k3 a1 (x6_3++[(Go.bits .or .u64 x7_3 (ji21)) % 256]) 0 0 ji23 (wrap64 (x11_3 - (ji17))) l0 (l0.length:Int) x33_2)else(none))else(bits_Pack.l1 k3 a1 x6_3 (Go.bits .or .u64 x7_3 (ji21)) (wrap64 (x8_3+(ji17))) ji23 (wrap64 (x11_3 - (ji17))) l0 (l0.length:Int) x33_2))=some (r1,r2):=hj_ hji23 H
         have hji23_:(x10_3 / 2 ^ min (ji17).toNat 64)=ji23:=hji23
         have hji23z:(ji17)<=64->(x10_3 / 2 ^ (ji17).toNat)=ji23:=shr_small hji23
         by_cases c24:(wrap64 (x8_3+(ji17)))=8
         rotate_left
         .rw[if_neg c24]at H
          have c24b0:=beq_eq_false_iff_ne.mpr c24
          have c24b1:=bne_iff_ne.mpr c24
          have H':=Aside0.mk H
          clear H
          go_wp2
          subst hji23 hji21 hji19 hji17
          go_roundg k3
          case measure=>have:=HJ2.out;have:=HK2.out;have:=HK3.out;omega
          case rel=>exact⟨(x6_3),(Go.bits .or .u64 x7_3 ((shl .u64 (Go.bits .and .u64 x10_3 (IntKind.u64.wrap (((shl .u64 1 ((mn x11_3 (wrap64 (8 - x8_3)))))) - 1))) x8_3))),(wrap64 (x8_3+((mn x11_3 (wrap64 (8 - x8_3)))))),((shr .u64 x10_3 ((mn x11_3 (wrap64 (8 - x8_3)))))),(wrap64 (x11_3 - ((mn x11_3 (wrap64 (8 - x8_3)))))),(by first|rfl|(simp;done)|(simp only[<- hji21]<;>(first|rfl|simp))|(simp[*];done)),(by first|rfl|(simp;done)|(simp only[<- hji17]<;>(first|rfl|simp))|(simp[*];done)),(by first|rfl|(simp;done)|(simp only[<- hji23]<;>(first|rfl|simp))|(simp[*];done)),(by first|rfl|(simp;done)|(simp only[<- hji17]<;>(first|rfl|simp))|(simp[*];done)),H',⟨by have:=HJ2.out;have:=HK2.out;have:=HK3.out;omega⟩,⟨Kd.ru_ HO_6.out⟩,⟨bw_⟩⟩
         rw[if_pos c24]at H
         have c24b0:=beq_iff_eq.mpr c24
         have c24b1:=bne_eq_false_iff_eq.mpr c24
         clear c24
         by_cases c25:x6_3.length < 140737488355328
         rotate_left
         .rw[if_neg c25]at H
          cases H
         rw[if_pos c25]at H
         have LMc25:=Aside0.mk c25
         clear c25
         obtain⟨y139,hy139⟩:∃ y_:List Int,y_=(x6_3++[(Go.bits .or .u64 x7_3 (ji21)) % 256]):=⟨_,rfl⟩
         replace H:(bits_Pack.l1 k3 a1 y139 0 0 ji23 (wrap64 (x11_3 - (ji17))) l0 (l0.length:Int) x33_2)=some (r1,r2):=hx_ hy139 H
         have Ny139:=Aside0.mk hy139
         clear hy139
         have H':=Aside0.mk H
         clear H
         go_wp2_with (first|((with_reducible refine gate_builtin (b:= .append) (xs:= #[.tmp 64,.tmp 67]) rfl ?_);at_builtin;refine Kd.R_append (Kd.int .u8) (w0:=w) w.heap.size rfl (.tmp 64) (.tmp 67) 22 5 (.int .u8 0) 1 rfl Try.underlying22 info5 rfl (by decide) (by omega) u6 x6_3 ((Go.bits .or .u64 x7_3 (ji21)) % 256) [.int .u8 ((Go.bits .or .u64 x7_3 (ji21)) % 256)] (fun _=>True) (fun _=>False) rfl rfl ?aP (fun _ hk=>hk.elim) ?aF ?aO ?aB ?aS ?aL ?_;(case aP=>exact rfl);(case aB=>exact bw_);(case aF=>exact(fun _ _=>trivial));(case aO=>exact(Kd.ru_ HO_6.out));(case aS=>exact(pbS_ bw_));(case aL=>have:=LMc25.out;omega);intro v140 w26 ho hb hg hat;rw[<- Ny139.out]at ho;have n0_:=Aside0.mk (hb);have n1_:=Aside0.mk (ho);clear HB;clear HO_6;have HB:=n0_;have HO141:=n1_;clear n0_ n1_;clear ho hb hg hat))
         subst hji23 hji21 hji19 hji17
         go_roundg k3
         case measure=>have:=HJ2.out;have:=HK2.out;have:=HK3.out;omega
         case rel=>exact⟨(y139),(0),(0),((shr .u64 x10_3 ((mn x11_3 (wrap64 (8 - x8_3)))))),(wrap64 (x11_3 - ((mn x11_3 (wrap64 (8 - x8_3)))))),rs_,rs_,(by first|rfl|(simp;done)|(simp only[<- hji23]<;>(first|rfl|simp))|(simp[*];done)),(by first|rfl|(simp;done)|(simp only[<- hji17]<;>(first|rfl|simp))|(simp[*];done)),H',⟨by have:=HJ2.out;have:=HK2.out;have:=HK3.out;omega⟩,⟨Kd.ru_ HO141.out⟩,⟨bw_⟩⟩
mutual
def slices_Concat_byte_byte.l0:Nat->List (List Int)->Int->List (List Int)->Int->Int->Option (List Int)
 |0,_,_,_,_,_=>none
 |k+1,x0,x3,x9,x10,x11=>if x11 < x10 then(if 0<=x11 then(if x11 < (x9.length:Int)then(if(wrap64 (x3+((rd_L5 x9 x11).length:Int))) < 0 then(none)else(slices_Concat_byte_byte.l0 k x0 (wrap64 (x3+((rd_L5 x9 x11).length:Int))) x9 x10 (wrap64 (x11+1))))else(none))else(none))else((slices_Grow_byte_byte.f ([]:List Int) x3).bind fun t143=>(slices_Concat_byte_byte.l1 k t143 x0 (x0.length:Int) 0))
def slices_Concat_byte_byte.l1:Nat->List Int->List (List Int)->Int->Int->Option (List Int)
 |0,_,_,_,_=>none
 |k+1,x6,x25,x26,x27=>if x27 < x26 then(if 0<=x27 then(if x27 < (x25.length:Int)then(if x6.length+(rd_L5 x25 x27).length < 140737488355328 then(slices_Concat_byte_byte.l1 k (x6++(rd_L5 x25 x27)) x25 x26 (wrap64 (x27+1)))else(none))else(none))else(none))else(some x6)
end
def slices_Concat_byte_byte.f (k:Nat) (l0:List (List Int)):Option (List Int):=slices_Concat_byte_byte.l0 k l0 0 l0 (l0.length:Int) 0
theorem slices_Concat_byte_byte.mono_l:∀ k,(∀ y0 y1 y2 y3 y4,LeO (slices_Concat_byte_byte.l0 k y0 y1 y2 y3 y4) (slices_Concat_byte_byte.l0 (k+1) y0 y1 y2 y3 y4))∧(∀ y0 y1 y2 y3,LeO (slices_Concat_byte_byte.l1 k y0 y1 y2 y3) (slices_Concat_byte_byte.l1 (k+1) y0 y1 y2 y3))
 |0=>⟨fun _ _ _ _ _ r h=>by simp[slices_Concat_byte_byte.l0]at h,fun _ _ _ _ r h=>by simp[slices_Concat_byte_byte.l1]at h⟩
 |k+1=>by
  obtain⟨ih0,ih1⟩:=slices_Concat_byte_byte.mono_l k
  refine⟨?_,?_⟩
  .intro y0 y1 y2 y3 y4
   unfold slices_Concat_byte_byte.l0
   repeat' first
   |(with_reducible exact ih0 _ _ _ _ _)
   |(with_reducible exact ih1 _ _ _ _)
   |(with_reducible exact LeO.refl _)
   |(with_reducible exact LeO.none _)
   |(with_reducible refine LeO.ite ?_ ?_)
   |(with_reducible refine LeO.bind ?_ (fun _=>?_))
  .intro y0 y1 y2 y3
   unfold slices_Concat_byte_byte.l1
   repeat' first
   |(with_reducible exact ih0 _ _ _ _ _)
   |(with_reducible exact ih1 _ _ _ _)
   |(with_reducible exact LeO.refl _)
   |(with_reducible exact LeO.none _)
   |(with_reducible refine LeO.ite ?_ ?_)
   |(with_reducible refine LeO.bind ?_ (fun _=>?_))
theorem slices_Concat_byte_byte.mono:∀ a0 k,LeO (slices_Concat_byte_byte.f k a0) (slices_Concat_byte_byte.f (k+1) a0):=by
 intro a0 k
 obtain⟨ih0,ih1⟩:=slices_Concat_byte_byte.mono_l k
 unfold slices_Concat_byte_byte.f
 repeat' first
   |(with_reducible exact ih0 _ _ _ _ _)
   |(with_reducible exact ih1 _ _ _ _)
   |(with_reducible exact LeO.refl _)
   |(with_reducible exact LeO.none _)
   |(with_reducible refine LeO.ite ?_ ?_)
   |(with_reducible refine LeO.bind ?_ (fun _=>?_))
set_option maxHeartbeats 8000000 in
set_option maxRecDepth 100000 in
theorem slices_Concat_byte_byte.calls (k:Nat) (A0:Option Addr) (c0:Nat) (l0:List (List Int)) (r:List Int) (w:World) (hr0:Kd.C (Kd.slice 5 (Kd.int .u8)) w A0 l0.length l0) (hc0:l0.length<=c0) (h:slices_Concat_byte_byte.f k l0=some r):
  Calls Try.prog 50 #[.slice A0 l0.length c0] w fun e w'=>∃ v0_:Value,e= .returned (v0_)∧Kd.R (Kd.int .u8) 5 w' w.heap.size (fun _=>True) v0_ r∧Below w.heap.size w w':=by
 have HR0:=Aside0.mk hr0
 have HC0:=Aside0.mk hc0
 clear hr0 hc0
 have HB:=Aside0.mk (Below.refl w.heap.size w)
 have H:(slices_Concat_byte_byte.l0 k l0 0 l0 (l0.length:Int) 0)=some r:=h
 clear h
 have H':=Aside0.mk H
 clear H
 go_enter Try.func50,Try.ntmps50
 go_wp2
 go_loopg [3,11] k (fun kq v3 v11 w'=>∃ (x3_1:Int) (x11_1:Int),v3= .int .i64 x3_1∧v11= .int .i64 x11_1∧Aside0 (slices_Concat_byte_byte.l0 kq l0 x3_1 l0 (l0.length:Int) x11_1=some r)∧Aside0 (kq<=k)∧Aside0 (Below w.heap.size w w'))
 case atStart=>exact⟨(0),(0),rs_,rs_,H',⟨Nat.le_refl _⟩,⟨bw_⟩⟩
 case round=>
  clear H'
  obtain⟨x3_1,x11_1,rfl,rfl,HA,HK1,HB⟩:=hrel
  cases gk with
  |zero=>exact absurd HA.out (by simp[slices_Concat_byte_byte.l0])
  |succ k1=>
   have H:=HA.out
   clear HA
   simp only[slices_Concat_byte_byte.l0]at H
   by_cases c2:x11_1 < (l0.length:Int)
   .rw[if_pos c2]at H
    have c2b0:=decide_eq_true c2
    clear c2
    by_cases c3:0<=x11_1
    rotate_left
    .rw[if_neg c3]at H
     cases H
    rw[if_pos c3]at H
    have c3b0:=decide_eq_true c3
    clear c3
    by_cases c4:x11_1 < (l0.length:Int)
    rotate_left
    .rw[if_neg c4]at H
     cases H
    rw[if_pos c4]at H
    have c4b0:=decide_eq_true c4
    clear c4
    by_cases c5:(wrap64 (x3_1+((rd_L5 l0 x11_1).length:Int))) < 0
    .rw[if_pos c5]at H
     cases H
    .rw[if_neg c5]at H
     have c5b0:=decide_eq_false c5
     clear c5
     have H':=Aside0.mk H
     clear H
     have p142:0<=(x11_1:Int):=od_
     have q142:x11_1 < (l0.length:Int):=od_
     obtain⟨ad142,A142_0,c142_0,e142,hx142_0,hl142_0,hi142_0⟩:=at_L5 HR0.out x11_1 p142 q142
     cases e142
     replace hx142_0:=cx_ HB.out rfl hx142_0
     have HR142_0:=Aside0.mk hi142_0
     have HC142_0:=Aside0.mk hl142_0
     clear hi142_0 hl142_0
     replace p142:=eq_true p142
     replace q142:=eq_true q142
     go_wp2
     go_roundg k1
     case measure=>have:=HK1.out;omega
     case rel=>exact⟨(wrap64 (x3_1+((rd_L5 l0 x11_1).length:Int))),(wrap64 (x11_1+1)),rs_,rs_,H',⟨by have:=HK1.out;omega⟩,⟨bw_⟩⟩
   .rw[if_neg c2]at H
    have c2b0:=decide_eq_false c2
    clear c2
    replace H:=Option.bind_eq_some_iff.mp H
    obtain⟨t143,A60,H⟩:=H
    try dsimp only at H
    have A6:=Aside0.mk A60
    clear A60
    have H':=Aside0.mk H
    clear H
    go_wp2_with (first|((with_reducible refine gaC_ (f:=42) rfl ?_);refine goesL_ (some 24) rfl rfl Try.func42 (by kernel_rfl) rfl #[.slice none 0 0,.int .i64 x3_1] rfl am_ ?_;(refine(slices_Grow_byte_byte.calls (fun k_=>some k_=(.slice none 0 0:Value).ownBlock) (.slice none 0 0) ([]:List Int) x3_1 t143 w _ ?side1 ?side2 A6.out).mono ?_);(case side1=>repeat(first|(with_reducible first|exact HB.out|apply pbA_|apply pbN_|apply pb1_)|exact HB.out));(case side2=>exact Kd.R_nil _ _ _ _ _);rintro e w7 ⟨v144,rfl,ho0,hb,hkp⟩;refine⟨_,rfl,?_⟩;have HO145:=Aside0.mk (Kd.R_mono (ok':=fun k_=>True) ho0 (fun k_ hk_=>trivial));replace HB:=Aside0.mk (hb);(try clear hkp)))
    go_loopg [6,27] k1 (fun kq v6 v27 w'=>∃ (x6_2:List Int) (x27_2:Int),v27= .int .i64 x27_2∧Aside0 (slices_Concat_byte_byte.l1 kq x6_2 l0 (l0.length:Int) x27_2=some r)∧Aside0 (kq<=k1)∧Aside0 (Kd.R (Kd.int .u8) 5 w' w.heap.size (fun _=>True) v6 x6_2)∧Aside0 (Below w.heap.size w w'))
    case atStart=>exact⟨(t143),(0),rs_,H',⟨Nat.le_refl _⟩,⟨Kd.ru_ HO145.out⟩,⟨bw_⟩⟩
    case round=>
     clear H'
     clear c2b0
     obtain⟨x6_2,x27_2,rfl,HA,HK2,HO_6,HB⟩:=hrel
     cases gk with
     |zero=>exact absurd HA.out (by simp[slices_Concat_byte_byte.l1])
     |succ k2=>
      have H:=HA.out
      clear HA
      simp only[slices_Concat_byte_byte.l1]at H
      by_cases c8:x27_2 < (l0.length:Int)
      rotate_left
      .rw[if_neg c8]at H
       have c8b0:=decide_eq_false c8
       clear c8
       obtain rfl:=Option.some.inj H
       go_wp2
       go_ret
       exact⟨_,rf_,by(with_reducible repeat(first|apply Kd.rA_|apply Kd.rN_|apply Kd.rD_));exact HO_6.out,bw_⟩
      rw[if_pos c8]at H
      have c8b0:=decide_eq_true c8
      clear c8
      by_cases c9:0<=x27_2
      rotate_left
      .rw[if_neg c9]at H
       cases H
      rw[if_pos c9]at H
      have c9b0:=decide_eq_true c9
      clear c9
      by_cases c10:x27_2 < (l0.length:Int)
      rotate_left
      .rw[if_neg c10]at H
       cases H
      rw[if_pos c10]at H
      have c10b0:=decide_eq_true c10
      clear c10
      by_cases c11:x6_2.length+(rd_L5 l0 x27_2).length < 140737488355328
      rotate_left
      .rw[if_neg c11]at H
       cases H
      rw[if_pos c11]at H
      have LMc11:=Aside0.mk c11
      clear c11
      obtain⟨y147,hy147⟩:∃ y_:List Int,y_=(x6_2++(rd_L5 l0 x27_2)):=⟨_,rfl⟩
      replace H:(slices_Concat_byte_byte.l1 k2 y147 l0 (l0.length:Int) (wrap64 (x27_2+1)))=some r:=hx_ hy147 H
      have Ny147:=Aside0.mk hy147
      clear hy147
      have H':=Aside0.mk H
      clear H
      have p146:0<=(x27_2:Int):=od_
      have q146:x27_2 < (l0.length:Int):=od_
      obtain⟨ad146,A146_0,c146_0,e146,hx146_0,hl146_0,hi146_0⟩:=at_L5 HR0.out x27_2 p146 q146
      cases e146
      replace hx146_0:=cx_ HB.out rfl hx146_0
      have HR146_0:=Aside0.mk hi146_0
      have HC146_0:=Aside0.mk hl146_0
      clear hi146_0 hl146_0
      replace p146:=eq_true p146
      replace q146:=eq_true q146
      go_wp2_with (first|((with_reducible refine gate_builtin (b:= .append) (xs:= #[.tmp 31,.tmp 32]) rfl ?_);at_builtin;refine Kd.R_append_rows (Kd.int .u8) (w0:=w) w.heap.size rfl (.tmp 31) (.tmp 32) 22 5 (.int .u8 0) 1 rfl Try.underlying22 info5 rfl (by decide) (by omega) u6 x6_2 (rd_L5 l0 x27_2) _ _ _ (fun _=>True) (fun _=>False) rfl rfl ?aO ?aR (fun _ _ h=>h) (fun _ h=>h.elim) ?aF ?aB ?aS ?aL ?_;(case aR=>exact Kd.cu_ (Kd.C_below HR146_0.out HB.out));(case aB=>exact bw_);(case aF=>exact(fun _ _=>trivial));(case aO=>exact(Kd.ru_ HO_6.out));(case aS=>exact(pbS_ bw_));(case aL=>have:=LMc11.out;omega);intro v148 w12 ho hb hg hat;rw[<- Ny147.out]at ho;have n0_:=Aside0.mk (hb);have n1_:=Aside0.mk (ho);clear HB;clear HO_6;have HB:=n0_;have HO149:=n1_;clear n0_ n1_;clear ho hb hg hat))
      go_roundg k2
      case measure=>have:=HK1.out;have:=HK2.out;omega
      case rel=>exact⟨(y147),(wrap64 (x27_2+1)),rs_,H',⟨by have:=HK1.out;have:=HK2.out;omega⟩,⟨Kd.ru_ HO149.out⟩,⟨bw_⟩⟩
mutual
def pfor_PutBlock.j0:Nat->List Int->List Int->Bool->Option (List Int×Int)
 |0,_,_,_=>none
 |k+1,x0,x1,x27=>if x27=true then(some (([]:List Int),1))else((slices_Min_uint64_uint64.f k x1).bind fun t150=>(if 0<=(x1.length:Int)then(if((x1.length:Int):Int).toNat<=35184372088832 then(pfor_PutBlock.l0 k x0 x1 t150 (List.replicate ((x1.length:Int):Int).toNat 0) x1 (x1.length:Int) 0)else(none))else(none)))
def pfor_PutBlock.l0:Nat->List Int->List Int->Int->List Int->List Int->Int->Int->Option (List Int×Int)
 |0,_,_,_,_,_,_,_=>none
 |k+1,x0,x1,x6,x7,x33,x34,x35=>if x35 < x34 then(if 0<=x35 then(if x35 < (x33.length:Int)then(if x35 < (x7.length:Int)then(pfor_PutBlock.l0 k x0 x1 x6 (x7.set (x35:Int).toNat (IntKind.u64.wrap ((rd x33 x35) - x6))) x33 x34 (wrap64 (x35+1)))else(none))else(none))else(none))else((pfor_width.f k x7).bind fun t156=>(if 0<=(x1.length:Int)then(if((x1.length:Int):Int).toNat<=35184372088832 then(pfor_PutBlock.l1 k x0 x1 x6 t156 ([]:List Int) 0 (List.replicate ((x1.length:Int):Int).toNat 0) x7 (x7.length:Int) 0)else(none))else(none)))
def pfor_PutBlock.l1:Nat->List Int->List Int->Int->Int->List Int->Int->List Int->List Int->Int->Int->Option (List Int×Int)
 |0,_,_,_,_,_,_,_,_,_,_=>none
 |k+1,x0,x1,x6,x10,x11,x12,x13,x52,x53,x54=>if x54 < x53 then(if 0<=x54 then(if x54 < (x52.length:Int)then((pfor_high.f (rd x52 x54) x10).bind fun t161=>(if x54 < (x13.length:Int)then((some (x13.set (x54:Int).toNat (rd x52 x54):List Int)).bind fun y162=>(if t161 > 0 then(if 0<=x10 then(if x11.length < 140737488355328 then((num_Put.f k (x11++[(x54) % 256]) t161).bind fun t167=>(pfor_PutBlock.l1 k x0 x1 x6 x10 t167 (wrap64 (x12+1)) (y162.set (x54:Int).toNat (Go.bits .andNot .u64 (rd x52 x54) (shl .u64 t161 x10))) x52 x53 (wrap64 (x54+1))))else(none))else(none))else(pfor_PutBlock.l1 k x0 x1 x6 x10 x11 x12 y162 x52 x53 (wrap64 (x54+1)))))else(none)))else(none))else(none))else((bits_Pack.f k x13 x10).bind fun bt170=>(if bt170.2=0 then((slices_Clone_byte_byte.f x0).bind fun t174=>(if t174.length < 140737488355328 then((num_Put.f k (t174++[((x1.length:Int)) % 256]) x6).bind fun t180=>((some (([(x10) % 256,(x12) % 256]:List Int):List Int)).bind fun y183=>(if t180.length+y183.length < 140737488355328 then((slices_Concat_byte_byte.f k (([(t180++y183),bt170.1,x11]:List (List Int)))).bind fun t192=>(some (t192,0)))else(none))))else(none)))else(some (([]:List Int),bt170.2))))
end
def pfor_PutBlock.f (k:Nat) (l0:List Int) (l1:List Int):Option (List Int×Int):=if(l1.length:Int) < 1 then(pfor_PutBlock.j0 k l0 l1 true)else(pfor_PutBlock.j0 k l0 l1 (decide ((l1.length:Int) > 32)))
theorem pfor_PutBlock.mono_l:∀ k,(∀ y0 y1 y2,LeO (pfor_PutBlock.j0 k y0 y1 y2) (pfor_PutBlock.j0 (k+1) y0 y1 y2))∧(∀ y0 y1 y2 y3 y4 y5 y6,LeO (pfor_PutBlock.l0 k y0 y1 y2 y3 y4 y5 y6) (pfor_PutBlock.l0 (k+1) y0 y1 y2 y3 y4 y5 y6))∧(∀ y0 y1 y2 y3 y4 y5 y6 y7 y8 y9,LeO (pfor_PutBlock.l1 k y0 y1 y2 y3 y4 y5 y6 y7 y8 y9) (pfor_PutBlock.l1 (k+1) y0 y1 y2 y3 y4 y5 y6 y7 y8 y9))
 |0=>⟨fun _ _ _ r h=>by simp[pfor_PutBlock.j0]at h,fun _ _ _ _ _ _ _ r h=>by simp[pfor_PutBlock.l0]at h,fun _ _ _ _ _ _ _ _ _ _ r h=>by simp[pfor_PutBlock.l1]at h⟩
 |k+1=>by
  obtain⟨ih0,ih1,ih2⟩:=pfor_PutBlock.mono_l k
  refine⟨?_,?_,?_⟩
  .intro y0 y1 y2
   unfold pfor_PutBlock.j0
   repeat' first
   |(with_reducible exact ih0 _ _ _)
   |(with_reducible exact ih1 _ _ _ _ _ _ _)
   |(with_reducible exact ih2 _ _ _ _ _ _ _ _ _ _)
   |(with_reducible exact bits_Pack.mono _ _ _)
   |(with_reducible exact num_Put.mono _ _ _)
   |(with_reducible exact pfor_width.mono _ _)
   |(with_reducible exact slices_Concat_byte_byte.mono _ _)
   |(with_reducible exact slices_Min_uint64_uint64.mono _ _)
   |(with_reducible exact LeO.refl _)
   |(with_reducible exact LeO.none _)
   |(with_reducible refine LeO.ite ?_ ?_)
   |(with_reducible refine LeO.bind ?_ (fun _=>?_))
  .intro y0 y1 y2 y3 y4 y5 y6
   unfold pfor_PutBlock.l0
   repeat' first
   |(with_reducible exact ih0 _ _ _)
   |(with_reducible exact ih1 _ _ _ _ _ _ _)
   |(with_reducible exact ih2 _ _ _ _ _ _ _ _ _ _)
   |(with_reducible exact bits_Pack.mono _ _ _)
   |(with_reducible exact num_Put.mono _ _ _)
   |(with_reducible exact pfor_width.mono _ _)
   |(with_reducible exact slices_Concat_byte_byte.mono _ _)
   |(with_reducible exact slices_Min_uint64_uint64.mono _ _)
   |(with_reducible exact LeO.refl _)
   |(with_reducible exact LeO.none _)
   |(with_reducible refine LeO.ite ?_ ?_)
   |(with_reducible refine LeO.bind ?_ (fun _=>?_))
  .intro y0 y1 y2 y3 y4 y5 y6 y7 y8 y9
   unfold pfor_PutBlock.l1
   repeat' first
   |(with_reducible exact ih0 _ _ _)
   |(with_reducible exact ih1 _ _ _ _ _ _ _)
   |(with_reducible exact ih2 _ _ _ _ _ _ _ _ _ _)
   |(with_reducible exact bits_Pack.mono _ _ _)
   |(with_reducible exact num_Put.mono _ _ _)
   |(with_reducible exact pfor_width.mono _ _)
   |(with_reducible exact slices_Concat_byte_byte.mono _ _)
   |(with_reducible exact slices_Min_uint64_uint64.mono _ _)
   |(with_reducible exact LeO.refl _)
   |(with_reducible exact LeO.none _)
   |(with_reducible refine LeO.ite ?_ ?_)
   |(with_reducible refine LeO.bind ?_ (fun _=>?_))
theorem pfor_PutBlock.mono:∀ a0 a1 k,LeO (pfor_PutBlock.f k a0 a1) (pfor_PutBlock.f (k+1) a0 a1):=by
 intro a0 a1 k
 obtain⟨ih0,ih1,ih2⟩:=pfor_PutBlock.mono_l k
 unfold pfor_PutBlock.f
 repeat' first
   |(with_reducible exact ih0 _ _ _)
   |(with_reducible exact ih1 _ _ _ _ _ _ _)
   |(with_reducible exact ih2 _ _ _ _ _ _ _ _ _ _)
   |(with_reducible exact bits_Pack.mono _ _ _)
   |(with_reducible exact num_Put.mono _ _ _)
   |(with_reducible exact pfor_width.mono _ _)
   |(with_reducible exact slices_Concat_byte_byte.mono _ _)
   |(with_reducible exact slices_Min_uint64_uint64.mono _ _)
   |(with_reducible exact LeO.refl _)
   |(with_reducible exact LeO.none _)
   |(with_reducible refine LeO.ite ?_ ?_)
   |(with_reducible refine LeO.bind ?_ (fun _=>?_))
set_option maxHeartbeats 8000000 in
set_option maxRecDepth 100000 in
theorem pfor_PutBlock.calls (k:Nat) (A0:Option Addr) (c0:Nat) (l0:List Int) (A1:Option Addr) (c1:Nat) (l1:List Int) (r1:List Int) (r2:Int) (w:World) (hr0:Kd.C (Kd.int .u8) w A0 l0.length l0) (hc0:l0.length<=c0) (hr1:Kd.C (Kd.int .u64) w A1 l1.length l1) (hc1:l1.length<=c1) (h:pfor_PutBlock.f k l0 l1=some (r1,r2)):
  Calls Try.prog 26 #[.slice A0 l0.length c0,.slice A1 l1.length c1] w fun e w'=>∃ v0_:Value,e= .returned (.tuple #[v0_,.int .i64 r2])∧Kd.R (Kd.int .u8) 5 w' w.heap.size (fun _=>True) v0_ r1∧Below w.heap.size w w':=by
 have HR0:=Aside0.mk hr0
 have HC0:=Aside0.mk hc0
 clear hr0 hc0
 have HR1:=Aside0.mk hr1
 have HC1:=Aside0.mk hc1
 clear hr1 hc1
 have HB:=Aside0.mk (Below.refl w.heap.size w)
 have H:(if(l1.length:Int) < 1 then(pfor_PutBlock.j0 k l0 l1 true)else(pfor_PutBlock.j0 k l0 l1 (decide ((l1.length:Int) > 32))))=some (r1,r2):=h
 clear h
 have HC3:=Aside0.mk H
 clear H
 go_enter Try.func26,Try.ntmps26
 go_upto_region 1 with (fail)
 go_cut [27] (fun v27 wc=>∃ (kq:Nat) (x27_2:Bool),v27= .bool x27_2∧Aside0 (pfor_PutBlock.j0 kq l0 l1 x27_2=some (r1,r2))∧Aside0 (kq<=k)∧Aside0 (Below w.heap.size w wc))
 case first=>
  have H:=HC3.out
  clear HC3
  by_cases c4:(l1.length:Int) < 1
  rotate_left
  .rw[if_neg c4]at H
   have c4b0:=decide_eq_false c4
   have c4b1:decide (l1.length < 1)=false:=decide_eq_false (by omega)
   clear c4
   (first|rw[c4b0]|(simp only[i64_w,i32_w];rw[c4b0])|skip)
   have H':=Aside0.mk H
   clear H
   go_wp2
   go_meet
   case rel=>exact⟨_,(decide ((l1.length:Int) > 32)),rs_,H',⟨by first|omega|exact Nat.le_refl _⟩,⟨bw_⟩⟩
  rw[if_pos c4]at H
  have c4b0:=decide_eq_true c4
  have c4b1:decide (l1.length < 1)=true:=decide_eq_true (by omega)
  clear c4
  (first|rw[c4b0]|(simp only[i64_w,i32_w];rw[c4b0])|skip)
  have H':=Aside0.mk H
  clear H
  go_wp2
  go_meet
  case rel=>exact⟨_,(true),rs_,H',⟨by first|omega|exact Nat.le_refl _⟩,⟨bw_⟩⟩
 case rest=>
  clear HC3
  obtain⟨kq,x27_2,rfl,HA,HJ2,HB⟩:=hcut
  cases kq with
  |zero=>exact absurd HA.out (by simp[pfor_PutBlock.j0])
  |succ kj2=>
   have H:=HA.out
   clear HA
   simp only[pfor_PutBlock.j0]at H
   by_cases c5:x27_2=true
   .subst c5
    rw[if_pos rfl]at H
    simp only[Option.some.injEq,Prod.mk.injEq]at H
    obtain⟨rfl,rfl⟩:=H
    go_wp2
    go_ret2
    exact⟨_,rf_,ni_,bw_⟩
   .replace c5:=Bool.eq_false_iff.mpr c5
    subst c5
    rw[if_neg (show ¬ (false=true) by decide)]at H
    replace H:=Option.bind_eq_some_iff.mp H
    obtain⟨t150,A60,H⟩:=H
    try dsimp only at H
    have A6:=Aside0.mk A60
    clear A60
    by_cases c7:0<=(l1.length:Int)
    rotate_left
    .rw[if_neg c7]at H
     cases H
    rw[if_pos c7]at H
    have c7b0:=eq_true c7
    have c7b1:=decide_eq_true c7
    clear c7
    by_cases c8:((l1.length:Int):Int).toNat<=35184372088832
    rotate_left
    .rw[if_neg c8]at H
     cases H
    rw[if_pos c8]at H
    have c8b0:=eq_true c8
    have c8b1:=decide_eq_true c8
    clear c8
    obtain⟨y151,hy151⟩:∃ y_:List Int,y_=(List.replicate ((l1.length:Int):Int).toNat 0):=⟨_,rfl⟩
    replace H:(pfor_PutBlock.l0 kj2 l0 l1 t150 y151 l1 (l1.length:Int) 0)=some (r1,r2):=hx_ hy151 H
    have Ny151:=Aside0.mk hy151
    clear hy151
    have H':=Aside0.mk H
    clear H
    go_wp2_with (first|((with_reducible refine gaC_ (f:=46) rfl ?_);refine goesL_ (some 29) rfl rfl Try.func46 (by kernel_rfl) rfl #[.slice A1 l1.length c1] rfl am_ ?_;(with_reducible refine(slices_Min_uint64_uint64.calls kj2 _ _ l1 t150 _ ?side1 ?side2 A6.out).mono ?_);(case side1=>exact Kd.cu_ (Kd.C_below HR1.out HB.out));(case side2=>exact HC1.out);rintro e w9 ⟨rfl,hb⟩;refine⟨_,rfl,?_⟩;replace HB:=Aside0.mk (below_step bw_ hb))|((with_reducible refine gate_dst (N:=32) rfl ?_);(try(refine gate_guard (by rfl) ?_;dsimp only));refine Kd.R_make (Kd.int .u64) _ 48 rfl (N:=32) rfl 52 _ _ rfl (l1.length:Int) rfl rfl Try.underlying52 (.int .u64 0) 8 info48 rfl (by decide) (by omega) 0 (ok:=fun _=>True) (okp:=fun _=>True) rfl (fun _ hk=>hk) trivial od_ (Nat.le_trans (Nat.mul_le_mul_right _ (od_:(l1.length:Int).toNat<=35184372088832)) (by omega)) (Below.refl _ _) (Nat.le_refl _) ?_;intro v152 w10 ho11 hb hg_ hnew_;clear hg_ hnew_;(first|rw[<- Ny151.out]at ho11|(simp only[Int.reduceToNat]at ho11;rw[<- Ny151.out]at ho11));have HO153:=Aside0.mk (Kd.R_lower ho11 (pbS_ bw_));replace HB:=Aside0.mk (below_step bw_ hb);clear hb ho11))
    go_loopg [35] kj2 (fun kq v35 w'=>∃ (x7_2:List Int) (x35_2:Int),v35= .int .i64 x35_2∧Aside0 (pfor_PutBlock.l0 kq l0 l1 t150 x7_2 l1 (l1.length:Int) x35_2=some (r1,r2))∧Aside0 (kq<=kj2)∧Aside0 (Kd.R (Kd.int .u64) 48 w' w.heap.size (fun _=>True) v152 x7_2)∧Aside0 (Below w.heap.size w w'))
    case atStart=>exact⟨(y151),(0),rs_,H',⟨Nat.le_refl _⟩,⟨Kd.ru_ HO153.out⟩,⟨bw_⟩⟩
    case round=>
     clear H'
     clear c7b0 c7b1
     clear c8b0 c8b1
     obtain⟨x7_2,x35_2,rfl,HA,HK2,HO_7,HB⟩:=hrel
     cases gk with
     |zero=>exact absurd HA.out (by simp[pfor_PutBlock.l0])
     |succ k2=>
      have H:=HA.out
      clear HA
      simp only[pfor_PutBlock.l0]at H
      by_cases c12:x35_2 < (l1.length:Int)
      .rw[if_pos c12]at H
       have c12b0:=decide_eq_true c12
       clear c12
       by_cases c13:0<=x35_2
       rotate_left
       .rw[if_neg c13]at H
        cases H
       rw[if_pos c13]at H
       have c13b0:=decide_eq_true c13
       clear c13
       by_cases c14:x35_2 < (l1.length:Int)
       rotate_left
       .rw[if_neg c14]at H
        cases H
       rw[if_pos c14]at H
       have c14b0:=decide_eq_true c14
       clear c14
       by_cases c15:x35_2 < (x7_2.length:Int)
       rotate_left
       .rw[if_neg c15]at H
        cases H
       rw[if_pos c15]at H
       have c15b0:=decide_eq_true c15
       clear c15
       obtain⟨y155,hy155⟩:∃ y_:List Int,y_=(x7_2.set (x35_2:Int).toNat (IntKind.u64.wrap ((rd l1 x35_2) - t150))):=⟨_,rfl⟩
       replace H:(pfor_PutBlock.l0 k2 l0 l1 t150 y155 l1 (l1.length:Int) (wrap64 (x35_2+1)))=some (r1,r2):=hx_ hy155 H
       have Ny155:=Aside0.mk hy155
       clear hy155
       have H':=Aside0.mk H
       clear H
       have p154:0<=(x35_2:Int):=od_
       have q154:x35_2 < (l1.length:Int):=od_
       obtain⟨ad154,e154,hx154_0⟩:=Kd.at_int HR1.out x35_2 p154 q154
       cases e154
       replace hx154_0:=cx_ HB.out rfl hx154_0
       replace p154:=eq_true p154
       replace q154:=eq_true q154
       have p16:0<=(x35_2:Int):=od_
       have q16:(x35_2:Int) < ((x7_2.length:Int):Int):=od_
       obtain⟨go16,co16,eo16,gb16,gl16,cl16,HG16⟩:=Kd.R_form HO_7.out (by omega)
       (first|cases eo16|(injection eo16 with ea_ en_ ec_;(first|subst ea_|(injection ea_ with ea_;subst ea_));subst ec_;clear en_))
       have GB16:=Aside0.mk gb16
       have GG16:=Aside0.mk HG16
       clear gb16 gl16 HG16
       obtain⟨hx16_0,hf16_0⟩:=Kd.R_celln 0 HO_7.out (x35_2:Int) p16 q16
       replace p16:=eq_true p16
       replace q16:=eq_true q16
       have HP17:=Kd.R_putg HO_7.out (x35_2:Int) (IntKind.u64.wrap ((rd l1 x35_2) - t150))
       go_wp2_with (first|((with_reducible refine gate_store (t:=48) (p:=45) rfl ?_);refine store_event (t:=48) (p:=45) (v:= ?vo_w18) (w1:=(wr.setCell ⟨go16,(x35_2:Int).toNat,none⟩ (.int .u64 (IntKind.u64.wrap ((rd l1 x35_2) - t150))))) ?hg ?ho ?hn ?hr ?_;(case ho=>rfl);(case hg=>rfl);(case hn=>rfl);(case hr=>first|(go_simp;done)|(go_simp;rfl));intro w18 hw;have hg:wr.grownBy w18 (some go16):=(by rw[hw];exact HP17.2);have hp_:Kd.R (Kd.int .u64) 48 w18 w.heap.size (fun _=>True) (.slice (some ⟨go16,0,none⟩) x7_2.length co16) y155:=(by rw[hw,Ny155.out];exact HP17.1);clear HP17;replace HO_7:=Aside0.mk (hp_);replace HB:=Aside0.mk ((by rw[hw];exact below_set (HB.out) GB16.out:Below w.heap.size w w18));clear hg hw hp_))
       go_roundg k2
       case measure=>have:=HJ2.out;have:=HK2.out;omega
       case rel=>exact⟨(y155),(wrap64 (x35_2+1)),rs_,H',⟨by have:=HJ2.out;have:=HK2.out;omega⟩,⟨Kd.ru_ HO_7.out⟩,⟨bw_⟩⟩
      .rw[if_neg c12]at H
       have c12b0:=decide_eq_false c12
       clear c12
       replace H:=Option.bind_eq_some_iff.mp H
       obtain⟨t156,A190,H⟩:=H
       try dsimp only at H
       have A19:=Aside0.mk A190
       clear A190
       by_cases c20:0<=(l1.length:Int)
       rotate_left
       .rw[if_neg c20]at H
        cases H
       rw[if_pos c20]at H
       have c20b0:=eq_true c20
       have c20b1:=decide_eq_true c20
       clear c20
       by_cases c21:((l1.length:Int):Int).toNat<=35184372088832
       rotate_left
       .rw[if_neg c21]at H
        cases H
       rw[if_pos c21]at H
       have c21b0:=eq_true c21
       have c21b1:=decide_eq_true c21
       clear c21
       obtain⟨y157,hy157⟩:∃ y_:List Int,y_=(List.replicate ((l1.length:Int):Int).toNat 0):=⟨_,rfl⟩
       replace H:(pfor_PutBlock.l1 k2 l0 l1 t150 t156 ([]:List Int) 0 y157 x7_2 (x7_2.length:Int) 0)=some (r1,r2):=hx_ hy157 H
       have Ny157:=Aside0.mk hy157
       clear hy157
       have H':=Aside0.mk H
       clear H
       obtain⟨Ao22,co22,eo22⟩:=Kd.R_slice HO_7.out
       subst eo22
       go_wp2_with (first|((with_reducible refine gaC_ (f:=47) rfl ?_);refine goesL_ (some 48) rfl rfl Try.func47 (by kernel_rfl) rfl #[.slice Ao22 x7_2.length co22] rfl am_ ?_;(with_reducible refine(pfor_width.calls k2 _ _ x7_2 t156 _ ?side1 ?side2 A19.out).mono ?_);(case side1=>exact Kd.cu_ (Kd.R_reads' HO_7.out).2.2);(case side2=>exact(Kd.R_reads' HO_7.out).2.1);rintro e w23 ⟨rfl,hb⟩;refine⟨_,rfl,?_⟩;replace HO_7:=Aside0.mk (Kd.R_below (Kd.ru_ HO_7.out) hb);replace HB:=Aside0.mk (below_step bw_ hb))|((with_reducible refine gate_dst (N:=51) rfl ?_);(try(refine gate_guard (by rfl) ?_;dsimp only));refine Kd.R_make (Kd.int .u64) _ 48 rfl (N:=51) rfl 52 _ _ rfl (l1.length:Int) rfl rfl Try.underlying52 (.int .u64 0) 8 info48 rfl (by decide) (by omega) 0 (ok:=fun _=>True) (okp:=fun _=>True) rfl (fun _ hk=>hk) trivial od_ (Nat.le_trans (Nat.mul_le_mul_right _ (od_:(l1.length:Int).toNat<=35184372088832)) (by omega)) (Below.refl _ _) (Nat.le_refl _) ?_;intro v158 w24 ho25 hb hg_ hnew_;clear hg_ hnew_;(first|rw[<- Ny157.out]at ho25|(simp only[Int.reduceToNat]at ho25;rw[<- Ny157.out]at ho25));have n0_:=Aside0.mk (Kd.R_elder' (Kd.ru_ HO_7.out) (Kd.R_base ho25) hb);have n1_:=Aside0.mk (Kd.R_lower (Kd.R_new' ho25 (Kd.R_lt (Kd.ru_ HO_7.out))) (pbS_ bw_));have n2_:=Aside0.mk (below_step bw_ hb);clear HO_7;clear HB;have HO_7:=n0_;have HO159:=n1_;have HB:=n2_;clear n0_ n1_ n2_;clear hb ho25))
       go_loopg [11,12,54] k2 (fun kq v11 v12 v54 w'=>∃ (x11_3:List Int) (x12_3:Int) (x13_3:List Int) (x54_3:Int),v12= .int .i64 x12_3∧v54= .int .i64 x54_3∧Aside0 (pfor_PutBlock.l1 kq l0 l1 t150 t156 x11_3 x12_3 x13_3 x7_2 (x7_2.length:Int) x54_3=some (r1,r2))∧Aside0 (kq<=k2)∧Aside0 (Kd.R (Kd.int .u8) 5 w' w.heap.size (fun _=>True) v11 x11_3)∧Aside0 (Kd.R (Kd.int .u64) 48 w' w.heap.size (fun k_=>some k_≠((.slice Ao22 x7_2.length co22):Value).ownBlock) v158 x13_3)∧Aside0 (Kd.R (Kd.int .u64) 48 w' w.heap.size (fun k_=>some k_≠(v158:Value).ownBlock) (.slice Ao22 x7_2.length co22) x7_2)∧Aside0 (Below w.heap.size w w'))
       case atStart=>exact⟨(([]:List Int)),(0),(y157),(0),rs_,rs_,H',⟨Nat.le_refl _⟩,⟨ni_⟩,⟨by(with_reducible repeat(first|apply Kd.rA_|apply Kd.rN_|apply Kd.rD_));exact Kd.R_mono HO159.out (fun _ hk=>hk.2)⟩,⟨by(with_reducible repeat(first|apply Kd.rA_|apply Kd.rN_|apply Kd.rD_));exact Kd.R_mono HO_7.out (fun _ hk=>hk.2)⟩,⟨bw_⟩⟩
       case round=>
        clear H'
        clear c12b0
        clear c20b0 c20b1
        clear c21b0 c21b1
        obtain⟨x11_3,x12_3,x13_3,x54_3,rfl,rfl,HA,HK3,HO_11,HO_13,HO_52,HB⟩:=hrel
        cases gk with
        |zero=>exact absurd HA.out (by simp[pfor_PutBlock.l1])
        |succ k3=>
         have H:=HA.out
         clear HA
         simp only[pfor_PutBlock.l1]at H
         by_cases c26:x54_3 < (x7_2.length:Int)
         rotate_left
         .rw[if_neg c26]at H
          have c26b0:=decide_eq_false c26
          clear c26
          replace H:=Option.bind_eq_some_iff.mp H
          obtain⟨⟨t170,t171⟩,A470,H⟩:=H
          try dsimp only at H
          have A47:=Aside0.mk A470
          clear A470
          by_cases c48:t171=0
          rotate_left
          .rw[if_neg c48]at H
           have c48b0:=beq_eq_false_iff_ne.mpr c48
           have c48b1:=bne_iff_ne.mpr c48
           simp only[Option.some.injEq,Prod.mk.injEq]at H
           obtain⟨rfl,rfl⟩:=H
           obtain⟨Ao71,co71,eo71⟩:=Kd.R_slice HO_13.out
           subst eo71
           go_wp2_with (first|((with_reducible refine gaC_ (f:=49) rfl ?_);refine goesL_ (some 89) rfl rfl Try.func49 (by kernel_rfl) rfl #[.slice Ao71 x13_3.length co71,.int .i64 t156] rfl am_ ?_;(with_reducible refine(bits_Pack.calls k3 _ _ x13_3 t156 t170 t171 _ ?side1 ?side2 A47.out).mono ?_);(case side1=>exact Kd.cu_ (Kd.R_reads' HO_13.out).2.2);(case side2=>exact(Kd.R_reads' HO_13.out).2.1);rintro e w72 ⟨v172,rfl,ho0,hb⟩;refine⟨_,rfl,?_⟩;have n0_:=Aside0.mk (Kd.R_elder' (Kd.ru_ HO_11.out) (Kd.R_base ho0) hb);have n1_:=Aside0.mk (Kd.R_below (Kd.ru_ HO_13.out) hb);have n2_:=Aside0.mk (Kd.R_below (Kd.ru_ HO_52.out) hb);have n3_:=Aside0.mk (Kd.R_lower (Kd.R_new' ho0 (Kd.R_lt (Kd.ru_ HO_11.out))) (pbS_ bw_));have n4_:=Aside0.mk (below_step bw_ hb);clear HO_11;clear HO_13;clear HO_52;clear HB;have HO_11:=n0_;have HO_13:=n1_;have HO_52:=n2_;have HO173:=n3_;have HB:=n4_;clear n0_ n1_ n2_ n3_ n4_))
           go_ret2
           exact⟨_,rf_,ni_,bw_⟩
          rw[if_pos c48]at H
          have c48b0:=beq_iff_eq.mpr c48
          have c48b1:=bne_eq_false_iff_eq.mpr c48
          clear c48
          replace H:=Option.bind_eq_some_iff.mp H
          obtain⟨t174,A490,H⟩:=H
          try dsimp only at H
          have A49:=Aside0.mk A490
          clear A490
          by_cases c50:t174.length < 140737488355328
          rotate_left
          .rw[if_neg c50]at H
           cases H
          rw[if_pos c50]at H
          have LMc50:=Aside0.mk c50
          clear c50
          obtain⟨y177,hy177⟩:∃ y_:List Int,y_=(t174++[((l1.length:Int)) % 256]):=⟨_,rfl⟩
          replace H:((num_Put.f k3 y177 t150).bind fun t180=>((some (([(t156) % 256,(x12_3) % 256]:List Int):List Int)).bind fun y183=>(if t180.length+y183.length < 140737488355328 then((slices_Concat_byte_byte.f k3 (([(t180++y183),t170,x11_3]:List (List Int)))).bind fun t192=>(some (t192,0)))else(none))))=some (r1,r2):=hx_ hy177 H
          have Ny177:=Aside0.mk hy177
          clear hy177
          replace H:=Option.bind_eq_some_iff.mp H
          obtain⟨t180,A510,H⟩:=H
          try dsimp only at H
          have A51:=Aside0.mk A510
          clear A510
          obtain⟨y183,hy183⟩:∃ y_:List Int,y_=(([(t156) % 256,(x12_3) % 256]:List Int)):=⟨_,rfl⟩
          replace H:(if t180.length+y183.length < 140737488355328 then((slices_Concat_byte_byte.f k3 (([(t180++y183),t170,x11_3]:List (List Int)))).bind fun t192=>(some (t192,0)))else(none))=some (r1,r2):=hx_ hy183 H
          have Ny183:=Aside0.mk hy183
          clear hy183
          by_cases c52:t180.length+y183.length < 140737488355328
          rotate_left
          .rw[if_neg c52]at H
           cases H
          rw[if_pos c52]at H
          have LMc52:=Aside0.mk c52
          clear c52
          obtain⟨y186,hy186⟩:∃ y_:List Int,y_=(t180++y183):=⟨_,rfl⟩
          replace H:((slices_Concat_byte_byte.f k3 (([y186,t170,x11_3]:List (List Int)))).bind fun t192=>(some (t192,0)))=some (r1,r2):=hx_ hy186 H
          have Ny186:=Aside0.mk hy186
          clear hy186
          obtain⟨y189,hy189⟩:∃ y_:List (List Int),y_=(([y186,t170,x11_3]:List (List Int))):=⟨_,rfl⟩
          replace H:((slices_Concat_byte_byte.f k3 y189).bind fun t192=>(some (t192,0)))=some (r1,r2):=hx_ hy189 H
          have Ny189:=Aside0.mk hy189
          clear hy189
          replace H:=Option.bind_eq_some_iff.mp H
          obtain⟨t192,A530,H⟩:=H
          try dsimp only at H
          have A53:=Aside0.mk A530
          clear A530
          simp only[Option.some.injEq,Prod.mk.injEq]at H
          obtain⟨rfl,rfl⟩:=H
          obtain⟨Ao54,co54,eo54⟩:=Kd.R_slice HO_13.out
          subst eo54
          go_wp2_with (first|((with_reducible refine gaC_ (f:=49) rfl ?_);refine goesL_ (some 89) rfl rfl Try.func49 (by kernel_rfl) rfl #[.slice Ao54 x13_3.length co54,.int .i64 t156] rfl am_ ?_;(with_reducible refine(bits_Pack.calls k3 _ _ x13_3 t156 t170 t171 _ ?side1 ?side2 A47.out).mono ?_);(case side1=>exact Kd.cu_ (Kd.R_reads' HO_13.out).2.2);(case side2=>exact(Kd.R_reads' HO_13.out).2.1);rintro e w55 ⟨v172,rfl,ho0,hb⟩;refine⟨_,rfl,?_⟩;have n0_:=Aside0.mk (Kd.R_elder' (Kd.ru_ HO_11.out) (Kd.R_base ho0) hb);have n1_:=Aside0.mk (Kd.R_below (Kd.ru_ HO_13.out) hb);have n2_:=Aside0.mk (Kd.R_below (Kd.ru_ HO_52.out) hb);have n3_:=Aside0.mk (Kd.R_lower (Kd.R_new' ho0 (Kd.R_lt (Kd.ru_ HO_11.out))) (pbS_ bw_));have n4_:=Aside0.mk (below_step bw_ hb);clear HO_11;clear HO_13;clear HO_52;clear HB;have HO_11:=n0_;have HO_13:=n1_;have HO_52:=n2_;have HO173:=n3_;have HB:=n4_;clear n0_ n1_ n2_ n3_ n4_)|((with_reducible refine gaC_ (f:=43) rfl ?_);refine goesL_ (some 96) rfl rfl Try.func43 (by kernel_rfl) rfl #[.slice A0 l0.length c0] rfl am_ ?_;(with_reducible refine(slices_Clone_byte_byte.calls _ _ l0 t174 _ ?side1 ?side2 A49.out).mono ?_);(case side1=>exact Kd.cu_ (Kd.C_below HR0.out HB.out));(case side2=>exact HC0.out);rintro e w56 ⟨v175,rfl,ho0,hb⟩;refine⟨_,rfl,?_⟩;have n0_:=Aside0.mk (Kd.R_elder' (Kd.ru_ HO_11.out) (Kd.R_base ho0) hb);have n1_:=Aside0.mk (Kd.R_below (Kd.ru_ HO_13.out) hb);have n2_:=Aside0.mk (Kd.R_below (Kd.ru_ HO_52.out) hb);have n3_:=Aside0.mk (Kd.R_elder' (Kd.ru_ HO173.out) (Kd.R_base ho0) hb);have n4_:=Aside0.mk (Kd.R_lower (Kd.R_new' (Kd.R_new' ho0 (Kd.R_lt (Kd.ru_ HO_11.out))) (Kd.R_lt (Kd.ru_ HO173.out))) (pbS_ bw_));have n5_:=Aside0.mk (below_step bw_ hb);clear HO_11;clear HO_13;clear HO_52;clear HO173;clear HB;have HO_11:=n0_;have HO_13:=n1_;have HO_52:=n2_;have HO173:=n3_;have HO176:=n4_;have HB:=n5_;clear n0_ n1_ n2_ n3_ n4_ n5_)|((with_reducible refine gate_builtin (b:= .append) (xs:= #[.tmp 96,.tmp 100]) rfl ?_);(try(refine gate_guard (by rfl) ?_;dsimp only));at_builtin;refine Kd.R_append (Kd.int .u8) (w0:=w) w.heap.size rfl (.tmp 96) (.tmp 100) 22 5 (.int .u8 0) 1 rfl Try.underlying22 info5 rfl (by decide) (by omega) v175 t174 (((l1.length:Int)) % 256) [.int .u8 (((l1.length:Int)) % 256)] (fun k_=>some k_≠(u11:Value).ownBlock∧some k_≠(v172:Value).ownBlock) (fun _=>False) rfl rfl ?aP (fun _ hk=>hk.elim) ?aF ?aO ?aB ?aS ?aL ?_;(case aP=>exact rfl);(case aB=>exact bw_);(case aF=>exact(fun k_ hk=>⟨Kd.fresh' (Kd.R_lt (Kd.ru_ HO_11.out)) k_ hk,Kd.fresh' (Kd.R_lt (Kd.ru_ HO173.out)) k_ hk⟩));(case aO=>exact(by(with_reducible repeat(first|apply Kd.rA_|apply Kd.rN_|apply Kd.rD_));exact Kd.R_mono HO176.out (fun _ hk=>⟨hk.1.2,hk.2⟩)));(case aS=>exact(pbS_ bw_));(case aL=>have:=LMc50.out;omega);intro v178 w57 ho hb hg hat;rw[<- Ny177.out]at ho;have n0_:=Aside0.mk (Kd.R_after (ok:=(fun k_=>some k_≠(v172:Value).ownBlock)) (by(with_reducible repeat(first|apply Kd.rA_|apply Kd.rN_|apply Kd.rD_));exact Kd.R_mono HO_11.out (fun _ hk=>⟨hk.1.2,hk.2⟩)) hg hat);have n1_:=Aside0.mk (Kd.R_over' (Kd.ru_ HO_13.out) (Kd.R_typed (Kd.ru_ HO176.out)) (by decide) hg);have n2_:=Aside0.mk (Kd.R_over' (Kd.ru_ HO_52.out) (Kd.R_typed (Kd.ru_ HO176.out)) (by decide) hg);have n3_:=Aside0.mk (Kd.R_after (ok:=(fun k_=>some k_≠(u11:Value).ownBlock)) (by(with_reducible repeat(first|apply Kd.rA_|apply Kd.rN_|apply Kd.rD_));exact Kd.R_mono HO173.out (fun _ hk=>⟨hk.1.2,hk.2⟩)) hg hat);have n4_:=Aside0.mk (hb);have n5_:=Aside0.mk (ho);clear HO_11;clear HO_13;clear HO_52;clear HO173;clear HB;clear HO176;have HO_11:=n0_;have HO_13:=n1_;have HO_52:=n2_;have HO173:=n3_;have HB:=n4_;have HO179:=n5_;clear n0_ n1_ n2_ n3_ n4_ n5_;clear ho hb hg hat;obtain⟨Ao58,co58,eo58⟩:=Kd.R_slice HO179.out;subst eo58)|((with_reducible refine gaC_ (f:=24) rfl ?_);refine goesL_ (some 103) rfl rfl Try.func24 (by kernel_rfl) rfl #[.slice Ao58 y177.length co58,.int .u64 t150] rfl am_ ?_;(with_reducible refine(num_Put.calls k3 _ _ y177 t150 t180 _ ?side1 ?side2 A51.out).mono ?_);(case side1=>exact Kd.cu_ (Kd.R_reads' HO179.out).2.2);(case side2=>exact(Kd.R_reads' HO179.out).2.1);rintro e w59 ⟨v181,rfl,ho0,hb⟩;refine⟨_,rfl,?_⟩;have n0_:=Aside0.mk (Kd.R_elder' (Kd.ru_ HO_11.out) (Kd.R_base ho0) hb);have n1_:=Aside0.mk (Kd.R_below (Kd.ru_ HO_13.out) hb);have n2_:=Aside0.mk (Kd.R_below (Kd.ru_ HO_52.out) hb);have n3_:=Aside0.mk (Kd.R_elder' (Kd.ru_ HO173.out) (Kd.R_base ho0) hb);have n4_:=Aside0.mk (Kd.R_elder' (Kd.ru_ HO179.out) (Kd.R_base ho0) hb);have n5_:=Aside0.mk (Kd.R_lower (Kd.R_new' (Kd.R_new' (Kd.R_new' ho0 (Kd.R_lt (Kd.ru_ HO_11.out))) (Kd.R_lt (Kd.ru_ HO173.out))) (Kd.R_lt (Kd.ru_ HO179.out))) (pbS_ bw_));have n6_:=Aside0.mk (below_step bw_ hb);clear HO_11;clear HO_13;clear HO_52;clear HO173;clear HO179;clear HB;have HO_11:=n0_;have HO_13:=n1_;have HO_52:=n2_;have HO173:=n3_;have HO179:=n4_;have HO182:=n5_;have HB:=n6_;clear n0_ n1_ n2_ n3_ n4_ n5_ n6_)|((with_reducible refine gate_dst (N:=109) rfl ?_);(try(refine gate_guard (by rfl) ?_;dsimp only));refine Kd.R_lit (Kd.int .u8) _ 5 ?hg (N:=109) ?hd (xs:=([(t156) % 256,(x12_3) % 256]:List Int)) (inner:=[.int .u8 ((t156) % 256),.int .u8 ((x12_3) % 256)]) (ok:=fun _=>True) (okp:=fun _=>True) ?hr ?hp (fun _ hk=>hk) trivial (Below.refl _ _) (Nat.le_refl _) (by simp) ?_;(case hd=>rfl);(case hg=>rfl);(case hr=>first|(go_simp;done)|(go_simp;rfl));(case hp=>exact(Reps.one (show Kd.M (Kd.int .u8) _ _ _ ((t156) % 256) [.int .u8 ((t156) % 256)] from rfl) (Reps.one (show Kd.M (Kd.int .u8) _ _ _ ((x12_3) % 256) [.int .u8 ((x12_3) % 256)] from rfl) (Reps.none _ _))));intro v184 w60 ho61 hb hg_ hnew_;clear hg_ hnew_;(first|rw[<- Ny183.out]at ho61|(simp only[Int.reduceToNat]at ho61;rw[<- Ny183.out]at ho61));have n0_:=Aside0.mk (Kd.R_elder' (Kd.ru_ HO_11.out) (Kd.R_base ho61) hb);have n1_:=Aside0.mk (Kd.R_below (Kd.ru_ HO_13.out) hb);have n2_:=Aside0.mk (Kd.R_below (Kd.ru_ HO_52.out) hb);have n3_:=Aside0.mk (Kd.R_elder' (Kd.ru_ HO173.out) (Kd.R_base ho61) hb);have n4_:=Aside0.mk (Kd.R_elder' (Kd.ru_ HO179.out) (Kd.R_base ho61) hb);have n5_:=Aside0.mk (Kd.R_elder' (Kd.ru_ HO182.out) (Kd.R_base ho61) hb);have n6_:=Aside0.mk (Kd.R_lower (Kd.R_new' (Kd.R_new' (Kd.R_new' (Kd.R_new' ho61 (Kd.R_lt (Kd.ru_ HO_11.out))) (Kd.R_lt (Kd.ru_ HO173.out))) (Kd.R_lt (Kd.ru_ HO179.out))) (Kd.R_lt (Kd.ru_ HO182.out))) (pbS_ bw_));have n7_:=Aside0.mk (below_step bw_ hb);clear HO_11;clear HO_13;clear HO_52;clear HO173;clear HO179;clear HO182;clear HB;have HO_11:=n0_;have HO_13:=n1_;have HO_52:=n2_;have HO173:=n3_;have HO179:=n4_;have HO182:=n5_;have HO185:=n6_;have HB:=n7_;clear n0_ n1_ n2_ n3_ n4_ n5_ n6_ n7_;clear hb ho61;obtain⟨Ao63,co63,eo63⟩:=Kd.R_slice HO185.out;subst eo63)|((with_reducible refine gate_builtin (b:= .append) (xs:= #[.tmp 104,.tmp 109]) rfl ?_);(try(refine gate_guard (by rfl) ?_;dsimp only));at_builtin;refine Kd.R_append_rows (Kd.int .u8) (w0:=w) w.heap.size rfl (.tmp 104) (.tmp 109) 22 5 (.int .u8 0) 1 rfl Try.underlying22 info5 rfl (by decide) (by omega) v181 t180 y183 _ _ _ (fun k_=>some k_≠(u11:Value).ownBlock∧some k_≠(v172:Value).ownBlock∧some k_≠(.slice Ao58 y177.length co58:Value).ownBlock∧some k_≠(.slice Ao63 y183.length co63:Value).ownBlock) (fun _=>False) rfl rfl ?aO ?aR (fun _ _ h=>h) (fun _ h=>h.elim) ?aF ?aB ?aS ?aL ?_;(case aR=>exact Kd.cu_ (Kd.R_reads' HO185.out).2.2);(case aB=>exact bw_);(case aF=>exact(fun k_ hk=>⟨Kd.fresh' (Kd.R_lt (Kd.ru_ HO_11.out)) k_ hk,Kd.fresh' (Kd.R_lt (Kd.ru_ HO173.out)) k_ hk,Kd.fresh' (Kd.R_lt (Kd.ru_ HO179.out)) k_ hk,Kd.fresh' (Kd.R_lt (Kd.ru_ HO185.out)) k_ hk⟩));(case aO=>exact(by(with_reducible repeat(first|apply Kd.rA_|apply Kd.rN_|apply Kd.rD_));exact Kd.R_mono HO182.out (fun _ hk=>⟨hk.1.1.1.2,⟨hk.1.1.2,⟨hk.1.2,hk.2⟩⟩⟩)));(case aS=>exact(pbS_ bw_));(case aL=>have:=LMc52.out;omega);intro v187 w62 ho hb hg hat;rw[<- Ny186.out]at ho;have n0_:=Aside0.mk (Kd.R_after (ok:=(fun k_=>some k_≠(v172:Value).ownBlock∧some k_≠(.slice Ao58 y177.length co58:Value).ownBlock∧some k_≠(.slice Ao63 y183.length co63:Value).ownBlock)) (by(with_reducible repeat(first|apply Kd.rA_|apply Kd.rN_|apply Kd.rD_));exact Kd.R_mono HO_11.out (fun _ hk=>⟨⟨hk.1.1.1,⟨hk.1.1.2,hk.2⟩⟩,hk.1.2⟩)) hg hat);have n1_:=Aside0.mk (Kd.R_over' (Kd.ru_ HO_13.out) (Kd.R_typed (Kd.ru_ HO182.out)) (by decide) hg);have n2_:=Aside0.mk (Kd.R_over' (Kd.ru_ HO_52.out) (Kd.R_typed (Kd.ru_ HO182.out)) (by decide) hg);have n3_:=Aside0.mk (Kd.R_after (ok:=(fun k_=>some k_≠(u11:Value).ownBlock∧some k_≠(.slice Ao58 y177.length co58:Value).ownBlock∧some k_≠(.slice Ao63 y183.length co63:Value).ownBlock)) (by(with_reducible repeat(first|apply Kd.rA_|apply Kd.rN_|apply Kd.rD_));exact Kd.R_mono HO173.out (fun _ hk=>⟨⟨hk.1.1.1,⟨hk.1.1.2,hk.2⟩⟩,hk.1.2⟩)) hg hat);have n4_:=Aside0.mk (Kd.R_after (ok:=(fun k_=>some k_≠(u11:Value).ownBlock∧some k_≠(v172:Value).ownBlock∧some k_≠(.slice Ao63 y183.length co63:Value).ownBlock)) (by(with_reducible repeat(first|apply Kd.rA_|apply Kd.rN_|apply Kd.rD_));exact Kd.R_mono HO179.out (fun _ hk=>⟨⟨hk.1.1.1,⟨hk.1.1.2,hk.2⟩⟩,hk.1.2⟩)) hg hat);have n5_:=Aside0.mk (Kd.R_after (ok:=(fun k_=>some k_≠(u11:Value).ownBlock∧some k_≠(v172:Value).ownBlock∧some k_≠(.slice Ao58 y177.length co58:Value).ownBlock)) (by(with_reducible repeat(first|apply Kd.rA_|apply Kd.rN_|apply Kd.rD_));exact Kd.R_mono HO185.out (fun _ hk=>⟨⟨hk.1.1.1.2,⟨hk.1.1.2,hk.1.2⟩⟩,hk.2⟩)) hg hat);have n6_:=Aside0.mk (hb);have n7_:=Aside0.mk (ho);clear HO_11;clear HO_13;clear HO_52;clear HO173;clear HO179;clear HO185;clear HB;clear HO182;have HO_11:=n0_;have HO_13:=n1_;have HO_52:=n2_;have HO173:=n3_;have HO179:=n4_;have HO185:=n5_;have HB:=n6_;have HO188:=n7_;clear n0_ n1_ n2_ n3_ n4_ n5_ n6_ n7_;clear ho hb hg hat;obtain⟨Ao64,co64,eo64⟩:=Kd.R_slice HO188.out;subst eo64;obtain⟨Ao65,co65,eo65⟩:=Kd.R_slice HO173.out;subst eo65;obtain⟨Ao66,co66,eo66⟩:=Kd.R_slice HO_11.out;subst eo66)|((with_reducible refine gate_dst (N:=114) rfl ?_);(try(refine gate_guard (by rfl) ?_;dsimp only));refine Kd.N_lit (Kd.slice 5 (Kd.int .u8)) _ 22 ?hg (N':=114) ?hd (xs:=([y186,t170,x11_3]:List (List Int))) (inner:=[.slice Ao64 y186.length co64,.slice Ao65 t170.length co65,.slice Ao66 x11_3.length co66]) (ok:=(fun k_=>some k_≠(.slice Ao54 x13_3.length co54:Value).ownBlock∧some k_≠(.slice Ao22 x7_2.length co22:Value).ownBlock∧some k_≠(.slice Ao58 y177.length co58:Value).ownBlock∧some k_≠(.slice Ao63 y183.length co63:Value).ownBlock)) (okp:=(fun k_=>some k_≠(.slice Ao54 x13_3.length co54:Value).ownBlock∧some k_≠(.slice Ao22 x7_2.length co22:Value).ownBlock∧some k_≠(.slice Ao58 y177.length co58:Value).ownBlock∧some k_≠(.slice Ao63 y183.length co63:Value).ownBlock)) ?hr ?hp (fun _ hk=>hk) ((show ∀ k_,w62.heap.size<=k_->(fun k_=>some k_≠(.slice Ao54 x13_3.length co54:Value).ownBlock∧some k_≠(.slice Ao22 x7_2.length co22:Value).ownBlock∧some k_≠(.slice Ao58 y177.length co58:Value).ownBlock∧some k_≠(.slice Ao63 y183.length co63:Value).ownBlock) k_ from fun k_ hk=>⟨Kd.fresh' (Kd.R_lt (Kd.ru_ HO_13.out)) k_ hk,Kd.fresh' (Kd.R_lt (Kd.ru_ HO_52.out)) k_ hk,Kd.fresh' (Kd.R_lt (Kd.ru_ HO179.out)) k_ hk,Kd.fresh' (Kd.R_lt (Kd.ru_ HO185.out)) k_ hk⟩) _ (Nat.le_refl _)) (Below.refl _ _) (Nat.le_refl _) (by simp) ?_;(case hd=>rfl);(case hg=>rfl);(case hr=>first|(go_simp;done)|(go_simp;rfl));(case hp=>exact(Reps.one (show Kd.FK (Kd.slice 5 (Kd.int .u8)) _ _ y186 [.slice Ao64 y186.length co64] from(Kd.FK_slice_mk (Kd.R_reads' (Kd.R_mono (ok':=(fun k_=>some k_≠(.slice Ao54 x13_3.length co54:Value).ownBlock∧some k_≠(.slice Ao22 x7_2.length co22:Value).ownBlock∧some k_≠(.slice Ao58 y177.length co58:Value).ownBlock∧some k_≠(.slice Ao63 y183.length co63:Value).ownBlock)) (Kd.R_apart' (Kd.R_apart' (HO188.out) (Kd.R_typed HO_13.out) (by decide)) (Kd.R_typed HO_52.out) (by decide)) (fun k_ hk=>⟨hk.1.2,⟨hk.2,⟨hk.1.1.2.2.1,hk.1.1.2.2.2⟩⟩⟩))).2.1 (Kd.R_F (Kd.R_mono (ok':=(fun k_=>some k_≠(.slice Ao54 x13_3.length co54:Value).ownBlock∧some k_≠(.slice Ao22 x7_2.length co22:Value).ownBlock∧some k_≠(.slice Ao58 y177.length co58:Value).ownBlock∧some k_≠(.slice Ao63 y183.length co63:Value).ownBlock)) (Kd.R_apart' (Kd.R_apart' (HO188.out) (Kd.R_typed HO_13.out) (by decide)) (Kd.R_typed HO_52.out) (by decide)) (fun k_ hk=>⟨hk.1.2,⟨hk.2,⟨hk.1.1.2.2.1,hk.1.1.2.2.2⟩⟩⟩))))) (Reps.one (show Kd.FK (Kd.slice 5 (Kd.int .u8)) _ _ t170 [.slice Ao65 t170.length co65] from(Kd.FK_slice_mk (Kd.R_reads' (Kd.R_mono (ok':=(fun k_=>some k_≠(.slice Ao54 x13_3.length co54:Value).ownBlock∧some k_≠(.slice Ao22 x7_2.length co22:Value).ownBlock∧some k_≠(.slice Ao58 y177.length co58:Value).ownBlock∧some k_≠(.slice Ao63 y183.length co63:Value).ownBlock)) (Kd.R_apart' (Kd.R_apart' (HO173.out) (Kd.R_typed HO_13.out) (by decide)) (Kd.R_typed HO_52.out) (by decide)) (fun k_ hk=>⟨hk.1.2,⟨hk.2,⟨hk.1.1.1.2.1,hk.1.1.1.2.2⟩⟩⟩))).2.1 (Kd.R_F (Kd.R_mono (ok':=(fun k_=>some k_≠(.slice Ao54 x13_3.length co54:Value).ownBlock∧some k_≠(.slice Ao22 x7_2.length co22:Value).ownBlock∧some k_≠(.slice Ao58 y177.length co58:Value).ownBlock∧some k_≠(.slice Ao63 y183.length co63:Value).ownBlock)) (Kd.R_apart' (Kd.R_apart' (HO173.out) (Kd.R_typed HO_13.out) (by decide)) (Kd.R_typed HO_52.out) (by decide)) (fun k_ hk=>⟨hk.1.2,⟨hk.2,⟨hk.1.1.1.2.1,hk.1.1.1.2.2⟩⟩⟩))))) (Reps.one (show Kd.FK (Kd.slice 5 (Kd.int .u8)) _ _ x11_3 [.slice Ao66 x11_3.length co66] from(Kd.FK_slice_mk (Kd.R_reads' (Kd.R_mono (ok':=(fun k_=>some k_≠(.slice Ao54 x13_3.length co54:Value).ownBlock∧some k_≠(.slice Ao22 x7_2.length co22:Value).ownBlock∧some k_≠(.slice Ao58 y177.length co58:Value).ownBlock∧some k_≠(.slice Ao63 y183.length co63:Value).ownBlock)) (Kd.R_apart' (Kd.R_apart' (HO_11.out) (Kd.R_typed HO_13.out) (by decide)) (Kd.R_typed HO_52.out) (by decide)) (fun k_ hk=>⟨hk.1.2,⟨hk.2,⟨hk.1.1.1.2.1,hk.1.1.1.2.2⟩⟩⟩))).2.1 (Kd.R_F (Kd.R_mono (ok':=(fun k_=>some k_≠(.slice Ao54 x13_3.length co54:Value).ownBlock∧some k_≠(.slice Ao22 x7_2.length co22:Value).ownBlock∧some k_≠(.slice Ao58 y177.length co58:Value).ownBlock∧some k_≠(.slice Ao63 y183.length co63:Value).ownBlock)) (Kd.R_apart' (Kd.R_apart' (HO_11.out) (Kd.R_typed HO_13.out) (by decide)) (Kd.R_typed HO_52.out) (by decide)) (fun k_ hk=>⟨hk.1.2,⟨hk.2,⟨hk.1.1.1.2.1,hk.1.1.1.2.2⟩⟩⟩))))) (Reps.none _ _)))));intro v190 w67 ho68 hb hg_ hnew_;clear hg_ hnew_;(first|rw[<- Ny189.out]at ho68|(simp only[Int.reduceToNat]at ho68;rw[<- Ny189.out]at ho68));have n0_:=Aside0.mk (Kd.R_below (Kd.ru_ HO_13.out) hb);have n1_:=Aside0.mk (Kd.R_below (Kd.ru_ HO_52.out) hb);have n2_:=Aside0.mk (Kd.R_below (Kd.ru_ HO179.out) hb);have n3_:=Aside0.mk (Kd.R_below (Kd.ru_ HO185.out) hb);have n4_:=Aside0.mk (Kd.N_lower ho68 (pbS_ bw_));have n5_:=Aside0.mk (below_step bw_ hb);clear HO_13;clear HO_52;clear HO179;clear HO185;clear HB;clear HO173;clear HO188;clear HO_11;have HO_13:=n0_;have HO_52:=n1_;have HO179:=n2_;have HO185:=n3_;have HO191:=n4_;have HB:=n5_;clear n0_ n1_ n2_ n3_ n4_ n5_;clear hb ho68;obtain⟨Ao69,co69,eo69⟩:=Kd.N_slice HO191.out;subst eo69)|((with_reducible refine gaC_ (f:=50) rfl ?_);refine goesL_ (some 115) rfl rfl Try.func50 (by kernel_rfl) rfl #[.slice Ao69 y189.length co69] rfl am_ ?_;(with_reducible refine(slices_Concat_byte_byte.calls k3 _ _ y189 t192 _ ?side1 ?side2 A53.out).mono ?_);(case side1=>exact Kd.cu_ (Kd.N_reads' HO191.out).2.2);(case side2=>exact(Kd.N_reads' HO191.out).2.1);rintro e w70 ⟨v193,rfl,ho0,hb⟩;refine⟨_,rfl,?_⟩;have n0_:=Aside0.mk (Kd.R_below (Kd.ru_ HO_13.out) hb);have n1_:=Aside0.mk (Kd.R_below (Kd.ru_ HO_52.out) hb);have n2_:=Aside0.mk (Kd.R_elder' (Kd.ru_ HO179.out) (Kd.R_base ho0) hb);have n3_:=Aside0.mk (Kd.R_elder' (Kd.ru_ HO185.out) (Kd.R_base ho0) hb);have n4_:=Aside0.mk (Kd.N_elder' (Kd.nu_ HO191.out) (Kd.R_base ho0) hb);have n5_:=Aside0.mk (Kd.R_lower (Kd.R_new' (Kd.R_new' ho0 (Kd.R_lt (Kd.ru_ HO179.out))) (Kd.R_lt (Kd.ru_ HO185.out))) (pbS_ bw_));have n6_:=Aside0.mk (below_step bw_ hb);clear HO_13;clear HO_52;clear HO179;clear HO185;clear HO191;clear HB;have HO_13:=n0_;have HO_52:=n1_;have HO179:=n2_;have HO185:=n3_;have HO191:=n4_;have HO194:=n5_;have HB:=n6_;clear n0_ n1_ n2_ n3_ n4_ n5_ n6_))
          go_ret2
          exact⟨_,rf_,by(with_reducible repeat(first|apply Kd.rA_|apply Kd.rN_|apply Kd.rD_));exact Kd.R_mono HO194.out (fun _ hk=>trivial),bw_⟩
         rw[if_pos c26]at H
         have c26b0:=decide_eq_true c26
         clear c26
         by_cases c27:0<=x54_3
         rotate_left
         .rw[if_neg c27]at H
          cases H
         rw[if_pos c27]at H
         have c27b0:=decide_eq_true c27
         clear c27
         by_cases c28:x54_3 < (x7_2.length:Int)
         rotate_left
         .rw[if_neg c28]at H
          cases H
         rw[if_pos c28]at H
         have c28b0:=decide_eq_true c28
         clear c28
         replace H:=Option.bind_eq_some_iff.mp H
         obtain⟨t161,A290,H⟩:=H
         try dsimp only at H
         have A29:=Aside0.mk A290
         clear A290
         by_cases c30:x54_3 < (x13_3.length:Int)
         rotate_left
         .rw[if_neg c30]at H
          cases H
         rw[if_pos c30]at H
         have c30b0:=decide_eq_true c30
         clear c30
         obtain⟨y162,hy162⟩:∃ y_:List Int,y_=(x13_3.set (x54_3:Int).toNat (rd x7_2 x54_3)):=⟨_,rfl⟩
         replace H:(if t161 > 0 then(if 0<=t156 then(if x11_3.length < 140737488355328 then((num_Put.f k3 (x11_3++[(x54_3) % 256]) t161).bind fun t167=>(pfor_PutBlock.l1 k3 l0 l1 t150 t156 t167 (wrap64 (x12_3+1)) (y162.set (x54_3:Int).toNat (Go.bits .andNot .u64 (rd x7_2 x54_3) (shl .u64 t161 t156))) x7_2 (x7_2.length:Int) (wrap64 (x54_3+1))))else(none))else(none))else(pfor_PutBlock.l1 k3 l0 l1 t150 t156 x11_3 x12_3 y162 x7_2 (x7_2.length:Int) (wrap64 (x54_3+1))))=some (r1,r2):=hx_ hy162 H
         have Ny162:=Aside0.mk hy162
         clear hy162
         by_cases c32:t161 > 0
         rotate_left
         .rw[if_neg c32]at H
          have c32b0:=decide_eq_false c32
          clear c32
          have H':=Aside0.mk H
          clear H
          have p160:0<=(x54_3:Int):=od_
          have q160:x54_3 < (x7_2.length:Int):=od_
          obtain⟨ad160,e160,hx160_0⟩:=Kd.at_int (Kd.R_reads' HO_52.out).2.2 x54_3 p160 q160
          cases e160
          replace p160:=eq_true p160
          replace q160:=eq_true q160
          go_wp2_with (first|((with_reducible refine gaC_ (f:=48) rfl ?_);refine goesL_ (some 61) rfl rfl Try.func48 (by kernel_rfl) rfl #[.int .u64 (rd x7_2 x54_3),.int .i64 t156] rfl am_ ?_;(with_reducible refine(pfor_high.calls (rd x7_2 x54_3) t156 t161 _ A29.out).mono ?_);rintro e w' ⟨rfl,⟨nd,rfl⟩⟩;refine⟨_,rfl,?_⟩;(try(rw[drewN_self wr];generalize hq_:World.drewN wr _=wr;have n0_:Aside0 (Kd.R (Kd.int .u8) 5 wr w.heap.size (fun _=>True) u11 x11_3):=⟨by rw[<- hq_];exact(Kd.ru_ HO_11.out)⟩;have n1_:Aside0 (Kd.R (Kd.int .u64) 48 wr w.heap.size (fun k_=>some k_≠(.slice (some ad160) x7_2.length co22:Value).ownBlock) v158 x13_3):=⟨by rw[<- hq_];exact(Kd.ru_ HO_13.out)⟩;have n2_:Aside0 (Kd.R (Kd.int .u64) 48 wr w.heap.size (fun k_=>some k_≠(v158:Value).ownBlock) (.slice (some ad160) x7_2.length co22) x7_2):=⟨by rw[<- hq_];exact(Kd.ru_ HO_52.out)⟩;have n3_:Aside0 (Below w.heap.size w wr):=⟨by rw[<- hq_];exact bw_⟩;clear HO_11 HO_13 HO_52 HB hq_;have HO_11:=n0_;have HO_13:=n1_;have HO_52:=n2_;have HB:=n3_;clear n0_ n1_ n2_ n3_));have p31:0<=(x54_3:Int):=od_;have q31:(x54_3:Int) < ((x13_3.length:Int):Int):=od_;obtain⟨go31,co31,eo31,gb31,gl31,cl31,HG31⟩:=Kd.R_form HO_13.out (by omega);(first|cases eo31|(injection eo31 with ea_ en_ ec_;(first|subst ea_|(injection ea_ with ea_;subst ea_));subst ec_;clear en_));have GB31:=Aside0.mk gb31;have GG31:=Aside0.mk HG31;clear gb31 gl31 HG31;obtain⟨hx31_0,hf31_0⟩:=Kd.R_celln 0 HO_13.out (x54_3:Int) p31 q31;replace p31:=eq_true p31;replace q31:=eq_true q31;obtain⟨hy45_,hz45_⟩:=Kd.R_celln 0 HO_13.out (x54_3:Int) od_ od_;have HP45:=Kd.R_putg HO_13.out (x54_3:Int) (rd x7_2 x54_3))|((with_reducible refine gate_store (t:=48) (p:=65) rfl ?_);refine store_event (t:=48) (p:=65) (v:= ?vo_w46) (w1:=(wr.setCell ⟨go31,(x54_3:Int).toNat,none⟩ (.int .u64 (rd x7_2 x54_3)))) ?hg ?ho ?hn ?hr ?_;(case ho=>rfl);(case hg=>rfl);(case hn=>rfl);(case hr=>first|(go_simp;done)|(go_simp;rfl));intro w46 hw;have hg:wr.grownBy w46 (some go31):=(by rw[hw];exact HP45.2);have hp_:Kd.R (Kd.int .u64) 48 w46 w.heap.size (fun k_=>some k_≠(.slice (some ad160) x7_2.length co22:Value).ownBlock) (.slice (some ⟨go31,0,none⟩) x13_3.length co31) y162:=(by rw[hw,Ny162.out];exact HP45.1);clear HP45;replace HO_11:=Aside0.mk (Kd.R_over' (v:=(.slice (some ⟨go31,0,none⟩) x13_3.length co31)) (Kd.ru_ HO_11.out) (Kd.R_typed HO_13.out) (by decide) hg);replace HO_13:=Aside0.mk (hp_);replace HO_52:=Aside0.mk (Kd.R_after (v:=(.slice (some ⟨go31,0,none⟩) x13_3.length co31)) (v1:=(.slice (some ⟨go31,0,none⟩) x13_3.length co31)) (ok:=(fun _=>True)) (by(with_reducible repeat(first|apply Kd.rA_|apply Kd.rN_|apply Kd.rD_));exact Kd.R_mono HO_52.out (fun _ hk=>⟨trivial,hk⟩)) hg (.inl rfl));replace HB:=Aside0.mk ((by rw[hw];exact below_set (HB.out) GB31.out:Below w.heap.size w w46));clear hg hw hp_))
          go_roundg k3
          case measure=>have:=HJ2.out;have:=HK2.out;have:=HK3.out;omega
          case rel=>exact⟨(x11_3),(x12_3),(y162),(wrap64 (x54_3+1)),rs_,rs_,H',⟨by have:=HJ2.out;have:=HK2.out;have:=HK3.out;omega⟩,⟨Kd.ru_ HO_11.out⟩,⟨Kd.ru_ HO_13.out⟩,⟨by(with_reducible repeat(first|apply Kd.rA_|apply Kd.rN_|apply Kd.rD_));exact Kd.R_mono HO_52.out (fun _ hk=>hk.2)⟩,⟨bw_⟩⟩
         rw[if_pos c32]at H
         have c32b0:=decide_eq_true c32
         clear c32
         by_cases c33:0<=t156
         rotate_left
         .rw[if_neg c33]at H
          cases H
         rw[if_pos c33]at H
         have c33b0:=eq_true c33
         have c33b1:=decide_eq_true c33
         clear c33
         obtain⟨ji34,hji34⟩:∃ j_:Int,(shl .u64 t161 t156)=j_:=⟨_,rfl⟩
         replace H:(if x11_3.length < 140737488355328 then((num_Put.f k3 (x11_3++[(x54_3) % 256]) t161).bind fun t167=>(pfor_PutBlock.l1 k3 l0 l1 t150 t156 t167 (wrap64 (x12_3+1)) (y162.set (x54_3:Int).toNat (Go.bits .andNot .u64 (rd x7_2 x54_3) (ji34))) x7_2 (x7_2.length:Int) (wrap64 (x54_3+1))))else(none))=some (r1,r2):=hj_ hji34 H
         have hji34_:(IntKind.u64.wrap (t161*2 ^ min t156.toNat 64))=ji34:=hji34
         have hji34z:t156<=64->(IntKind.u64.wrap (t161*2 ^ t156.toNat))=ji34:=shl_small hji34
         obtain⟨y163,hy163⟩:∃ y_:List Int,y_=(y162.set (x54_3:Int).toNat (Go.bits .andNot .u64 (rd x7_2 x54_3) (ji34))):=⟨_,rfl⟩
         replace H:(if x11_3.length < 140737488355328 then((num_Put.f k3 (x11_3++[(x54_3) % 256]) t161).bind fun t167=>(pfor_PutBlock.l1 k3 l0 l1 t150 t156 t167 (wrap64 (x12_3+1)) y163 x7_2 (x7_2.length:Int) (wrap64 (x54_3+1))))else(none))=some (r1,r2):=hx_ hy163 H
         have Ny163:=Aside0.mk hy163
         clear hy163
         by_cases c36:x11_3.length < 140737488355328
         rotate_left
         .rw[if_neg c36]at H
          cases H
         rw[if_pos c36]at H
         have LMc36:=Aside0.mk c36
         clear c36
         obtain⟨y164,hy164⟩:∃ y_:List Int,y_=(x11_3++[(x54_3) % 256]):=⟨_,rfl⟩
         replace H:((num_Put.f k3 y164 t161).bind fun t167=>(pfor_PutBlock.l1 k3 l0 l1 t150 t156 t167 (wrap64 (x12_3+1)) y163 x7_2 (x7_2.length:Int) (wrap64 (x54_3+1))))=some (r1,r2):=hx_ hy164 H
         have Ny164:=Aside0.mk hy164
         clear hy164
         replace H:=Option.bind_eq_some_iff.mp H
         obtain⟨t167,A370,H⟩:=H
         try dsimp only at H
         have A37:=Aside0.mk A370
         clear A370
         have H':=Aside0.mk H
         clear H
         have p160:0<=(x54_3:Int):=od_
         have q160:x54_3 < (x7_2.length:Int):=od_
         obtain⟨ad160,e160,hx160_0⟩:=Kd.at_int (Kd.R_reads' HO_52.out).2.2 x54_3 p160 q160
         cases e160
         replace p160:=eq_true p160
         replace q160:=eq_true q160
         go_wp2_with (first|((with_reducible refine gaC_ (f:=48) rfl ?_);refine goesL_ (some 61) rfl rfl Try.func48 (by kernel_rfl) rfl #[.int .u64 (rd x7_2 x54_3),.int .i64 t156] rfl am_ ?_;(with_reducible refine(pfor_high.calls (rd x7_2 x54_3) t156 t161 _ A29.out).mono ?_);rintro e w' ⟨rfl,⟨nd,rfl⟩⟩;refine⟨_,rfl,?_⟩;(try(rw[drewN_self wr];generalize hq_:World.drewN wr _=wr;have n0_:Aside0 (Kd.R (Kd.int .u8) 5 wr w.heap.size (fun _=>True) u11 x11_3):=⟨by rw[<- hq_];exact(Kd.ru_ HO_11.out)⟩;have n1_:Aside0 (Kd.R (Kd.int .u64) 48 wr w.heap.size (fun k_=>some k_≠(.slice (some ad160) x7_2.length co22:Value).ownBlock) v158 x13_3):=⟨by rw[<- hq_];exact(Kd.ru_ HO_13.out)⟩;have n2_:Aside0 (Kd.R (Kd.int .u64) 48 wr w.heap.size (fun k_=>some k_≠(v158:Value).ownBlock) (.slice (some ad160) x7_2.length co22) x7_2):=⟨by rw[<- hq_];exact(Kd.ru_ HO_52.out)⟩;have n3_:Aside0 (Below w.heap.size w wr):=⟨by rw[<- hq_];exact bw_⟩;clear HO_11 HO_13 HO_52 HB hq_;have HO_11:=n0_;have HO_13:=n1_;have HO_52:=n2_;have HB:=n3_;clear n0_ n1_ n2_ n3_));have p31:0<=(x54_3:Int):=od_;have q31:(x54_3:Int) < ((x13_3.length:Int):Int):=od_;obtain⟨go31,co31,eo31,gb31,gl31,cl31,HG31⟩:=Kd.R_form HO_13.out (by omega);(first|cases eo31|(injection eo31 with ea_ en_ ec_;(first|subst ea_|(injection ea_ with ea_;subst ea_));subst ec_;clear en_));have GB31:=Aside0.mk gb31;have GG31:=Aside0.mk HG31;clear gb31 gl31 HG31;obtain⟨hx31_0,hf31_0⟩:=Kd.R_celln 0 HO_13.out (x54_3:Int) p31 q31;replace p31:=eq_true p31;replace q31:=eq_true q31;obtain⟨hy38_,hz38_⟩:=Kd.R_celln 0 HO_13.out (x54_3:Int) od_ od_;have HP38:=Kd.R_putg HO_13.out (x54_3:Int) (rd x7_2 x54_3))|((with_reducible refine gate_store (t:=48) (p:=65) rfl ?_);refine store_event (t:=48) (p:=65) (v:= ?vo_w39) (w1:=(wr.setCell ⟨go31,(x54_3:Int).toNat,none⟩ (.int .u64 (rd x7_2 x54_3)))) ?hg ?ho ?hn ?hr ?_;(case ho=>rfl);(case hg=>rfl);(case hn=>rfl);(case hr=>first|(go_simp;done)|(go_simp;rfl));intro w39 hw;have hg:wr.grownBy w39 (some go31):=(by rw[hw];exact HP38.2);have hp_:Kd.R (Kd.int .u64) 48 w39 w.heap.size (fun k_=>some k_≠(.slice (some ad160) x7_2.length co22:Value).ownBlock) (.slice (some ⟨go31,0,none⟩) x13_3.length co31) y162:=(by rw[hw,Ny162.out];exact HP38.1);clear HP38;replace HO_11:=Aside0.mk (Kd.R_over' (v:=(.slice (some ⟨go31,0,none⟩) x13_3.length co31)) (Kd.ru_ HO_11.out) (Kd.R_typed HO_13.out) (by decide) hg);replace HO_13:=Aside0.mk (hp_);replace HO_52:=Aside0.mk (Kd.R_after (v:=(.slice (some ⟨go31,0,none⟩) x13_3.length co31)) (v1:=(.slice (some ⟨go31,0,none⟩) x13_3.length co31)) (ok:=(fun _=>True)) (by(with_reducible repeat(first|apply Kd.rA_|apply Kd.rN_|apply Kd.rD_));exact Kd.R_mono HO_52.out (fun _ hk=>⟨trivial,hk⟩)) hg (.inl rfl));replace HB:=Aside0.mk ((by rw[hw];exact below_set (HB.out) GB31.out:Below w.heap.size w w39));clear hg hw hp_;have p35:0<=(x54_3:Int):=od_;have q35:(x54_3:Int) < ((x13_3.length:Int):Int):=od_;obtain⟨hx35_0,hf35_0⟩:=Kd.R_celln 0 HO_13.out (x54_3:Int) p35 q35;replace p35:=eq_true p35;replace q35:=eq_true q35;obtain⟨hy40_,hz40_⟩:=Kd.R_celln 0 HO_13.out (x54_3:Int) od_ od_;have HP40:=Kd.R_putg HO_13.out (x54_3:Int) (Go.bits .andNot .u64 (rd x7_2 x54_3) (ji34)))|((with_reducible refine gate_store (t:=48) (p:=75) rfl ?_);refine store_event (t:=48) (p:=75) (v:= ?vo_w41) (w1:=(w39.setCell ⟨go31,(x54_3:Int).toNat,none⟩ (.int .u64 (Go.bits .andNot .u64 (rd x7_2 x54_3) (ji34))))) ?hg ?ho ?hn ?hr ?_;(case ho=>rfl);(case hg=>rfl);(case hn=>rfl);(case hr=>first|(go_simp;done)|(go_simp;rfl));intro w41 hw;have hg:w39.grownBy w41 (some go31):=(by rw[hw];exact HP40.2);have hp_:Kd.R (Kd.int .u64) 48 w41 w.heap.size (fun k_=>some k_≠(.slice (some ad160) x7_2.length co22:Value).ownBlock) (.slice (some ⟨go31,0,none⟩) x13_3.length co31) y163:=(by rw[hw,Ny163.out];exact HP40.1);clear HP40;replace HO_11:=Aside0.mk (Kd.R_over' (v:=(.slice (some ⟨go31,0,none⟩) x13_3.length co31)) (Kd.ru_ HO_11.out) (Kd.R_typed HO_13.out) (by decide) hg);replace HO_13:=Aside0.mk (hp_);replace HO_52:=Aside0.mk (Kd.R_after (v:=(.slice (some ⟨go31,0,none⟩) x13_3.length co31)) (v1:=(.slice (some ⟨go31,0,none⟩) x13_3.length co31)) (ok:=(fun _=>True)) (Kd.ru_ HO_52.out) hg (.inl rfl));replace HB:=Aside0.mk ((by rw[hw];exact below_set (HB.out) GB31.out:Below w.heap.size w w41));clear hg hw hp_)|((with_reducible refine gate_builtin (b:= .append) (xs:= #[.tmp 76,.tmp 79]) rfl ?_);(try(refine gate_guard (by rfl) ?_;dsimp only));at_builtin;refine Kd.R_append (Kd.int .u8) (w0:=w) w.heap.size rfl (.tmp 76) (.tmp 79) 22 5 (.int .u8 0) 1 rfl Try.underlying22 info5 rfl (by decide) (by omega) u11 x11_3 ((x54_3) % 256) [.int .u8 ((x54_3) % 256)] (fun _=>True) (fun _=>False) rfl rfl ?aP (fun _ hk=>hk.elim) ?aF ?aO ?aB ?aS ?aL ?_;(case aP=>exact rfl);(case aB=>exact bw_);(case aF=>exact(fun _ _=>trivial));(case aO=>exact(Kd.ru_ HO_11.out));(case aS=>exact(pbS_ bw_));(case aL=>have:=LMc36.out;omega);intro v165 w42 ho hb hg hat;rw[<- Ny164.out]at ho;have n0_:=Aside0.mk (Kd.R_over' (Kd.ru_ HO_13.out) (Kd.R_typed (Kd.ru_ HO_11.out)) (by decide) hg);have n1_:=Aside0.mk (Kd.R_over' (Kd.ru_ HO_52.out) (Kd.R_typed (Kd.ru_ HO_11.out)) (by decide) hg);have n2_:=Aside0.mk (hb);have n3_:=Aside0.mk (ho);clear HO_13;clear HO_52;clear HB;clear HO_11;have HO_13:=n0_;have HO_52:=n1_;have HB:=n2_;have HO166:=n3_;clear n0_ n1_ n2_ n3_;clear ho hb hg hat;obtain⟨Ao43,co43,eo43⟩:=Kd.R_slice HO166.out;subst eo43)|((with_reducible refine gaC_ (f:=24) rfl ?_);refine goesL_ (some 82) rfl rfl Try.func24 (by kernel_rfl) rfl #[.slice Ao43 y164.length co43,.int .u64 t161] rfl am_ ?_;(with_reducible refine(num_Put.calls k3 _ _ y164 t161 t167 _ ?side1 ?side2 A37.out).mono ?_);(case side1=>exact Kd.cu_ (Kd.R_reads' HO166.out).2.2);(case side2=>exact(Kd.R_reads' HO166.out).2.1);rintro e w44 ⟨v168,rfl,ho0,hb⟩;refine⟨_,rfl,?_⟩;have n0_:=Aside0.mk (Kd.R_below (Kd.ru_ HO_13.out) hb);have n1_:=Aside0.mk (Kd.R_below (Kd.ru_ HO_52.out) hb);have n2_:=Aside0.mk (Kd.R_elder' (Kd.ru_ HO166.out) (Kd.R_base ho0) hb);have n3_:=Aside0.mk (Kd.R_lower (Kd.R_new' ho0 (Kd.R_lt (Kd.ru_ HO166.out))) (pbS_ bw_));have n4_:=Aside0.mk (below_step bw_ hb);clear HO_13;clear HO_52;clear HO166;clear HB;have HO_13:=n0_;have HO_52:=n1_;have HO166:=n2_;have HO169:=n3_;have HB:=n4_;clear n0_ n1_ n2_ n3_ n4_))
         subst hji34
         go_roundg k3
         case measure=>have:=HJ2.out;have:=HK2.out;have:=HK3.out;omega
         case rel=>exact⟨(t167),(wrap64 (x12_3+1)),(y163),(wrap64 (x54_3+1)),rs_,rs_,H',⟨by have:=HJ2.out;have:=HK2.out;have:=HK3.out;omega⟩,⟨by(with_reducible repeat(first|apply Kd.rA_|apply Kd.rN_|apply Kd.rD_));exact Kd.R_mono HO169.out (fun _ hk=>trivial)⟩,⟨Kd.ru_ HO_13.out⟩,⟨by(with_reducible repeat(first|apply Kd.rA_|apply Kd.rN_|apply Kd.rD_));exact Kd.R_mono HO_52.out (fun _ hk=>hk.2)⟩,⟨bw_⟩⟩
def num_PutRow.f (k:Nat) (l0:List Int) (l1:List Int):Option (List Int):=(num_Put.f k l0 (IntKind.u64.wrap ((l1.length:Int)))).bind fun t195=>(if t195.length+l1.length < 140737488355328 then(some (t195++l1))else(none))
theorem num_PutRow.mono:∀ a0 a1 k,LeO (num_PutRow.f k a0 a1) (num_PutRow.f (k+1) a0 a1):=by
 intro a0 a1 k
 unfold num_PutRow.f
 repeat' first
   |(with_reducible exact num_Put.mono _ _ _)
   |(with_reducible exact LeO.refl _)
   |(with_reducible exact LeO.none _)
   |(with_reducible refine LeO.ite ?_ ?_)
   |(with_reducible refine LeO.bind ?_ (fun _=>?_))
set_option maxHeartbeats 8000000 in
set_option maxRecDepth 100000 in
theorem num_PutRow.calls (k:Nat) (A0:Option Addr) (c0:Nat) (l0:List Int) (A1:Option Addr) (c1:Nat) (l1:List Int) (r:List Int) (w:World) (hr0:Kd.C (Kd.int .u8) w A0 l0.length l0) (hc0:l0.length<=c0) (hr1:Kd.C (Kd.int .u8) w A1 l1.length l1) (hc1:l1.length<=c1) (h:num_PutRow.f k l0 l1=some r):
  Calls Try.prog 27 #[.slice A0 l0.length c0,.slice A1 l1.length c1] w fun e w'=>∃ v0_:Value,e= .returned (v0_)∧Kd.R (Kd.int .u8) 5 w' w.heap.size (fun _=>True) v0_ r∧Below w.heap.size w w':=by
 have HR0:=Aside0.mk hr0
 have HC0:=Aside0.mk hc0
 clear hr0 hc0
 have HR1:=Aside0.mk hr1
 have HC1:=Aside0.mk hc1
 clear hr1 hc1
 have HB:=Aside0.mk (Below.refl w.heap.size w)
 have H:((num_Put.f k l0 (IntKind.u64.wrap ((l1.length:Int)))).bind fun t195=>(if t195.length+l1.length < 140737488355328 then(some (t195++l1))else(none)))=some r:=h
 clear h
 replace H:=Option.bind_eq_some_iff.mp H
 obtain⟨t195,A30,H⟩:=H
 try dsimp only at H
 have A3:=Aside0.mk A30
 clear A30
 by_cases c4:t195.length+l1.length < 140737488355328
 rotate_left
 .rw[if_neg c4]at H
  cases H
 rw[if_pos c4]at H
 have LMc4:=Aside0.mk c4
 clear c4
 obtain⟨y198,hy198⟩:∃ y_:List Int,y_=(t195++l1):=⟨_,rfl⟩
 replace H:(some y198)=some r:=hx_ hy198 H
 have Ny198:=Aside0.mk hy198
 clear hy198
 obtain rfl:=Option.some.inj H
 go_enter Try.func27,Try.ntmps27
 go_wp2_with (first|((with_reducible refine gaC_ (f:=24) rfl ?_);refine goesL_ (some 9) rfl rfl Try.func24 (by kernel_rfl) rfl #[.slice A0 l0.length c0,.int .u64 (IntKind.u64.wrap ((l1.length:Int)))] rfl am_ ?_;(with_reducible refine(num_Put.calls k _ _ l0 (IntKind.u64.wrap ((l1.length:Int))) t195 _ ?side1 ?side2 A3.out).mono ?_);(case side1=>exact Kd.cu_ HR0.out);(case side2=>exact HC0.out);rintro e w5 ⟨v196,rfl,ho0,hb⟩;refine⟨_,rfl,?_⟩;have HO197:=Aside0.mk (Kd.R_lower ho0 (pbS_ bw_));replace HB:=Aside0.mk (below_step bw_ hb))|((with_reducible refine gate_builtin (b:= .append) (xs:= #[.tmp 9,.tmp 10]) rfl ?_);at_builtin;refine Kd.R_append_rows (Kd.int .u8) (w0:=w) w.heap.size rfl (.tmp 9) (.tmp 10) 22 5 (.int .u8 0) 1 rfl Try.underlying22 info5 rfl (by decide) (by omega) v196 t195 l1 _ _ _ (fun _=>True) (fun _=>False) rfl rfl ?aO ?aR (fun _ _ h=>h) (fun _ h=>h.elim) ?aF ?aB ?aS ?aL ?_;(case aR=>exact Kd.cu_ (Kd.C_below HR1.out HB.out));(case aB=>exact bw_);(case aF=>exact(fun _ _=>trivial));(case aO=>exact(Kd.ru_ HO197.out));(case aS=>exact(pbS_ bw_));(case aL=>have:=LMc4.out;omega);intro v199 w6 ho hb hg hat;rw[<- Ny198.out]at ho;have n0_:=Aside0.mk (hb);have n1_:=Aside0.mk (ho);clear HB;clear HO197;have HB:=n0_;have HO200:=n1_;clear n0_ n1_;clear ho hb hg hat))
 go_ret
 exact⟨_,rf_,by(with_reducible repeat(first|apply Kd.rA_|apply Kd.rN_|apply Kd.rD_));exact HO200.out,bw_⟩
end Go.Proofs.Ytooeclfeallkkaa.P
end
section
namespace Go.Proofs.Ytooeclfeallkkaa.P
open Go.RowKit Go.Proofs.YtooeclfeallkkaaW.PrintWords Go.Proofs.YtooeclfeallkkaaW.PrintLast Go.Proofs.YtooeclfeallkkaaW.PrintMore
attribute [local go_sem] max2_int min2_int max_two min_two max_three min_three max_four min_four
set_option linter.unusedVariables false
set_option linter.unusedSimpArgs false
section
attribute [local go_sem] Oper.semAt_some
set_option maxHeartbeats 1000000 in
theorem chunk_in (n:Nat) (A:Option Addr) (len cap:Nat) (w:World):
  CallsIn Fence.wide n Try.prog 51 #[.slice A len cap,.int .i64 32] w fun e w'=>e= .returned (.func (.func 67) #[] #[.pointer (some ⟨w.heap.size,0,none⟩),.pointer (some ⟨w.heap.size+1,0,none⟩)])∧w'=(w.alloc (.cells #[.slice A len cap] 52)).alloc (.cells #[.int .i64 32] 3):=by
 refine callsIn_of_wp Try.func51 rfl trivial ?_ rfl
 simp only[Try.ntmps51,List.size_toArray,List.length_cons,List.length_nil,Nat.reduceAdd,Nat.reduceSub,Array.replicate_succ,Array.replicate_zero,List.push_toArray,List.append_toArray,List.nil_append,List.cons_append]
 gi_wp2
 go_ret
 exact⟨rfl,rfl⟩
abbrev ChunkNo (len:Nat):={j:Nat // 32*j < len}
theorem chunk_cut (a:Addr) (len cap s m:Nat) (hm:0 < m) (hj:s+m<=len) (hc:len<=cap) (W:World):
  (Instr.slice 52 (.slice (some a) len cap) (some (.int .i64 (s:Int))) (some (.int .i64 ((s:Int)+(m:Int)))) (some (.int .i64 ((s:Int)+(m:Int))))).run Try.prog W= .ok (.slice (some (a.add s)) m m) W:=by
 obtain⟨i0,hi0,_,hsz,_⟩:=info_parts info48
 have hel:Try.prog.elem 52=48:=by simp[Program.elem,Try.underlying52]
 have hu:Try.prog.underlying 52=some (.slice (Try.prog.elem 52)):=by rw[hel];exact Try.underlying52
 rw[run_slice_lhm W 52 (some a) len cap hu .i64 .i64 .i64 _ _ _ (by omega) (by omega) (by omega) (by omega),hel,<- Int.natCast_add,Int.toNat_natCast,Int.toNat_natCast]
 simp[sizeOf,typeInfo,hi0,hsz,sliced,Result.andThen]
 omega
theorem chunk_tail (a:Addr) (len cap s:Nat) (hj:s < len) (hc:len<=cap) (W:World):
  (Instr.slice 52 (.slice (some a) len cap) (some (.int .i64 (s:Int))) none none).run Try.prog W= .ok (.slice (some (a.add s)) (len - s) (cap - s)) W:=by
 obtain⟨i0,hi0,_,hsz,_⟩:=info_parts info48
 have hel:Try.prog.elem 52=48:=by simp[Program.elem,Try.underlying52]
 have hu:Try.prog.underlying 52=some (.slice (Try.prog.elem 52)):=by rw[hel];exact Try.underlying52
 rw[run_slice_l W 52 (some a) len cap hu .i64 _ (by omega) (by omega),hel,Int.toNat_natCast]
 simp[sizeOf,typeInfo,hi0,hsz,sliced,Result.andThen]
 omega
theorem grown_drewN (W:World) (n:Nat):W.grownBy (W.drewN n) none:=⟨rfl,rfl,rfl,Nat.le_refl _,fun k _ _=>rfl⟩
def KpC (n₀ Bs Bn:Nat) (W W':World):Prop:=Below n₀ W W'∧W'.heap[Bs]? =W.heap[Bs]? ∧W'.heap[Bn]? =W.heap[Bn]?
theorem KpC.trans {n₀ Bs Bn:Nat} {A B C:World} (h:KpC n₀ Bs Bn A B) (k:KpC n₀ Bs Bn B C):KpC n₀ Bs Bn A C:=⟨h.1.trans k.1,k.2.1.trans h.2.1,k.2.2.trans h.2.2⟩
theorem KpC.refl (n₀ Bs Bn:Nat) (W:World):KpC n₀ Bs Bn W W:=⟨Below.refl _ _,rfl,rfl⟩
theorem KpC.drewN {n₀ Bs Bn:Nat} {A B:World} (h:KpC n₀ Bs Bn A B) (n:Nat):KpC n₀ Bs Bn A (B.drewN n):=⟨pbN_ h.1 n,h.2.1,h.2.2⟩
theorem KpC.cell1 {n₀ Bs Bn:Nat} {A B:World} (h:KpC n₀ Bs Bn A B) {v:Value} (hc:A.cell? ⟨Bs,0,none⟩=some v):B.cell? ⟨Bs,0,none⟩=some v:=by
 unfold World.cell? at hc ⊢
 simp only[h.2.1]
 exact hc
theorem KpC.cell2 {n₀ Bs Bn:Nat} {A B:World} (h:KpC n₀ Bs Bn A B) {v:Value} (hc:A.cell? ⟨Bn,0,none⟩=some v):B.cell? ⟨Bn,0,none⟩=some v:=by
 unfold World.cell? at hc ⊢
 simp only[h.2.2]
 exact hc
theorem kpC_b {n₀ Bs Bn:Nat} {w:World} (hn:n₀<=w.heap.size) (h1:Bs < w.heap.size) (h2:Bn < w.heap.size) (W:World) (l:Nat) (o o':Obj) (hl:w.heap.size<=l) (h:W.heap[l]? =some o) (hc:o.isCells=false) (hw:o.isWalk=false):KpC n₀ Bs Bn W (W.putObj l o'):=
 ⟨belowK_b hn W l o o' hl h hc hw,World.putObj_heap_other (by omega),World.putObj_heap_other (by omega)⟩
def encChunk (a:Option Addr) (len:Nat) (x:ChunkNo len):Array Value:= #[.slice (a.map (·.add (32*x.1))) (min 32 (len - 32*x.1)) (min 32 (len - 32*x.1))]
set_option maxRecDepth 100000 in
set_option maxHeartbeats 2000000 in
theorem chunk1_in (l Bs Bn n₀:Nat) (a:Addr) (len cap:Nat) (hc:len<=cap) (hreach:len<=140737488351232) (J Jx:List (ChunkNo len)->World->Prop)
  (hY : ∀ pre x W, J pre W -> pre.length < len -> YieldAt Fence.wide 7 Try.prog l (encChunk (some a) len x) W fun e W' =>
   (e = .returned (.bool true) ∧ J (pre ++ [x]) W' ∧ KpC n₀ Bs Bn W W') ∨ (e = .returned (.bool false) ∧ Jx (pre ++ [x]) W'))
  (B:Nat) (hA:AbidesFrom B J) (W:World) (hBs:W.cell? ⟨Bs,0,none⟩=some (.slice (some a) len cap)) (hBn:W.cell? ⟨Bn,0,none⟩=some (.int .i64 32)) (h0:J [] W):
  CallsIn Fence.wide 8 Try.prog 67 #[.func (.yield l) #[] #[],.pointer (some ⟨Bs,0,none⟩),.pointer (some ⟨Bn,0,none⟩)] W fun e W'=>(∃ v,e= .returned v)∧
   ((∃ ys:List (ChunkNo len),ys.map (·.1)=List.range ((len+31) / 32)∧J ys W')∨(∃ pre,True∧Jx pre W')):=by
 refine callsIn_of_wp Try.func67 rfl trivial ?_ rfl
 simp only[Try.ntmps67,List.size_toArray,List.length_cons,List.length_nil,Nat.reduceAdd,Nat.reduceSub,Array.replicate_succ,Array.replicate_zero,List.push_toArray,List.append_toArray,List.nil_append,List.cons_append]
 gi_wp2
 gi_loopw [4] (fun i wr=>∃ (k s:Nat) (pre:List (ChunkNo len)),Aside0 (s=32*k)∧k<=(len+31) / 32∧i= .int .i64 (s:Int)∧pre.map (·.1)=List.range k∧J pre wr∧KpC n₀ Bs Bn W wr)
  (fun i _=>len+32 - (intOf i).toNat)
 case atStart=>exact⟨0,0,[],⟨rfl⟩,Nat.zero_le _,rfl,rfl,h0,KpC.refl _ _ _ _⟩
 case round=>
  obtain⟨k,s,pre,hs,hk,rfl,hpre,hJs,hnx⟩:=hrel
  have hcs:wr.cell? ⟨Bs,0,none⟩=some (.slice (some a) len cap):=hnx.cell1 hBs
  have hcn:wr.cell? ⟨Bn,0,none⟩=some (.int .i64 32):=hnx.cell2 hBn
  by_cases hlt:s < len
  rotate_left
  .gi_wp2
   go_end0
   refine⟨⟨_,rfl⟩,.inl ⟨pre,?_,hJs⟩⟩
   rw[hpre,show k=(len+31) / 32 by have:=hs.out;omega]
  have hlt':32*k < len:=by have:=hs.out;omega
  obtain⟨m,hm⟩:∃ m:Nat,Aside0 (m=min 32 (len - s)):=⟨_,⟨rfl⟩⟩
  have hpl:Aside0 (pre.length=k):=⟨by have:=congrArg List.length hpre;simpa using this⟩
  have hPre:=Aside0.mk hpre
  clear hpre
  have hcut:=chunk_cut a len cap s m (by have:=hm.out;omega) (by have:=hm.out;omega) hc
  obtain⟨q,hq⟩:∃ q:Nat,Aside0 (q=len - s):=⟨_,⟨rfl⟩⟩
  have htail:=chunk_tail a len cap s hlt hc
  rw[<- hq.out]at htail
  have hm0:0 < m:=by have:=hm.out;omega
  have hm1:s+m<=len:=by have:=hm.out;omega
  have hmn:min 32 (q:Int)=(m:Int):=by have:=hm.out;have:=hq.out;omega
  have hmi:(if(q:Int) < 32 then(q:Int)else 32)=(m:Int):=by have:=hm.out;have:=hq.out;split<;>omega
  gi_wp2
  gi_quiet (fail)
  have hJ2:J pre (wr.drewN nq):=hA pre wr _ none hJs (grown_drewN wr nq) (fun r e=>by cases e)
  obtain⟨fn,tmps,assign,body,hy,hR⟩:=hY pre ⟨k,hlt'⟩ (wr.drewN nq) hJ2 (by have:=hpl.out;omega)
  have hy2:(Instr.yield l #[.slice (some (a.add s)) m m]).run Try.prog (wr.drewN nq)= .ok (.round l fn tmps assign body) (wr.drewN nq):=by
   have e1:=hs.out
   have e2:=hm.out
   rw[e1]at e2
   rw[e1,e2]
   exact hy
  clear hy
  gi_wp2
  refine hR.mono ?_
  rintro e W3 (⟨rfl,hJ3,hk3⟩|⟨rfl,hJx3⟩)
  .have hnx3:KpC n₀ Bs Bn W W3:=(hnx.drewN nq).trans hk3
   have hcn3:W3.cell? ⟨Bn,0,none⟩=some (.int .i64 32):=hnx3.cell2 hBn
   gi_wp2
   go_roundw
   case rel=>exact⟨k+1,s+32,pre++[⟨k,hlt'⟩],⟨by have:=hs.out;omega⟩,by omega,by simp,by rw[List.map_append,hPre.out,List.range_succ];rfl,hJ3,hnx3⟩
   case measure=>simp[intOf];omega
  .gi_wp2
   refine bodyPost_ret (results_none rfl _ _ _) rfl ?_
   exact⟨⟨_,rfl⟩,.inr ⟨_,trivial,hJx3⟩⟩
set_option maxRecDepth 100000 in
set_option maxHeartbeats 1000000 in
theorem chunk1_nil_in (l Bs Bn cap:Nat) {α:Type} (J:List α->World->Prop) (W:World) (hBs:W.cell? ⟨Bs,0,none⟩=some (.slice none 0 cap)) (h0:J [] W):
  CallsIn Fence.wide 8 Try.prog 67 #[.func (.yield l) #[] #[],.pointer (some ⟨Bs,0,none⟩),.pointer (some ⟨Bn,0,none⟩)] W fun e W'=>(∃ v,e= .returned v)∧J [] W':=by
 refine callsIn_of_wp Try.func67 rfl trivial ?_ rfl
 simp only[Try.ntmps67,List.size_toArray,List.length_cons,List.length_nil,Nat.reduceAdd,Nat.reduceSub,Array.replicate_succ,Array.replicate_zero,List.push_toArray,List.append_toArray,List.nil_append,List.cons_append]
 gi_wp2
 gi_loopw [4] (fun i wr=>i= .int .i64 0∧wr.cell? ⟨Bs,0,none⟩=some (.slice none 0 cap)∧J [] wr) (fun _ _=>0)
 case atStart=>exact⟨rfl,hBs,h0⟩
 case round=>
  obtain⟨rfl,hc,hJs⟩:=hrel
  gi_wp2
  go_end0
  exact⟨⟨_,rfl⟩,hJs⟩
theorem chunk_stops (Bs Bn n₀:Nat) (a:Option Addr) (len cap:Nat) (ha:a=none->len=0) (hc:len<=cap) (hreach:len<=140737488351232) (w:World) (hB:Bs < w.heap.size) (hB2:Bn < w.heap.size)
  (hBs:w.cell? ⟨Bs,0,none⟩=some (.slice a len cap)) (hBn:w.cell? ⟨Bn,0,none⟩=some (.int .i64 32)):
  SeqStopsK Fence.wide 8 Try.prog 67 #[.pointer (some ⟨Bs,0,none⟩),.pointer (some ⟨Bn,0,none⟩)] (encChunk a len) (KpC n₀ Bs Bn) (fun ys=>ys.map (·.1)=List.range ((len+31) / 32)) (fun _=>True) len w:=fun l J Jx W hW hJ _ hY h0=>by
 have h1:=(hW.cell (p:=⟨Bs,0,none⟩) hB).trans hBs
 cases a with
 |none=>
  obtain rfl:=ha rfl
  exact(chunk1_nil_in l Bs Bn cap J W h1 h0).mono fun e W' ⟨he,hj⟩=>⟨he,.inl ⟨[],rfl,hj⟩⟩
 |some a=>exact chunk1_in l Bs Bn n₀ a len cap hc hreach J Jx hY W.heap.size hJ W h1 ((hW.cell (p:=⟨Bn,0,none⟩) hB2).trans hBn) h0
noncomputable def pfor_PutList.l0:Nat->List Int->List Int->Option (List Int)
 |0,_,_=>none
 |k+1,out,rest=>if rest.length=0 then some out else(pfor_PutBlock.f k out (rest.take 32)).bind fun bt=>pfor_PutList.l0 k bt.1 (rest.drop 32)
def pfor_PutList.Ok (l0 l1:List Int):Prop:=(∀ x∈l0,0<=x∧x<=255)∧l0.length+1000*l1.length<=140737488350000∧∀ acc:List Int,(∀ x∈acc,0<=x∧x<=255)->acc.length<=l0.length+1000+1000*l1.length->∀ j,32*j < l1.length->
 ∃ k y,pfor_PutBlock.f k acc ((l1.drop (32*j)).take 32)=some y∧(∀ x∈y.1,0<=x∧x<=255)∧y.1.length<=acc.length+1000
noncomputable def pfor_PutList.f (k:Nat) (l0 l1:List Int):Option (List Int):=
 @ite _ (pfor_PutList.Ok l0 l1) (Classical.propDecidable _) ((num_Put.f k l0 (l1.length:Int)).bind fun t=>if(∀ x∈t,0<=x∧x<=255)∧t.length<=l0.length+1000 then pfor_PutList.l0 k t l1 else none) none
theorem pfor_PutList.mono_l:∀ k a0 a1,LeO (pfor_PutList.l0 k a0 a1) (pfor_PutList.l0 (k+1) a0 a1)
 |0,_,_=>LeO.none _
 |k+1,a0,a1=>by
  rw[pfor_PutList.l0,pfor_PutList.l0]
  exact LeO.ite (LeO.refl _) (LeO.bind (pfor_PutBlock.mono _ _ _) (fun _=>pfor_PutList.mono_l k _ _))
theorem pfor_PutList.mono:∀ a0 a1 k,LeO (pfor_PutList.f k a0 a1) (pfor_PutList.f (k+1) a0 a1):=by
 intro a0 a1 k
 unfold pfor_PutList.f
 by_cases h:pfor_PutList.Ok a0 a1
 rotate_left
 .rw[if_neg h]
  exact LeO.none _
 rw[if_pos h,if_pos h]
 exact LeO.bind (num_Put.mono _ _ _) (fun _=>LeO.ite (pfor_PutList.mono_l k _ _) (LeO.none _))
theorem keeps_below {W W':World} (h:Below W.heap.size W W'):KeepsOthers W W':=⟨h.size,fun k o hk _=>(h.block k (Array.getElem?_eq_some_iff.1 hk).1).trans hk⟩
def pfor_PutList.Held (w:World) (l0 l1:List Int) (k:Nat) (r:List Int) (B:Nat) (pre:List (ChunkNo l1.length)) (W:World):Prop:=
 (∃ (acc:List Int) (v:Value),Aside0 ((∀ x∈acc,0<=x∧x<=255)∧acc.length<=l0.length+1000+1000*pre.length∧(pre.map (·.1)=List.range pre.length->∃ kq,pfor_PutList.l0 kq acc (l1.drop (32*pre.length))=some r))∧Boxed W B 22 v∧Kd.R (Kd.int .u8) 5 W w.heap.size (fun _=>True) v acc∧B+3<=W.heap.size)∧Below w.heap.size w W
theorem pfor_PutList.held_own (w:World) (l0 l1:List Int) (k:Nat) (r:List Int) (B:Nat) (B0:Nat) (h:w.heap.size<=B0):OwnFrom B0 (pfor_PutList.Held w l0 l1 k r B):=by
 refine OwnFrom.and (Own.from ?_ _) (ownFrom_below (Nat.le_refl _) h)
 rintro s X Y row ⟨acc,v,hp,hv,hR,hz⟩ hg hrow
 obtain⟨v',hv',hr',rfl⟩:=holdsRow_own (β:=Unit) w.heap.size B 22 5 1 (fun _=>acc.length) (fun _=>encs (Value.int .u8) acc) (fun _ u=>u=v) () X Y row ⟨v,hv,Kd.own_of_R hR,rfl⟩ hg hrow
 exact⟨acc,_,hp,hv',Kd.R_of_own hr' (fun _ _=>trivial),Nat.le_trans hz hg.size⟩
theorem pfor_PutList.step {l1 acc:List Int} {r y:List Int} {pl:Nat} (hl:32*pl < l1.length) (h:∃ kq,pfor_PutList.l0 kq acc (l1.drop (32*pl))=some r) {k':Nat} {e:Int} (hy:pfor_PutBlock.f k' acc ((l1.drop (32*pl)).take 32)=some (y,e)):
  ∃ kq,pfor_PutList.l0 kq y (l1.drop (32*(pl+1)))=some r:=by
 obtain⟨kq,h⟩:=h
 cases kq with
 |zero=>cases h
 |succ kq=>
  rw[pfor_PutList.l0,if_neg (by rw[List.length_drop];omega)]at h
  obtain⟨bt,h1,h2⟩:=Option.bind_eq_some_iff.1 h
  have e1:bt=(y,e):=by
   have a1:∀ n,pfor_PutBlock.f (kq+n) acc ((l1.drop (32*pl)).take 32)=some bt:=by
    intro n
    induction n with
    |zero=>exact h1
    |succ n ih=>exact pfor_PutBlock.mono _ _ _ _ ih
   have a2:∀ n,pfor_PutBlock.f (k'+n) acc ((l1.drop (32*pl)).take 32)=some (y,e):=by
    intro n
    induction n with
    |zero=>exact hy
    |succ n ih=>exact pfor_PutBlock.mono _ _ _ _ ih
   have:=(a1 k').symm.trans ((Nat.add_comm kq k') ▸ a2 kq)
   exact Option.some.inj this
  subst e1
  refine⟨kq,?_⟩
  rw[List.drop_drop]at h2
  exact h2
theorem pfor_PutList.last {l1 acc:List Int} {r:List Int} {pl:Nat} (hl:l1.length<=32*pl) (h:∃ kq,pfor_PutList.l0 kq acc (l1.drop (32*pl))=some r):acc=r:=by
 obtain⟨kq,h⟩:=h
 cases kq with
 |zero=>cases h
 |succ kq=>
  rw[pfor_PutList.l0,if_pos (by rw[List.length_drop];omega)]at h
  exact Option.some.inj h
theorem chunk_reads {W:World} {a:Option Addr} {c1:Nat} {l1:List Int} (h:Kd.C (Kd.int .u64) W a l1.length l1) (hc:l1.length<=c1) (j:Nat) (hj:32*j < l1.length):Kd.C (Kd.int .u64) W (a.map (·.add (32*j))) ((l1.drop (32*j)).take 32).length ((l1.drop (32*j)).take 32):=by
 have h1:=Kd.C_drop (c:=c1) h (show 32*j<=l1.length by omega) hc
 rw[if_neg (by omega),show(Kd.int .u64).sz=1 from rfl,Nat.mul_one]at h1
 by_cases h2:32<=(l1.drop (32*j)).length
 .exact Kd.C_take h1 h2
 .rw[List.take_of_length_le (by omega)]
  exact h1
theorem range_snoc {l:List Nat} {x:Nat} (h:l++[x]=List.range (l.length+1)):l=List.range l.length∧x=l.length:=by
 rw[List.range_succ]at h
 have:=List.append_inj h (by simp)
 exact⟨this.1,(List.cons.inj this.2).1⟩
set_option maxRecDepth 100000 in
set_option maxHeartbeats 4000000 in
theorem pfor_PutList.calls (k:Nat) (A0:Option Addr) (c0:Nat) (l0:List Int) (A1:Option Addr) (c1:Nat) (l1:List Int) (r:List Int) (w:World) (hr0:Kd.C (Kd.int .u8) w A0 l0.length l0) (hc0:l0.length<=c0) (hr1:Kd.C (Kd.int .u64) w A1 l1.length l1) (hc1:l1.length<=c1) (h:pfor_PutList.f k l0 l1=some r):
  Calls Try.prog 28 #[.slice A0 l0.length c0,.slice A1 l1.length c1] w fun e w'=>∃ v0_:Value,e= .returned (v0_)∧Kd.R (Kd.int .u8) 5 w' w.heap.size (fun _=>True) v0_ r∧Below w.heap.size w w':=by
 by_cases hok:pfor_PutList.Ok l0 l1
 case neg=>unfold pfor_PutList.f at h;rw[if_neg hok]at h;cases h
 unfold pfor_PutList.f at h
 rw[if_pos hok]at h
 obtain⟨t,ht,h⟩:=Option.bind_eq_some_iff.1 h
 by_cases hb8:(∀ x∈t,0<=x∧x<=255)∧t.length<=l0.length+1000
 case neg=>rw[if_neg hb8]at h;cases h
 rw[if_pos hb8]at h
 have HT:=Aside0.mk ht
 have HH:=Aside0.mk h
 have HB8:=Aside0.mk hb8
 have HOK:=Aside0.mk hok
 have HR0:=Aside0.mk hr0
 have HR1:=Aside0.mk hr1
 have hln:l1.length<=140737488350:=by have:=hok.2.1;omega
 have hnone:A1=none->l1.length=0:=by
  rintro rfl
  rcases Nat.eq_zero_or_pos l1.length with h_|h_
  .exact h_
  .obtain⟨ad,e,_⟩:=hr1.2.2 h_
   cases e
 clear ht h hb8 hok hr0 hr1
 refine(callsIn_wide (n:=9)).1 ?_
 refine callsIn_of_wp_marks Try.func28 rfl trivial ?_ rfl
 simp only[Try.ntmps28,List.size_toArray,List.length_cons,List.length_nil,Nat.reduceAdd,Nat.reduceSub,Array.replicate_succ,Array.replicate_zero,List.push_toArray,List.append_toArray,List.nil_append,List.cons_append]
 gi_wp2_with (first|(refine⟨trivial,?_⟩;gi_at_call 24;(with_reducible refine(callsIn_wide.2 (num_Put.calls k A0 c0 l0 (l1.length:Int) t w HR0.out hc0 HT.out)).mono ?_);rintro e w1 ⟨v0,rfl,hR,hB⟩;obtain⟨At,ct,rfl⟩:=Kd.R_slice hR;have HRt:=Aside0.mk hR;have HBt:=Aside0.mk hB;clear hR hB)|(refine⟨trivial,?_⟩;gi_at_call 51;(with_reducible refine(chunk_in _ A1 l1.length c1 _).mono ?_);rintro e w2 ⟨rfl,rfl⟩)|fail)
 obtain⟨n1,hn1⟩:∃ n1:Nat,Aside0 (n1=w1.heap.size):=⟨_,⟨rfl⟩⟩
 have hsz:w.heap.size<=n1:=by rw[hn1.out];exact HBt.out.size
 obtain⟨W0,hW0⟩:∃ W0,Aside0 (W0=((w1.alloc (Obj.cells #[Value.slice At t.length ct] 22)).alloc (Obj.cells #[Value.slice A1 l1.length c1] 52)).alloc (Obj.cells #[Value.int IntKind.i64 32] 3)):=⟨_,⟨rfl⟩⟩
 have hW0s:W0.heap.size=n1+3:=by rw[hW0.out,hn1.out];simp
 have hBel:Below w.heap.size w W0:=by rw[hW0.out];exact pbA_ (pbA_ (pbA_ HBt.out _) _) _
 have hb0:Boxed W0 n1 22 (.slice At t.length ct):=by rw[hW0.out,hn1.out];exact((Boxed.new w1 22 _).alloc _).alloc _
 have hR0:Kd.R (Kd.int .u8) 5 W0 w.heap.size (fun _=>True) (.slice At t.length ct) t:=by rw[hW0.out];exact Kd.rA_ (Kd.rA_ (Kd.rA_ HRt.out _) _) _
 have hc1':W0.cell? ⟨n1+1,0,none⟩=some (.slice A1 l1.length c1):=by
  have h_:=((Boxed.new (w1.alloc (Obj.cells #[Value.slice At t.length ct] 22)) 52 (.slice A1 l1.length c1)).alloc (Obj.cells #[Value.int IntKind.i64 32] 3)).cell
  rw[World.size_alloc]at h_
  rw[hW0.out,hn1.out]
  exact h_
 have hc2':W0.cell? ⟨n1+2,0,none⟩=some (.int .i64 32):=by
  have h_:=(Boxed.new ((w1.alloc (Obj.cells #[Value.slice At t.length ct] 22)).alloc (Obj.cells #[Value.slice A1 l1.length c1] 52)) 3 (.int .i64 32)).cell
  rw[World.size_alloc,World.size_alloc]at h_
  rw[hW0.out,hn1.out]
  exact h_
 rw[<- hW0.out,<- hn1.out]
 refine wpIn_rangeFunc_ownF (F:=Fence.wide) rfl (by decide) (gf:=67) (lb:= #[.pointer (some ⟨n1+1,0,none⟩),.pointer (some ⟨n1+2,0,none⟩)]) rfl trivial (enters_of Try.func67 (by kernel_rfl) rfl)
  (chunk_stops (n1+1) (n1+2) w.heap.size A1 l1.length c1 hnone hc1 (by omega) W0 (by omega) (by omega) hc1' hc2') (fun h k=>KpC.trans h k) (kpC_b (by omega) (by omega) (by omega)) (Below.refl _ _) (fun _=>rfl)
  (pfor_PutList.Held w l0 l1 k r n1) (fun _ _ _=>False) (pfor_PutList.held_own w l0 l1 k r n1 W0.heap.size (by omega)) (fun _ _ _ _ _ hs _ _=>hs)
  ⟨⟨t,_,⟨HB8.out.1,by have:=HB8.out.2;simp;omega,fun _=>⟨k,HH.out⟩⟩,hb0,hR0,by omega⟩,hBel⟩
  (fun x => { tmps := #[Value.slice A0 l0.length c0, Value.slice A1 l1.length c1, undef, undef, Value.slice none 0 0,
     Value.pointer (some {block:=n1,off:=0}),.slice (A1.map (·.add (32*x.1))) (min 32 (l1.length - 32*x.1)) (min 32 (l1.length - 32*x.1)),Value.slice A0 l0.length c0,
     Value.slice A1 l1.length c1,Value.int IntKind.i64 ↑l1.length,Value.int IntKind.u64 ↑l1.length,
     Value.slice At t.length ct,Value.slice A1 l1.length c1,
     Value.func (Fn.func 67) #[] #[Value.pointer (some {block:=n1+1,off:=0}),Value.pointer (some {block:=n1+2,off:=0})],
     .slice (A1.map (·.add (32 * x.1))) (min 32 (l1.length - 32 * x.1)) (min 32 (l1.length - 32 * x.1)), undef, undef, undef, undef, undef, undef, undef], defers := [] }) ?assign ?body ?done ?stop
 case assign=>
  intro l x W K hK
  dsimp only[encChunk]
  gi_wp2
  exact hK
 case stop=>
  intro D c pre W _ _ h _
  exact h.elim
 case body=>
  rintro l pre x W ⟨⟨acc,v,hp,hv,hR,hz⟩,hB⟩ hlen
  obtain⟨A,c,rfl⟩:=Kd.R_slice hR
  obtain⟨-,hcap,hC⟩:=Kd.R_reads' hR
  obtain⟨k',y,hy,hy8,hyl⟩:=HOK.out.2.2 acc hp.out.1 (by have:=hp.out.2.1;omega) x.1 x.2
  have hch:=chunk_reads (Kd.C_below HR1.out hB) hc1 x.1 x.2
  have hcl:((l1.drop (32*x.1)).take 32).length=min 32 (l1.length - 32*x.1):=by simp
  have hcall:=pfor_PutBlock.calls k' A c acc (A1.map (·.add (32*x.1))) ((l1.drop (32*x.1)).take 32).length ((l1.drop (32*x.1)).take 32) y.1 y.2 W hC hcap hch (Nat.le_refl _) hy
  rw[hcl]at hcall
  have HCl:=Aside0.mk hcl
  have HY:=Aside0.mk hy
  have HC_:=Aside0.mk hC
  have HCh:=Aside0.mk hch
  have HRa:=Aside0.mk hR
  have HBa:=Aside0.mk hB
  have HCall:=Aside0.mk hcall
  clear hcl hy hC hch hR hB hcall
  have hcv:=hv.cell
  gi_wp2_with (first|(refine⟨trivial,?_⟩;gi_at_call 26;(with_reducible refine(CallsIn.inRound l (callsIn_wide.2 HCall.out)).mono ?_);rintro e w2 ⟨v2,rfl,hR2,hB2⟩;obtain⟨A2,c2,rfl⟩:=Kd.R_slice hR2;have hv2:Boxed w2 n1 22 (.slice A acc.length c):=(hB2.block n1 hv.lt).trans hv;have hcv2:=hv2.cell;have hfv2:=hv2.frozen;have HR2:=Aside0.mk hR2;have HB2:=Aside0.mk hB2;clear hR2 hB2)|fail)
  have hs1:=HBa.out.size
  have hbl:Below w.heap.size W w2:=HB2.out.mono hs1
  have hown:=Kd.own_of_R (Kd.R_lower HR2.out hs1)
  refine⟨(keeps_below HB2.out).trans (KeepsOthers.setCell _ _ _),⟨hbl.setCell (p:=⟨n1,0,none⟩) hsz _,?_,?_⟩,⟨y.1,_,⟨hy8,?_,?_⟩,hv2.set _,Kd.R_of_own (hown.kept (grownBy_setCell' w2 n1 _) (.inr (hv2.not_row (by decide) hown).symm)) (fun _ _=>trivial),?_⟩,(HBa.out.trans hbl).setCell (p:=⟨n1,0,none⟩) hsz _⟩
  .exact(Below.heap_setCell _ _ _ _ (by simp)).trans (HB2.out.block _ (by omega))
  .exact(Below.heap_setCell _ _ _ _ (by simp)).trans (HB2.out.block _ (by omega))
  .have:=hp.out.2.1
   rw[List.length_append,List.length_singleton]
   omega
  .intro he
   rw[List.map_append,List.length_append,List.length_singleton,List.map_cons,List.map_nil]at he
   have h3:=range_snoc (l:=pre.map (·.1)) (by rw[List.length_map];exact he)
   rw[List.length_map]at h3
   rw[List.length_append,List.length_singleton]
   have hx:=x.2
   refine pfor_PutList.step (by have:=h3.2;omega) (hp.out.2.2 h3.1) (k':=k') (e:=y.2) ?_
   rw[<- h3.2]
   exact HY.out
  .have:=HB2.out.size
   simp
   omega
 case done=>
  rintro D ys W hD hS ⟨⟨acc,v,hp,hv,hR,hz⟩,hB⟩ hK
  have hyl:ys.length=(l1.length+31) / 32:=by have:=congrArg List.length hS;simpa using this
  have hacc:=pfor_PutList.last (by omega) (hp.out.2.2 (by rw[hyl];exact hS))
  subst hacc
  obtain⟨A,c,rfl⟩:=Kd.R_slice hR
  have hcv:=hv.cell
  have HRa:=Aside0.mk hR
  have HBa:=Aside0.mk hB
  clear hR hB
  gi_wp2
  refine⟨by simp,.inl ⟨_,_,rfl,run_takeDeferred hK,?_⟩⟩
  refine⟨_,results_tmp rfl _ _ _,_,rfl,?_,?_⟩
  .exact Kd.R_of_own (ownsRow_putObj (Kd.own_of_R HRa.out) _ hK rfl) (fun _ _=>trivial)
  .exact HBa.out.trans (belowK_b (w:=w) (Nat.le_refl _) W D _ _ (by omega) hK rfl rfl)
end
end Go.Proofs.Ytooeclfeallkkaa.P
end
