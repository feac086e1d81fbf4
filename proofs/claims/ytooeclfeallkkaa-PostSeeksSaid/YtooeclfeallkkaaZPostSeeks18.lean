/- Words and proofs that PostSeeks leans on; put together by wip/tools/shake.py. -/
import Derived.Test.YtooeclfeallkkaaZPostSeeks7
import Derived.Test.YtooeclfeallkkaaZPostSeeks13
import Derived.Test.YtooeclfeallkkaaZPostSeeks15
import Derived.Test.YtooeclfeallkkaaZPostSeeks16
import Derived.Test.YtooeclfeallkkaaZPostSeeks17
section
namespace Go.Proofs.Ytooeclfeallkkaa.P
open Go.RowKit Go.Proofs.YtooeclfeallkkaaW.PrintWords Go.Proofs.YtooeclfeallkkaaW.PrintLast Go.Proofs.YtooeclfeallkkaaW.PrintMore
attribute [local go_sem] max2_int min2_int max_two min_two max_three min_three max_four min_four
set_option linter.unusedVariables false
set_option linter.unusedSimpArgs false
mutual
noncomputable def dragnetref13_Seek.l0:Nat->Int->Int->Int->List Int->Int->Bool->Option (Int×List Int×Int×Int)
 |0,_,_,_,_,_,_=>none
 |k+1,x1,x8,x9,x676000,x676001,x676002=>if x9 > 0 then(dragnetref13_Seek.j1 k x1 x8 x9 (!x676002) x676000 x676001 x676002)else(dragnetref13_Seek.j1 k x1 x8 x9 false x676000 x676001 x676002)
noncomputable def dragnetref13_Seek.j1:Nat->Int->Int->Int->Bool->List Int->Int->Bool->Option (Int×List Int×Int×Int)
 |0,_,_,_,_,_,_,_=>none
 |k+1,x1,x8,x9,x28,x676000,x676001,x676002=>if x28=true then((dragnetref13_next.f k x676000 x676001 x676002).bind fun bt679=>(if bt679.2.2.1=true then(if bt679.1 < x1 then(dragnetref13_Seek.l0 k x1 bt679.1 (wrap64 (x9 - 32)) x676000 bt679.2.2.2.1 bt679.2.2.2.2)else((dragnetref13_read.f k bt679.1 bt679.2.1 (mn 32 x9) x8).bind fun bt687=>(if bt687.2=true then(dragnetref13_Seek.l1 k x1 bt687.1 0)else(some (0,([]:List Int),0,2)))))else(if bt679.2.2.2.2=true then(some (0,([]:List Int),0,2))else(some (0,([]:List Int),0,8)))))else(if x676002=true then(some (0,([]:List Int),0,2))else(some (0,([]:List Int),0,8)))
noncomputable def dragnetref13_Seek.l1:Nat->Int->List (S37)->Int->Option (Int×List Int×Int×Int)
 |0,_,_,_=>none
 |k+1,x1,x12,x14=>if 0<=x14 then(if x14 < (x12.length:Int)then(if((rd_T37 x12 x14).f0) < x1 then(dragnetref13_Seek.l1 k x1 x12 (wrap64 (x14+1)))else(some ((rd_T37 x12 x14).f0,(rd_T37 x12 x14).f1,1,0)))else(none))else(none)
end
noncomputable def dragnetref13_Seek.f (k:Nat) (l0:List Int) (a1:Int):Option (Int×List Int×Int×Int):=(dragnetref02_Reader_Count.f k l0 0 false 4096).bind fun bt676=>(dragnetref13_Seek.l0 k a1 (-1) bt676.1 l0 bt676.2.1 bt676.2.2)
theorem dragnetref13_Seek.mono_l:∀ k,(∀ y0 y1 y2 y3 y4 y5,LeO (dragnetref13_Seek.l0 k y0 y1 y2 y3 y4 y5) (dragnetref13_Seek.l0 (k+1) y0 y1 y2 y3 y4 y5))∧(∀ y0 y1 y2 y3 y4 y5 y6,LeO (dragnetref13_Seek.j1 k y0 y1 y2 y3 y4 y5 y6) (dragnetref13_Seek.j1 (k+1) y0 y1 y2 y3 y4 y5 y6))∧(∀ y0 y1 y2,LeO (dragnetref13_Seek.l1 k y0 y1 y2) (dragnetref13_Seek.l1 (k+1) y0 y1 y2))
 |0=>⟨fun _ _ _ _ _ _ r h=>by simp[dragnetref13_Seek.l0]at h,fun _ _ _ _ _ _ _ r h=>by simp[dragnetref13_Seek.j1]at h,fun _ _ _ r h=>by simp[dragnetref13_Seek.l1]at h⟩
 |k+1=>by
  obtain⟨ih0,ih1,ih2⟩:=dragnetref13_Seek.mono_l k
  refine⟨?_,?_,?_⟩
  .intro y0 y1 y2 y3 y4 y5
   unfold dragnetref13_Seek.l0
   repeat' first
   |(with_reducible exact ih0 _ _ _ _ _ _)
   |(with_reducible exact ih1 _ _ _ _ _ _ _)
   |(with_reducible exact ih2 _ _ _)
   |(with_reducible exact dragnetref02_Reader_Count.mono _ _ _ _ _)
   |(with_reducible exact dragnetref13_next.mono _ _ _ _)
   |(with_reducible exact dragnetref13_read.mono _ _ _ _ _)
   |(with_reducible exact LeO.refl _)
   |(with_reducible exact LeO.none _)
   |(with_reducible refine LeO.ite ?_ ?_)
   |(with_reducible refine LeO.bind ?_ (fun _=>?_))
  .intro y0 y1 y2 y3 y4 y5 y6
   unfold dragnetref13_Seek.j1
   repeat' first
   |(with_reducible exact ih0 _ _ _ _ _ _)
   |(with_reducible exact ih1 _ _ _ _ _ _ _)
   |(with_reducible exact ih2 _ _ _)
   |(with_reducible exact dragnetref02_Reader_Count.mono _ _ _ _ _)
   |(with_reducible exact dragnetref13_next.mono _ _ _ _)
   |(with_reducible exact dragnetref13_read.mono _ _ _ _ _)
   |(with_reducible exact LeO.refl _)
   |(with_reducible exact LeO.none _)
   |(with_reducible refine LeO.ite ?_ ?_)
   |(with_reducible refine LeO.bind ?_ (fun _=>?_))
  .intro y0 y1 y2
   unfold dragnetref13_Seek.l1
   repeat' first
   |(with_reducible exact ih0 _ _ _ _ _ _)
   |(with_reducible exact ih1 _ _ _ _ _ _ _)
   |(with_reducible exact ih2 _ _ _)
   |(with_reducible exact dragnetref02_Reader_Count.mono _ _ _ _ _)
   |(with_reducible exact dragnetref13_next.mono _ _ _ _)
   |(with_reducible exact dragnetref13_read.mono _ _ _ _ _)
   |(with_reducible exact LeO.refl _)
   |(with_reducible exact LeO.none _)
   |(with_reducible refine LeO.ite ?_ ?_)
   |(with_reducible refine LeO.bind ?_ (fun _=>?_))
theorem dragnetref13_Seek.mono:∀ a0 a1 k,LeO (dragnetref13_Seek.f k a0 a1) (dragnetref13_Seek.f (k+1) a0 a1):=by
 intro a0 a1 k
 obtain⟨ih0,ih1,ih2⟩:=dragnetref13_Seek.mono_l k
 unfold dragnetref13_Seek.f
 repeat' first
   |(with_reducible exact ih0 _ _ _ _ _ _)
   |(with_reducible exact ih1 _ _ _ _ _ _ _)
   |(with_reducible exact ih2 _ _ _)
   |(with_reducible exact dragnetref02_Reader_Count.mono _ _ _ _ _)
   |(with_reducible exact dragnetref13_next.mono _ _ _ _)
   |(with_reducible exact dragnetref13_read.mono _ _ _ _ _)
   |(with_reducible exact LeO.refl _)
   |(with_reducible exact LeO.none _)
   |(with_reducible refine LeO.ite ?_ ?_)
   |(with_reducible refine LeO.bind ?_ (fun _=>?_))
set_option maxHeartbeats 8000000 in
set_option maxRecDepth 100000 in
theorem dragnetref13_Seek.calls (k:Nat) (A0:Option Addr) (c0:Nat) (l0:List Int) (a1:Int) (r1:Int) (r2:List Int) (r3:Int) (r4:Int) (w:World) (hr0:Kd.C (Kd.int .u8) w A0 l0.length l0) (hc0:l0.length<=c0) (h:dragnetref13_Seek.f k l0 a1=some (r1,r2,r3,r4)):
  Calls Try.prog 20 #[.slice A0 l0.length c0,.int .i64 a1] w fun e w'=>∃ v1_:Value,e= .returned (.tuple #[.agg #[.int .i64 r1,v1_],.int .i64 r3,.int .i64 r4])∧Kd.R (Kd.int .i64) 3 w' w.heap.size (fun _=>True) v1_ r2∧Below w.heap.size w w':=by
 have hu37:=Try.underlying37
 have hu72:=Try.underlying72
 have hu75:=Try.underlying75
 have HR0:=Aside0.mk hr0
 have HC0:=Aside0.mk hc0
 clear hr0 hc0
 have HB:=Aside0.mk (Below.refl w.heap.size w)
 have H:((dragnetref02_Reader_Count.f k l0 0 false 4096).bind fun bt676=>(dragnetref13_Seek.l0 k a1 (-1) bt676.1 l0 bt676.2.1 bt676.2.2))=some (r1,r2,r3,r4):=h
 clear h
 replace H:=Option.bind_eq_some_iff.mp H
 obtain⟨⟨t676,t677,t678⟩,A30,H⟩:=H
 try dsimp only at H
 have A3:=Aside0.mk A30
 clear A30
 have H':=Aside0.mk H
 clear H
 go_enter Try.func20,Try.ntmps20
 go_wp2_with (first|((with_reducible refine gate_dst (N:=4) rfl ?_);refine box_event ?hg (N:=4) ?hd (cs:= #[.int .i64 0,.slice none 0 0]) (t:=37) ?hr ?_;(case hd=>rfl);(case hg=>rfl);(case hr=>first|(go_simp;done)|(go_simp;rfl));intro gb674 hg w4 hbox hb;have n0_:=Aside0.mk (below_step bw_ hb);have n1_:=Aside0.mk (hbox);have n2_:=Aside0.mk ((by rw[hg];exact(pbS_ bw_):w.heap.size<=gb674));have n3_:=Aside0.mk ((by rw[hg];exact(pbS_ bw_):w.heap.size<=gb674));clear HB;have HB:=n0_;have BK674:=n1_;have GW674:=n2_;have GE674:=n3_;clear n0_ n1_ n2_ n3_;clear hb hbox hg)|((with_reducible refine gate_dst (N:=17) rfl ?_);refine box_event ?hg (N:=17) ?hd (cs:= #[.slice A0 l0.length c0,.int .i64 0,.bool false]) (t:=72) ?hr ?_;(case hd=>rfl);(case hg=>rfl);(case hr=>first|(go_simp;done)|(go_simp;rfl));intro gb675 hg w5 hbox hb;have n0_:=Aside0.mk (blk_below (g:=gb674) (o:= .cells #[.int .i64 0,.slice none 0 0] 37 (0,0)) (bk_ BK674.out) hb);have n1_:=Aside0.mk (below_step bs_ hb);have n2_:=Aside0.mk ((show IsS72 w w5 gb675 l0 0 false from⟨_,_,hbox,(by rw[hg];exact(pbS_ bs_):w.heap.size<=gb675),⟨HR0.out,HC0.out⟩⟩));have n3_:=Aside0.mk ((by rw[hg];exact(pbS_ bs_):w.heap.size<=gb675));have n4_:=Aside0.mk ((by rw[hg];exact(pbS_ bs_):w.heap.size<=gb675));have n5_:=Aside0.mk ((by rw[hg];exact Nat.ne_of_lt (blk_lt (g:=gb674) (o:= .cells #[.int .i64 0,.slice none 0 0] 37 (0,0)) (bk_ BK674.out)):gb674≠gb675));have n6_:=Aside0.mk ((by rw[hg];exact Nat.ne_of_gt (blk_lt (g:=gb674) (o:= .cells #[.int .i64 0,.slice none 0 0] 37 (0,0)) (bk_ BK674.out)):gb675≠gb674));clear BK674;clear HB;have BK674:=n0_;have HB:=n1_;have HI675:=n2_;have GW675:=n3_;have GE675:=n4_;have NB674_675:=n5_;have NB675_674:=n6_;clear n0_ n1_ n2_ n3_ n4_ n5_ n6_;clear hb hbox hg)|((with_reducible refine gaC_ (f:=38) rfl ?_);refine goesL_ (some 19) rfl rfl Try.func38 (by kernel_rfl) rfl #[.pointer (some ⟨gb675,0,none⟩),.int .i64 4096] rfl am_ ?_;(with_reducible refine(dragnetref02_Reader_Count.calls k gb675 l0 0 false 4096 t676 t677 t678 w _ ?side1 ?side2 A3.out).mono ?_);(case side1=>exact isu72_ HI675.out);(case side2=>repeat(first|(with_reducible first|exact HB.out|apply pbA_|apply pbN_|apply pb1_|refine below_set ?_ (IsS72.ge HI675.out)|refine below_set ?_ GE674.out)|exact HB.out));rintro e w6 ⟨rfl,hi,hb,hk⟩;refine⟨_,rfl,?_⟩;replace BK674:=Aside0.mk (KeepBut.blk hk (g':=gb674) (o:= .cells #[.int .i64 0,.slice none 0 0] 37 (0,0)) (bk_ BK674.out) NB674_675.out (by simp));replace HB:=Aside0.mk (hb);replace HI675:=Aside0.mk (hi)))
 go_loopg [8,9] k (fun kq v8 v9 w'=>∃ (x8_1:Int) (x9_1:Int) (x675000_1:Int) (x676001_1:Int) (x676002_1:Bool),v8= .int .i64 x8_1∧v9= .int .i64 x9_1∧Aside0 (dragnetref13_Seek.l0 kq a1 x8_1 x9_1 l0 x676001_1 x676002_1=some (r1,r2,r3,r4))∧Aside0 (kq<=k)∧Aside0 (w'.heap[gb674]? =some (.cells #[.int .i64 x675000_1,(.slice none 0 0)] 37 (0,0)))∧Aside0 (IsS72 w w' gb675 l0 x676001_1 x676002_1)∧Aside0 (Below w.heap.size w w'))
 case atStart=>exact⟨((-1)),(t676),(0),(t677),(t678),rs_,rs_,H',⟨Nat.le_refl _⟩,⟨bk_ BK674.out⟩,⟨by repeat(first|(with_reducible first|exact HI675.out|apply IsS72.alloc|apply IsS72.drewN|apply IsS72.drew|apply IsS72.set_1|apply IsS72.set_2|refine IsS72.far ?_ NB675_674.out _)|exact HI675.out)⟩,⟨bs72_⟩⟩
 case round=>
  clear H'
  obtain⟨x8_1,x9_1,x675000_1,x676001_1,x676002_1,rfl,rfl,HA,HK1,BK674,HI675,HB⟩:=hrel
  cases gk with
  |zero=>exact absurd HA.out (by simp[dragnetref13_Seek.l0])
  |succ k1=>
   have H:=HA.out
   clear HA
   simp only[dragnetref13_Seek.l0]at H
   have HC7:=Aside0.mk H
   clear H
   go_upto_region 4 with (fail)
   go_cut [28] (fun v28 wc=>∃ (kq:Nat) (x28_6:Bool),v28= .bool x28_6∧Aside0 (dragnetref13_Seek.j1 kq a1 x8_1 x9_1 x28_6 l0 x676001_1 x676002_1=some (r1,r2,r3,r4))∧Aside0 (kq<=k1)∧Aside0 (wc.heap[gb674]? =some (.cells #[.int .i64 x675000_1,(.slice none 0 0)] 37 (0,0)))∧Aside0 (IsS72 w wc gb675 l0 x676001_1 x676002_1)∧Aside0 (Below w.heap.size w wc))
   case first=>
    have H:=HC7.out
    clear HC7
    by_cases c8:x9_1 > 0
    rotate_left
    .rw[if_neg c8]at H
     have c8b0:=decide_eq_false c8
     clear c8
     (first|rw[c8b0]|(simp only[i64_w,i32_w];rw[c8b0])|skip)
     have H':=Aside0.mk H
     clear H
     go_wp2
     go_meet
     case rel=>exact⟨_,(false),rs_,H',⟨by have:=HK1.out;first|omega|exact Nat.le_refl _⟩,⟨bk_ BK674.out⟩,⟨by repeat(first|(with_reducible first|exact HI675.out|apply IsS72.alloc|apply IsS72.drewN|apply IsS72.drew|apply IsS72.set_1|apply IsS72.set_2|refine IsS72.far ?_ NB675_674.out _)|exact HI675.out)⟩,⟨bs72_⟩⟩
    rw[if_pos c8]at H
    have c8b0:=decide_eq_true c8
    clear c8
    (first|rw[c8b0]|(simp only[i64_w,i32_w];rw[c8b0])|skip)
    have H':=Aside0.mk H
    clear H
    obtain⟨ASz9_0,cSz9_0,HGz9,hgz9,HSz9_0⟩:=HI675.out
    have hcz9_0:=cellS72_0 HGz9
    have hcz9_1:=cellS72_1 HGz9
    have hcz9_2:=cellS72_2 HGz9
    have hfz9_1:=blk_frozen HGz9 1
    have hfz9_2:=blk_frozen HGz9 2
    clear HGz9 hgz9
    go_wp2
    go_meet
    case rel=>exact⟨_,(!x676002_1),rs_,H',⟨by have:=HK1.out;first|omega|exact Nat.le_refl _⟩,⟨bk_ BK674.out⟩,⟨by repeat(first|(with_reducible first|exact HI675.out|apply IsS72.alloc|apply IsS72.drewN|apply IsS72.drew|apply IsS72.set_1|apply IsS72.set_2|refine IsS72.far ?_ NB675_674.out _)|exact HI675.out)⟩,⟨bs72_⟩⟩
   case rest=>
    clear HC7
    obtain⟨kq,x28_6,rfl,HA,HJ6,BK674,HI675,HB⟩:=hcut
    cases kq with
    |zero=>exact absurd HA.out (by simp[dragnetref13_Seek.j1])
    |succ kj6=>
     have H:=HA.out
     clear HA
     simp only[dragnetref13_Seek.j1]at H
     by_cases c10:x28_6=true
     rotate_left
     .replace c10:=Bool.eq_false_iff.mpr c10
      subst c10
      rw[if_neg (show ¬ (false=true) by decide)]at H
      by_cases c65:x676002_1=true
      .subst c65
       rw[if_pos rfl]at H
       simp only[Option.some.injEq,Prod.mk.injEq]at H
       obtain⟨rfl,rfl,rfl,rfl⟩:=H
       obtain⟨ASz66_0,cSz66_0,HGz66,hgz66,HSz66_0⟩:=HI675.out
       have hcz66_0:=cellS72_0 HGz66
       have hcz66_1:=cellS72_1 HGz66
       have hcz66_2:=cellS72_2 HGz66
       have hfz66_1:=blk_frozen HGz66 1
       have hfz66_2:=blk_frozen HGz66 2
       clear HGz66 hgz66
       have hnb67:=NB674_675.out
       have hnc67:=NB675_674.out
       have hcz68_0:wc.cell? ⟨gb674,0,none⟩=some (.int .i64 x675000_1):=(blk_cell BK674.out 0).trans rfl
       have hcz68_1:wc.cell? ⟨gb674,1,none⟩=some (.slice none 0 0):=(blk_cell BK674.out 1).trans rfl
       have hfz68_0:=blk_frozen BK674.out 0
       have hfz68_1:=blk_frozen BK674.out 1
       go_wp2
       refine bodyPost_ret (results_ctt rfl _ _ gb674 37 #[.int .i64 0,.slice none 0 0] (0,0) _ rfl (by(with_reducible repeat(first|refine blk_drewN ?_ _|refine blk_drew ?_|refine blk_alloc ?_ _));refine blk_put (cs:= #[.int .i64 0,.slice none 0 0]) ?_ 1 _ rfl;(with_reducible repeat(first|refine blk_drewN ?_ _|refine blk_drew ?_|refine blk_alloc ?_ _));refine blk_put (cs:= #[.int .i64 x675000_1,.slice none 0 0]) ?_ 0 _ rfl;(with_reducible repeat(first|refine blk_drewN ?_ _|refine blk_drew ?_|refine blk_alloc ?_ _));exact BK674.out) Try.underlying37 rfl (by kernel_rfl)) rfl ?_
       exact⟨_,rf_,ni_,bs72_⟩
      .replace c65:=Bool.eq_false_iff.mpr c65
       subst c65
       rw[if_neg (show ¬ (false=true) by decide)]at H
       simp only[Option.some.injEq,Prod.mk.injEq]at H
       obtain⟨rfl,rfl,rfl,rfl⟩:=H
       obtain⟨ASz69_0,cSz69_0,HGz69,hgz69,HSz69_0⟩:=HI675.out
       have hcz69_0:=cellS72_0 HGz69
       have hcz69_1:=cellS72_1 HGz69
       have hcz69_2:=cellS72_2 HGz69
       have hfz69_1:=blk_frozen HGz69 1
       have hfz69_2:=blk_frozen HGz69 2
       clear HGz69 hgz69
       have hnb70:=NB674_675.out
       have hnc70:=NB675_674.out
       have hcz71_0:wc.cell? ⟨gb674,0,none⟩=some (.int .i64 x675000_1):=(blk_cell BK674.out 0).trans rfl
       have hcz71_1:wc.cell? ⟨gb674,1,none⟩=some (.slice none 0 0):=(blk_cell BK674.out 1).trans rfl
       have hfz71_0:=blk_frozen BK674.out 0
       have hfz71_1:=blk_frozen BK674.out 1
       go_wp2
       refine bodyPost_ret (results_ctt rfl _ _ gb674 37 #[.int .i64 0,.slice none 0 0] (0,0) _ rfl (by(with_reducible repeat(first|refine blk_drewN ?_ _|refine blk_drew ?_|refine blk_alloc ?_ _));refine blk_put (cs:= #[.int .i64 0,.slice none 0 0]) ?_ 1 _ rfl;(with_reducible repeat(first|refine blk_drewN ?_ _|refine blk_drew ?_|refine blk_alloc ?_ _));refine blk_put (cs:= #[.int .i64 x675000_1,.slice none 0 0]) ?_ 0 _ rfl;(with_reducible repeat(first|refine blk_drewN ?_ _|refine blk_drew ?_|refine blk_alloc ?_ _));exact BK674.out) Try.underlying37 rfl (by kernel_rfl)) rfl ?_
       exact⟨_,rf_,ni_,bs72_⟩
     subst c10
     rw[if_pos rfl]at H
     replace H:=Option.bind_eq_some_iff.mp H
     obtain⟨⟨t679,t680,t683,t684,t685⟩,A110,H⟩:=H
     try dsimp only at H
     have A11:=Aside0.mk A110
     clear A110
     by_cases c12:t683=true
     rotate_left
     .replace c12:=Bool.eq_false_iff.mpr c12
      subst c12
      rw[if_neg (show ¬ (false=true) by decide)]at H
      by_cases c46:t685=true
      .subst c46
       rw[if_pos rfl]at H
       simp only[Option.some.injEq,Prod.mk.injEq]at H
       obtain⟨rfl,rfl,rfl,rfl⟩:=H
       go_wp2_with (first|((with_reducible refine gaC_ (f:=39) rfl ?_);refine goesL_ (some 33) rfl rfl Try.func39 (by kernel_rfl) rfl #[.pointer (some ⟨gb675,0,none⟩)] rfl am_ ?_;(with_reducible refine(dragnetref13_next.calls kj6 gb675 l0 x676001_1 x676002_1 t679 t680 false t684 true w _ ?side1 ?side2 A11.out).mono ?_);(case side1=>exact isu72_ HI675.out);(case side2=>repeat(first|(with_reducible first|exact HB.out|apply pbA_|apply pbN_|apply pb1_|refine below_set ?_ (IsS72.ge HI675.out)|refine below_set ?_ GE674.out)|exact HB.out));rintro e w47 ⟨v681,rfl,ho0,hi,hb,hk⟩;refine⟨_,rfl,?_⟩;replace BK674:=Aside0.mk (KeepBut.blk hk (g':=gb674) (o:= .cells #[.int .i64 x675000_1,.slice none 0 0] 37 (0,0)) (bk_ BK674.out) NB674_675.out (by simp));have HO682:=Aside0.mk (Kd.R_lower ho0 (pbS_ bs72_));replace HB:=Aside0.mk (hb);replace HI675:=Aside0.mk (hi))|((with_reducible refine gate_dst (N:=10) rfl ?_);refine box_event ?hg (N:=10) ?hd (cs:= #[.int .i64 0,.slice none 0 0]) (t:=75) ?hr ?_;(case hd=>rfl);(case hg=>rfl);(case hr=>first|(go_simp;done)|(go_simp;rfl));intro gb686 hg w48 hbox hb;have n0_:=Aside0.mk (Kd.R_below (Kd.ru_ HO682.out) hb);have n1_:=Aside0.mk (blk_below (g:=gb674) (o:= .cells #[.int .i64 x675000_1,.slice none 0 0] 37 (0,0)) (bk_ BK674.out) hb);have n2_:=Aside0.mk (IsS72.below (isu72_ HI675.out) hb);have n3_:=Aside0.mk (below_step bs72_ hb);have n4_:=Aside0.mk (hbox);have n5_:=Aside0.mk ((by rw[hg];exact(pbS_ bs72_):w.heap.size<=gb686));have n6_:=Aside0.mk ((by rw[hg];exact(pbS_ bs72_):w.heap.size<=gb686));have n7_:=Aside0.mk ((by rw[hg];exact Nat.ne_of_lt (blk_lt (g:=gb674) (o:= .cells #[.int .i64 x675000_1,.slice none 0 0] 37 (0,0)) (bk_ BK674.out)):gb674≠gb686));have n8_:=Aside0.mk ((by rw[hg];exact Nat.ne_of_gt (blk_lt (g:=gb674) (o:= .cells #[.int .i64 x675000_1,.slice none 0 0] 37 (0,0)) (bk_ BK674.out)):gb686≠gb674));have n9_:=Aside0.mk ((by rw[hg];exact Nat.ne_of_lt (IsS72.lt (show IsS72 w _ gb675 l0 t684 true from isu72_ HI675.out)):gb675≠gb686));have n10_:=Aside0.mk ((by rw[hg];exact Nat.ne_of_gt (IsS72.lt (show IsS72 w _ gb675 l0 t684 true from isu72_ HI675.out)):gb686≠gb675));clear HO682;clear BK674;clear HI675;clear HB;have HO682:=n0_;have BK674:=n1_;have HI675:=n2_;have HB:=n3_;have BK686:=n4_;have GW686:=n5_;have GE686:=n6_;have NB674_686:=n7_;have NB686_674:=n8_;have NB675_686:=n9_;have NB686_675:=n10_;clear n0_ n1_ n2_ n3_ n4_ n5_ n6_ n7_ n8_ n9_ n10_;clear hb hbox hg;have hnb49:=NB686_674.out;have hnc49:=NB674_686.out;have hnb50:=NB686_675.out;have hnc50:=NB675_686.out;have hcz51_0:w48.cell? ⟨gb686,0,none⟩=some (.int .i64 0):=(blk_cell BK686.out 0).trans rfl;have hcz51_1:w48.cell? ⟨gb686,1,none⟩=some (.slice none 0 0):=(blk_cell BK686.out 1).trans rfl;have hfz51_0:=blk_frozen BK686.out 0;have hfz51_1:=blk_frozen BK686.out 1;obtain⟨Ao52,co52,eo52⟩:=Kd.R_slice HO682.out;subst eo52;obtain⟨ASz53_0,cSz53_0,HGz53,hgz53,HSz53_0⟩:=HI675.out;have hcz53_0:=cellS72_0 HGz53;have hcz53_1:=cellS72_1 HGz53;have hcz53_2:=cellS72_2 HGz53;have hfz53_1:=blk_frozen HGz53 1;have hfz53_2:=blk_frozen HGz53 2;clear HGz53 hgz53;have hnb54:=NB674_675.out;have hnc54:=NB675_674.out;have hcz55_0:w48.cell? ⟨gb674,0,none⟩=some (.int .i64 x675000_1):=(blk_cell BK674.out 0).trans rfl;have hcz55_1:w48.cell? ⟨gb674,1,none⟩=some (.slice none 0 0):=(blk_cell BK674.out 1).trans rfl;have hfz55_0:=blk_frozen BK674.out 0;have hfz55_1:=blk_frozen BK674.out 1))
       refine bodyPost_ret (results_ctt rfl _ _ gb674 37 #[.int .i64 0,.slice none 0 0] (0,0) _ rfl (by(with_reducible repeat(first|refine blk_drewN ?_ _|refine blk_drew ?_|refine blk_alloc ?_ _));refine blk_put (cs:= #[.int .i64 0,.slice none 0 0]) ?_ 1 _ rfl;(with_reducible repeat(first|refine blk_drewN ?_ _|refine blk_drew ?_|refine blk_alloc ?_ _));refine blk_put (cs:= #[.int .i64 x675000_1,.slice none 0 0]) ?_ 0 _ rfl;(with_reducible repeat(first|refine blk_drewN ?_ _|refine blk_drew ?_|refine blk_alloc ?_ _));refine blk_far ?_ NB674_686.out _;(with_reducible repeat(first|refine blk_drewN ?_ _|refine blk_drew ?_|refine blk_alloc ?_ _));refine blk_far ?_ NB674_686.out _;(with_reducible repeat(first|refine blk_drewN ?_ _|refine blk_drew ?_|refine blk_alloc ?_ _));exact BK674.out) Try.underlying37 rfl (by kernel_rfl)) rfl ?_
       exact⟨_,rf_,ni_,bs72_⟩
      .replace c46:=Bool.eq_false_iff.mpr c46
       subst c46
       rw[if_neg (show ¬ (false=true) by decide)]at H
       simp only[Option.some.injEq,Prod.mk.injEq]at H
       obtain⟨rfl,rfl,rfl,rfl⟩:=H
       go_wp2_with (first|((with_reducible refine gaC_ (f:=39) rfl ?_);refine goesL_ (some 33) rfl rfl Try.func39 (by kernel_rfl) rfl #[.pointer (some ⟨gb675,0,none⟩)] rfl am_ ?_;(with_reducible refine(dragnetref13_next.calls kj6 gb675 l0 x676001_1 x676002_1 t679 t680 false t684 false w _ ?side1 ?side2 A11.out).mono ?_);(case side1=>exact isu72_ HI675.out);(case side2=>repeat(first|(with_reducible first|exact HB.out|apply pbA_|apply pbN_|apply pb1_|refine below_set ?_ (IsS72.ge HI675.out)|refine below_set ?_ GE674.out)|exact HB.out));rintro e w56 ⟨v681,rfl,ho0,hi,hb,hk⟩;refine⟨_,rfl,?_⟩;replace BK674:=Aside0.mk (KeepBut.blk hk (g':=gb674) (o:= .cells #[.int .i64 x675000_1,.slice none 0 0] 37 (0,0)) (bk_ BK674.out) NB674_675.out (by simp));have HO682:=Aside0.mk (Kd.R_lower ho0 (pbS_ bs72_));replace HB:=Aside0.mk (hb);replace HI675:=Aside0.mk (hi))|((with_reducible refine gate_dst (N:=10) rfl ?_);refine box_event ?hg (N:=10) ?hd (cs:= #[.int .i64 0,.slice none 0 0]) (t:=75) ?hr ?_;(case hd=>rfl);(case hg=>rfl);(case hr=>first|(go_simp;done)|(go_simp;rfl));intro gb686 hg w57 hbox hb;have n0_:=Aside0.mk (Kd.R_below (Kd.ru_ HO682.out) hb);have n1_:=Aside0.mk (blk_below (g:=gb674) (o:= .cells #[.int .i64 x675000_1,.slice none 0 0] 37 (0,0)) (bk_ BK674.out) hb);have n2_:=Aside0.mk (IsS72.below (isu72_ HI675.out) hb);have n3_:=Aside0.mk (below_step bs72_ hb);have n4_:=Aside0.mk (hbox);have n5_:=Aside0.mk ((by rw[hg];exact(pbS_ bs72_):w.heap.size<=gb686));have n6_:=Aside0.mk ((by rw[hg];exact(pbS_ bs72_):w.heap.size<=gb686));have n7_:=Aside0.mk ((by rw[hg];exact Nat.ne_of_lt (blk_lt (g:=gb674) (o:= .cells #[.int .i64 x675000_1,.slice none 0 0] 37 (0,0)) (bk_ BK674.out)):gb674≠gb686));have n8_:=Aside0.mk ((by rw[hg];exact Nat.ne_of_gt (blk_lt (g:=gb674) (o:= .cells #[.int .i64 x675000_1,.slice none 0 0] 37 (0,0)) (bk_ BK674.out)):gb686≠gb674));have n9_:=Aside0.mk ((by rw[hg];exact Nat.ne_of_lt (IsS72.lt (show IsS72 w _ gb675 l0 t684 false from isu72_ HI675.out)):gb675≠gb686));have n10_:=Aside0.mk ((by rw[hg];exact Nat.ne_of_gt (IsS72.lt (show IsS72 w _ gb675 l0 t684 false from isu72_ HI675.out)):gb686≠gb675));clear HO682;clear BK674;clear HI675;clear HB;have HO682:=n0_;have BK674:=n1_;have HI675:=n2_;have HB:=n3_;have BK686:=n4_;have GW686:=n5_;have GE686:=n6_;have NB674_686:=n7_;have NB686_674:=n8_;have NB675_686:=n9_;have NB686_675:=n10_;clear n0_ n1_ n2_ n3_ n4_ n5_ n6_ n7_ n8_ n9_ n10_;clear hb hbox hg;have hnb58:=NB686_674.out;have hnc58:=NB674_686.out;have hnb59:=NB686_675.out;have hnc59:=NB675_686.out;have hcz60_0:w57.cell? ⟨gb686,0,none⟩=some (.int .i64 0):=(blk_cell BK686.out 0).trans rfl;have hcz60_1:w57.cell? ⟨gb686,1,none⟩=some (.slice none 0 0):=(blk_cell BK686.out 1).trans rfl;have hfz60_0:=blk_frozen BK686.out 0;have hfz60_1:=blk_frozen BK686.out 1;obtain⟨Ao61,co61,eo61⟩:=Kd.R_slice HO682.out;subst eo61;obtain⟨ASz62_0,cSz62_0,HGz62,hgz62,HSz62_0⟩:=HI675.out;have hcz62_0:=cellS72_0 HGz62;have hcz62_1:=cellS72_1 HGz62;have hcz62_2:=cellS72_2 HGz62;have hfz62_1:=blk_frozen HGz62 1;have hfz62_2:=blk_frozen HGz62 2;clear HGz62 hgz62;have hnb63:=NB674_675.out;have hnc63:=NB675_674.out;have hcz64_0:w57.cell? ⟨gb674,0,none⟩=some (.int .i64 x675000_1):=(blk_cell BK674.out 0).trans rfl;have hcz64_1:w57.cell? ⟨gb674,1,none⟩=some (.slice none 0 0):=(blk_cell BK674.out 1).trans rfl;have hfz64_0:=blk_frozen BK674.out 0;have hfz64_1:=blk_frozen BK674.out 1))
       refine bodyPost_ret (results_ctt rfl _ _ gb674 37 #[.int .i64 0,.slice none 0 0] (0,0) _ rfl (by(with_reducible repeat(first|refine blk_drewN ?_ _|refine blk_drew ?_|refine blk_alloc ?_ _));refine blk_put (cs:= #[.int .i64 0,.slice none 0 0]) ?_ 1 _ rfl;(with_reducible repeat(first|refine blk_drewN ?_ _|refine blk_drew ?_|refine blk_alloc ?_ _));refine blk_put (cs:= #[.int .i64 x675000_1,.slice none 0 0]) ?_ 0 _ rfl;(with_reducible repeat(first|refine blk_drewN ?_ _|refine blk_drew ?_|refine blk_alloc ?_ _));refine blk_far ?_ NB674_686.out _;(with_reducible repeat(first|refine blk_drewN ?_ _|refine blk_drew ?_|refine blk_alloc ?_ _));refine blk_far ?_ NB674_686.out _;(with_reducible repeat(first|refine blk_drewN ?_ _|refine blk_drew ?_|refine blk_alloc ?_ _));exact BK674.out) Try.underlying37 rfl (by kernel_rfl)) rfl ?_
       exact⟨_,rf_,ni_,bs72_⟩
     subst c12
     rw[if_pos rfl]at H
     by_cases c13:t679 < a1
     .rw[if_pos c13]at H
      have c13b0:=decide_eq_true c13
      clear c13
      have H':=Aside0.mk H
      clear H
      go_wp2_with (first|((with_reducible refine gaC_ (f:=39) rfl ?_);refine goesL_ (some 33) rfl rfl Try.func39 (by kernel_rfl) rfl #[.pointer (some ⟨gb675,0,none⟩)] rfl am_ ?_;(with_reducible refine(dragnetref13_next.calls kj6 gb675 l0 x676001_1 x676002_1 t679 t680 true t684 t685 w _ ?side1 ?side2 A11.out).mono ?_);(case side1=>exact isu72_ HI675.out);(case side2=>repeat(first|(with_reducible first|exact HB.out|apply pbA_|apply pbN_|apply pb1_|refine below_set ?_ (IsS72.ge HI675.out)|refine below_set ?_ GE674.out)|exact HB.out));rintro e w14 ⟨v681,rfl,ho0,hi,hb,hk⟩;refine⟨_,rfl,?_⟩;replace BK674:=Aside0.mk (KeepBut.blk hk (g':=gb674) (o:= .cells #[.int .i64 x675000_1,.slice none 0 0] 37 (0,0)) (bk_ BK674.out) NB674_675.out (by simp));have HO682:=Aside0.mk (Kd.R_lower ho0 (pbS_ bs72_));replace HB:=Aside0.mk (hb);replace HI675:=Aside0.mk (hi))|((with_reducible refine gate_dst (N:=10) rfl ?_);refine box_event ?hg (N:=10) ?hd (cs:= #[.int .i64 0,.slice none 0 0]) (t:=75) ?hr ?_;(case hd=>rfl);(case hg=>rfl);(case hr=>first|(go_simp;done)|(go_simp;rfl));intro gb686 hg w15 hbox hb;have n0_:=Aside0.mk (Kd.R_below (Kd.ru_ HO682.out) hb);have n1_:=Aside0.mk (blk_below (g:=gb674) (o:= .cells #[.int .i64 x675000_1,.slice none 0 0] 37 (0,0)) (bk_ BK674.out) hb);have n2_:=Aside0.mk (IsS72.below (isu72_ HI675.out) hb);have n3_:=Aside0.mk (below_step bs72_ hb);have n4_:=Aside0.mk (hbox);have n5_:=Aside0.mk ((by rw[hg];exact(pbS_ bs72_):w.heap.size<=gb686));have n6_:=Aside0.mk ((by rw[hg];exact(pbS_ bs72_):w.heap.size<=gb686));have n7_:=Aside0.mk ((by rw[hg];exact Nat.ne_of_lt (blk_lt (g:=gb674) (o:= .cells #[.int .i64 x675000_1,.slice none 0 0] 37 (0,0)) (bk_ BK674.out)):gb674≠gb686));have n8_:=Aside0.mk ((by rw[hg];exact Nat.ne_of_gt (blk_lt (g:=gb674) (o:= .cells #[.int .i64 x675000_1,.slice none 0 0] 37 (0,0)) (bk_ BK674.out)):gb686≠gb674));have n9_:=Aside0.mk ((by rw[hg];exact Nat.ne_of_lt (IsS72.lt (show IsS72 w _ gb675 l0 t684 t685 from isu72_ HI675.out)):gb675≠gb686));have n10_:=Aside0.mk ((by rw[hg];exact Nat.ne_of_gt (IsS72.lt (show IsS72 w _ gb675 l0 t684 t685 from isu72_ HI675.out)):gb686≠gb675));clear HO682;clear BK674;clear HI675;clear HB;have HO682:=n0_;have BK674:=n1_;have HI675:=n2_;have HB:=n3_;have BK686:=n4_;have GW686:=n5_;have GE686:=n6_;have NB674_686:=n7_;have NB686_674:=n8_;have NB675_686:=n9_;have NB686_675:=n10_;clear n0_ n1_ n2_ n3_ n4_ n5_ n6_ n7_ n8_ n9_ n10_;clear hb hbox hg;have hnb16:=NB686_674.out;have hnc16:=NB674_686.out;have hnb17:=NB686_675.out;have hnc17:=NB675_686.out;have hcz18_0:w15.cell? ⟨gb686,0,none⟩=some (.int .i64 0):=(blk_cell BK686.out 0).trans rfl;have hcz18_1:w15.cell? ⟨gb686,1,none⟩=some (.slice none 0 0):=(blk_cell BK686.out 1).trans rfl;have hfz18_0:=blk_frozen BK686.out 0;have hfz18_1:=blk_frozen BK686.out 1;obtain⟨Ao19,co19,eo19⟩:=Kd.R_slice HO682.out;subst eo19))
      go_roundg kj6
      case measure=>have:=HK1.out;have:=HJ6.out;omega
      case rel=>exact⟨(t679),(wrap64 (x9_1 - 32)),(x675000_1),(t684),(t685),rs_,rs_,H',⟨by have:=HK1.out;have:=HJ6.out;omega⟩,⟨by(with_reducible repeat(first|refine blk_drewN ?_ _|refine blk_drew ?_|refine blk_alloc ?_ _));refine blk_far ?_ NB674_686.out _;(with_reducible repeat(first|refine blk_drewN ?_ _|refine blk_drew ?_|refine blk_alloc ?_ _));refine blk_far ?_ NB674_686.out _;(with_reducible repeat(first|refine blk_drewN ?_ _|refine blk_drew ?_|refine blk_alloc ?_ _));exact BK674.out⟩,⟨by repeat(first|(with_reducible first|exact HI675.out|apply IsS72.alloc|apply IsS72.drewN|apply IsS72.drew|apply IsS72.set_1|apply IsS72.set_2|refine IsS72.far ?_ NB675_674.out _|refine IsS72.far ?_ NB675_686.out _)|exact HI675.out)⟩,⟨bs72_⟩⟩
     .rw[if_neg c13]at H
      have c13b0:=decide_eq_false c13
      clear c13
      obtain⟨ji20,hji20⟩:∃ j_:Int,(mn 32 x9_1)=j_:=⟨_,rfl⟩
      replace H:((dragnetref13_read.f kj6 t679 t680 (ji20) x8_1).bind fun bt687=>(if bt687.2=true then(dragnetref13_Seek.l1 kj6 a1 bt687.1 0)else(some (0,([]:List Int),0,2))))=some (r1,r2,r3,r4):=hj_ hji20 H
      have hji20_:(if x9_1 < 32 then x9_1 else 32)=ji20:=hji20
      replace H:=Option.bind_eq_some_iff.mp H
      obtain⟨⟨t687,t690⟩,A210,H⟩:=H
      try dsimp only at H
      have A21:=Aside0.mk A210
      clear A210
      by_cases c22:t690=true
      rotate_left
      .replace c22:=Bool.eq_false_iff.mpr c22
       subst c22
       rw[if_neg (show ¬ (false=true) by decide)]at H
       simp only[Option.some.injEq,Prod.mk.injEq]at H
       obtain⟨rfl,rfl,rfl,rfl⟩:=H
       go_wp2_with (first|((with_reducible refine gaC_ (f:=39) rfl ?_);refine goesL_ (some 33) rfl rfl Try.func39 (by kernel_rfl) rfl #[.pointer (some ⟨gb675,0,none⟩)] rfl am_ ?_;(with_reducible refine(dragnetref13_next.calls kj6 gb675 l0 x676001_1 x676002_1 t679 t680 true t684 t685 w _ ?side1 ?side2 A11.out).mono ?_);(case side1=>exact isu72_ HI675.out);(case side2=>repeat(first|(with_reducible first|exact HB.out|apply pbA_|apply pbN_|apply pb1_|refine below_set ?_ (IsS72.ge HI675.out)|refine below_set ?_ GE674.out)|exact HB.out));rintro e w37 ⟨v681,rfl,ho0,hi,hb,hk⟩;refine⟨_,rfl,?_⟩;replace BK674:=Aside0.mk (KeepBut.blk hk (g':=gb674) (o:= .cells #[.int .i64 x675000_1,.slice none 0 0] 37 (0,0)) (bk_ BK674.out) NB674_675.out (by simp));have HO682:=Aside0.mk (Kd.R_lower ho0 (pbS_ bs72_));replace HB:=Aside0.mk (hb);replace HI675:=Aside0.mk (hi))|((with_reducible refine gate_dst (N:=10) rfl ?_);refine box_event ?hg (N:=10) ?hd (cs:= #[.int .i64 0,.slice none 0 0]) (t:=75) ?hr ?_;(case hd=>rfl);(case hg=>rfl);(case hr=>first|(go_simp;done)|(go_simp;rfl));intro gb686 hg w38 hbox hb;have n0_:=Aside0.mk (Kd.R_below (Kd.ru_ HO682.out) hb);have n1_:=Aside0.mk (blk_below (g:=gb674) (o:= .cells #[.int .i64 x675000_1,.slice none 0 0] 37 (0,0)) (bk_ BK674.out) hb);have n2_:=Aside0.mk (IsS72.below (isu72_ HI675.out) hb);have n3_:=Aside0.mk (below_step bs72_ hb);have n4_:=Aside0.mk (hbox);have n5_:=Aside0.mk ((by rw[hg];exact(pbS_ bs72_):w.heap.size<=gb686));have n6_:=Aside0.mk ((by rw[hg];exact(pbS_ bs72_):w.heap.size<=gb686));have n7_:=Aside0.mk ((by rw[hg];exact Nat.ne_of_lt (blk_lt (g:=gb674) (o:= .cells #[.int .i64 x675000_1,.slice none 0 0] 37 (0,0)) (bk_ BK674.out)):gb674≠gb686));have n8_:=Aside0.mk ((by rw[hg];exact Nat.ne_of_gt (blk_lt (g:=gb674) (o:= .cells #[.int .i64 x675000_1,.slice none 0 0] 37 (0,0)) (bk_ BK674.out)):gb686≠gb674));have n9_:=Aside0.mk ((by rw[hg];exact Nat.ne_of_lt (IsS72.lt (show IsS72 w _ gb675 l0 t684 t685 from isu72_ HI675.out)):gb675≠gb686));have n10_:=Aside0.mk ((by rw[hg];exact Nat.ne_of_gt (IsS72.lt (show IsS72 w _ gb675 l0 t684 t685 from isu72_ HI675.out)):gb686≠gb675));clear HO682;clear BK674;clear HI675;clear HB;have HO682:=n0_;have BK674:=n1_;have HI675:=n2_;have HB:=n3_;have BK686:=n4_;have GW686:=n5_;have GE686:=n6_;have NB674_686:=n7_;have NB686_674:=n8_;have NB675_686:=n9_;have NB686_675:=n10_;clear n0_ n1_ n2_ n3_ n4_ n5_ n6_ n7_ n8_ n9_ n10_;clear hb hbox hg;have hnb39:=NB686_674.out;have hnc39:=NB674_686.out;have hnb40:=NB686_675.out;have hnc40:=NB675_686.out;have hcz41_0:w38.cell? ⟨gb686,0,none⟩=some (.int .i64 0):=(blk_cell BK686.out 0).trans rfl;have hcz41_1:w38.cell? ⟨gb686,1,none⟩=some (.slice none 0 0):=(blk_cell BK686.out 1).trans rfl;have hfz41_0:=blk_frozen BK686.out 0;have hfz41_1:=blk_frozen BK686.out 1;obtain⟨Ao42,co42,eo42⟩:=Kd.R_slice HO682.out;subst eo42)|((with_reducible refine gaC_ (f:=40) rfl ?_);refine goesL_ (some 49) rfl rfl Try.func40 (by kernel_rfl) rfl #[.agg #[.int .i64 t679,.slice Ao42 t680.length co42],.int .i64 ji20,.int .i64 x8_1] rfl (by(try simp only[List.map_toArray,List.map_cons,List.map_nil]);first|done|(simp only[hji20];rfl)|rfl|(simp only[List.length_drop,List.length_take];rfl)) ?_;(with_reducible refine(dragnetref13_read.calls kj6 t679 _ _ t680 ji20 x8_1 t687 false _ ?side1 ?side2 A21.out).mono ?_);(case side1=>refine(Kd.R_reads' (e:=5) (base:=w.heap.size) (ok:=fun k_=>True) (n:=t680.length) (c:=co42) ?_).2.2;exact(by(with_reducible repeat(first|apply Kd.rA_|apply Kd.rN_|apply Kd.rD_));exact(Kd.R_mono (Kd.R_far (p:=⟨gb686,1,none⟩) (Kd.R_far (p:=⟨gb686,0,none⟩) (Kd.R_types HO682.out BK686.out (by decide)) (fun _ hk=>hk.2) (.int .i64 t679)) (fun _ hk=>hk.2) (.slice Ao42 t680.length co42)) (fun _ h_=>h_.1))));(case side2=>exact(Kd.R_reads' HO682.out).2.1);rintro e w43 ⟨v688,rfl,ho0,hb⟩;refine⟨_,rfl,?_⟩;have n0_:=Aside0.mk (Kd.R_below (by(with_reducible repeat(first|apply Kd.rA_|apply Kd.rN_|apply Kd.rD_));exact(Kd.R_mono (Kd.R_far (p:=⟨gb686,1,none⟩) (Kd.R_far (p:=⟨gb686,0,none⟩) (Kd.R_types HO682.out BK686.out (by decide)) (fun _ hk=>hk.2) (.int .i64 t679)) (fun _ hk=>hk.2) (.slice Ao42 t680.length co42)) (fun _ h_=>h_.1))) hb);have n1_:=Aside0.mk (Kd.S_lower (Kd.S_newB ho0 (g:=gb674) (o:= .cells #[.int .i64 x675000_1,.slice none 0 0] 37 (0,0)) (by(with_reducible repeat(first|refine blk_drewN ?_ _|refine blk_drew ?_|refine blk_alloc ?_ _));refine blk_far ?_ NB674_686.out _;(with_reducible repeat(first|refine blk_drewN ?_ _|refine blk_drew ?_|refine blk_alloc ?_ _));refine blk_far ?_ NB674_686.out _;(with_reducible repeat(first|refine blk_drewN ?_ _|refine blk_drew ?_|refine blk_alloc ?_ _));exact BK674.out)) (pbS_ bs72_));have n2_:=Aside0.mk (blk_below (g:=gb674) (o:= .cells #[.int .i64 x675000_1,.slice none 0 0] 37 (0,0)) (by(with_reducible repeat(first|refine blk_drewN ?_ _|refine blk_drew ?_|refine blk_alloc ?_ _));refine blk_far ?_ NB674_686.out _;(with_reducible repeat(first|refine blk_drewN ?_ _|refine blk_drew ?_|refine blk_alloc ?_ _));refine blk_far ?_ NB674_686.out _;(with_reducible repeat(first|refine blk_drewN ?_ _|refine blk_drew ?_|refine blk_alloc ?_ _));exact BK674.out) hb);have n3_:=Aside0.mk (IsS72.below (show IsS72 w ((w38.setCell ⟨gb686,0,none⟩ (.int .i64 t679)).setCell ⟨gb686,1,none⟩ (.slice Ao42 t680.length co42)) gb675 l0 t684 t685 from isu72_ HI675.out) hb);have n4_:=Aside0.mk (blk_below (g:=gb686) (o:= .cells #[.int .i64 t679,.slice Ao42 t680.length co42] 75 (0,0)) (by(with_reducible repeat(first|refine blk_drewN ?_ _|refine blk_drew ?_|refine blk_alloc ?_ _));refine blk_put (cs:= #[.int .i64 t679,.slice none 0 0]) ?_ 1 _ rfl;(with_reducible repeat(first|refine blk_drewN ?_ _|refine blk_drew ?_|refine blk_alloc ?_ _));refine blk_put (cs:= #[.int .i64 0,.slice none 0 0]) ?_ 0 _ rfl;(with_reducible repeat(first|refine blk_drewN ?_ _|refine blk_drew ?_|refine blk_alloc ?_ _));exact BK686.out) hb);have n5_:=Aside0.mk (below_step bs72_ hb);clear HO682;clear BK674;clear HI675;clear BK686;clear HB;have HO682:=n0_;have HO689:=n1_;have BK674:=n2_;have HI675:=n3_;have BK686:=n4_;have HB:=n5_;clear n0_ n1_ n2_ n3_ n4_ n5_;have hnb44:=NB674_675.out;have hnc44:=NB675_674.out;have hcz45_0:w43.cell? ⟨gb674,0,none⟩=some (.int .i64 x675000_1):=(blk_cell BK674.out 0).trans rfl;have hcz45_1:w43.cell? ⟨gb674,1,none⟩=some (.slice none 0 0):=(blk_cell BK674.out 1).trans rfl;have hfz45_0:=blk_frozen BK674.out 0;have hfz45_1:=blk_frozen BK674.out 1))
       refine bodyPost_ret (results_ctt rfl _ _ gb674 37 #[.int .i64 0,.slice none 0 0] (0,0) _ rfl (by(with_reducible repeat(first|refine blk_drewN ?_ _|refine blk_drew ?_|refine blk_alloc ?_ _));refine blk_put (cs:= #[.int .i64 0,.slice none 0 0]) ?_ 1 _ rfl;(with_reducible repeat(first|refine blk_drewN ?_ _|refine blk_drew ?_|refine blk_alloc ?_ _));refine blk_put (cs:= #[.int .i64 x675000_1,.slice none 0 0]) ?_ 0 _ rfl;(with_reducible repeat(first|refine blk_drewN ?_ _|refine blk_drew ?_|refine blk_alloc ?_ _));exact BK674.out) Try.underlying37 rfl (by kernel_rfl)) rfl ?_
       exact⟨_,by first|rfl|(simp[eWn_,eWs_]<;>rfl)|(simp only[<- hji20];first|rfl|(simp[eWn_,eWs_]<;>rfl))|(simp[*,eWn_,eWs_]<;>rfl),ni_,bs72_⟩
      subst c22
      rw[if_pos rfl]at H
      have H':=Aside0.mk H
      clear H
      go_wp2_with (first|((with_reducible refine gaC_ (f:=39) rfl ?_);refine goesL_ (some 33) rfl rfl Try.func39 (by kernel_rfl) rfl #[.pointer (some ⟨gb675,0,none⟩)] rfl am_ ?_;(with_reducible refine(dragnetref13_next.calls kj6 gb675 l0 x676001_1 x676002_1 t679 t680 true t684 t685 w _ ?side1 ?side2 A11.out).mono ?_);(case side1=>exact isu72_ HI675.out);(case side2=>repeat(first|(with_reducible first|exact HB.out|apply pbA_|apply pbN_|apply pb1_|refine below_set ?_ (IsS72.ge HI675.out)|refine below_set ?_ GE674.out)|exact HB.out));rintro e w23 ⟨v681,rfl,ho0,hi,hb,hk⟩;refine⟨_,rfl,?_⟩;replace BK674:=Aside0.mk (KeepBut.blk hk (g':=gb674) (o:= .cells #[.int .i64 x675000_1,.slice none 0 0] 37 (0,0)) (bk_ BK674.out) NB674_675.out (by simp));have HO682:=Aside0.mk (Kd.R_lower ho0 (pbS_ bs72_));replace HB:=Aside0.mk (hb);replace HI675:=Aside0.mk (hi))|((with_reducible refine gate_dst (N:=10) rfl ?_);refine box_event ?hg (N:=10) ?hd (cs:= #[.int .i64 0,.slice none 0 0]) (t:=75) ?hr ?_;(case hd=>rfl);(case hg=>rfl);(case hr=>first|(go_simp;done)|(go_simp;rfl));intro gb686 hg w24 hbox hb;have n0_:=Aside0.mk (Kd.R_below (Kd.ru_ HO682.out) hb);have n1_:=Aside0.mk (blk_below (g:=gb674) (o:= .cells #[.int .i64 x675000_1,.slice none 0 0] 37 (0,0)) (bk_ BK674.out) hb);have n2_:=Aside0.mk (IsS72.below (isu72_ HI675.out) hb);have n3_:=Aside0.mk (below_step bs72_ hb);have n4_:=Aside0.mk (hbox);have n5_:=Aside0.mk ((by rw[hg];exact(pbS_ bs72_):w.heap.size<=gb686));have n6_:=Aside0.mk ((by rw[hg];exact(pbS_ bs72_):w.heap.size<=gb686));have n7_:=Aside0.mk ((by rw[hg];exact Nat.ne_of_lt (blk_lt (g:=gb674) (o:= .cells #[.int .i64 x675000_1,.slice none 0 0] 37 (0,0)) (bk_ BK674.out)):gb674≠gb686));have n8_:=Aside0.mk ((by rw[hg];exact Nat.ne_of_gt (blk_lt (g:=gb674) (o:= .cells #[.int .i64 x675000_1,.slice none 0 0] 37 (0,0)) (bk_ BK674.out)):gb686≠gb674));have n9_:=Aside0.mk ((by rw[hg];exact Nat.ne_of_lt (IsS72.lt (show IsS72 w _ gb675 l0 t684 t685 from isu72_ HI675.out)):gb675≠gb686));have n10_:=Aside0.mk ((by rw[hg];exact Nat.ne_of_gt (IsS72.lt (show IsS72 w _ gb675 l0 t684 t685 from isu72_ HI675.out)):gb686≠gb675));clear HO682;clear BK674;clear HI675;clear HB;have HO682:=n0_;have BK674:=n1_;have HI675:=n2_;have HB:=n3_;have BK686:=n4_;have GW686:=n5_;have GE686:=n6_;have NB674_686:=n7_;have NB686_674:=n8_;have NB675_686:=n9_;have NB686_675:=n10_;clear n0_ n1_ n2_ n3_ n4_ n5_ n6_ n7_ n8_ n9_ n10_;clear hb hbox hg;have hnb25:=NB686_674.out;have hnc25:=NB674_686.out;have hnb26:=NB686_675.out;have hnc26:=NB675_686.out;have hcz27_0:w24.cell? ⟨gb686,0,none⟩=some (.int .i64 0):=(blk_cell BK686.out 0).trans rfl;have hcz27_1:w24.cell? ⟨gb686,1,none⟩=some (.slice none 0 0):=(blk_cell BK686.out 1).trans rfl;have hfz27_0:=blk_frozen BK686.out 0;have hfz27_1:=blk_frozen BK686.out 1;obtain⟨Ao28,co28,eo28⟩:=Kd.R_slice HO682.out;subst eo28)|((with_reducible refine gaC_ (f:=40) rfl ?_);refine goesL_ (some 49) rfl rfl Try.func40 (by kernel_rfl) rfl #[.agg #[.int .i64 t679,.slice Ao28 t680.length co28],.int .i64 ji20,.int .i64 x8_1] rfl (by(try simp only[List.map_toArray,List.map_cons,List.map_nil]);first|done|(simp only[hji20];rfl)|rfl|(simp only[List.length_drop,List.length_take];rfl)) ?_;(with_reducible refine(dragnetref13_read.calls kj6 t679 _ _ t680 ji20 x8_1 t687 true _ ?side1 ?side2 A21.out).mono ?_);(case side1=>refine(Kd.R_reads' (e:=5) (base:=w.heap.size) (ok:=fun k_=>True) (n:=t680.length) (c:=co28) ?_).2.2;exact(by(with_reducible repeat(first|apply Kd.rA_|apply Kd.rN_|apply Kd.rD_));exact(Kd.R_mono (Kd.R_far (p:=⟨gb686,1,none⟩) (Kd.R_far (p:=⟨gb686,0,none⟩) (Kd.R_types HO682.out BK686.out (by decide)) (fun _ hk=>hk.2) (.int .i64 t679)) (fun _ hk=>hk.2) (.slice Ao28 t680.length co28)) (fun _ h_=>h_.1))));(case side2=>exact(Kd.R_reads' HO682.out).2.1);rintro e w29 ⟨v688,rfl,ho0,hb⟩;refine⟨_,rfl,?_⟩;have n0_:=Aside0.mk (Kd.R_below (by(with_reducible repeat(first|apply Kd.rA_|apply Kd.rN_|apply Kd.rD_));exact(Kd.R_mono (Kd.R_far (p:=⟨gb686,1,none⟩) (Kd.R_far (p:=⟨gb686,0,none⟩) (Kd.R_types HO682.out BK686.out (by decide)) (fun _ hk=>hk.2) (.int .i64 t679)) (fun _ hk=>hk.2) (.slice Ao28 t680.length co28)) (fun _ h_=>h_.1))) hb);have n1_:=Aside0.mk (Kd.S_lower (Kd.S_newB ho0 (g:=gb674) (o:= .cells #[.int .i64 x675000_1,.slice none 0 0] 37 (0,0)) (by(with_reducible repeat(first|refine blk_drewN ?_ _|refine blk_drew ?_|refine blk_alloc ?_ _));refine blk_far ?_ NB674_686.out _;(with_reducible repeat(first|refine blk_drewN ?_ _|refine blk_drew ?_|refine blk_alloc ?_ _));refine blk_far ?_ NB674_686.out _;(with_reducible repeat(first|refine blk_drewN ?_ _|refine blk_drew ?_|refine blk_alloc ?_ _));exact BK674.out)) (pbS_ bs72_));have n2_:=Aside0.mk (blk_below (g:=gb674) (o:= .cells #[.int .i64 x675000_1,.slice none 0 0] 37 (0,0)) (by(with_reducible repeat(first|refine blk_drewN ?_ _|refine blk_drew ?_|refine blk_alloc ?_ _));refine blk_far ?_ NB674_686.out _;(with_reducible repeat(first|refine blk_drewN ?_ _|refine blk_drew ?_|refine blk_alloc ?_ _));refine blk_far ?_ NB674_686.out _;(with_reducible repeat(first|refine blk_drewN ?_ _|refine blk_drew ?_|refine blk_alloc ?_ _));exact BK674.out) hb);have n3_:=Aside0.mk (IsS72.below (show IsS72 w ((w24.setCell ⟨gb686,0,none⟩ (.int .i64 t679)).setCell ⟨gb686,1,none⟩ (.slice Ao28 t680.length co28)) gb675 l0 t684 t685 from isu72_ HI675.out) hb);have n4_:=Aside0.mk (blk_below (g:=gb686) (o:= .cells #[.int .i64 t679,.slice Ao28 t680.length co28] 75 (0,0)) (by(with_reducible repeat(first|refine blk_drewN ?_ _|refine blk_drew ?_|refine blk_alloc ?_ _));refine blk_put (cs:= #[.int .i64 t679,.slice none 0 0]) ?_ 1 _ rfl;(with_reducible repeat(first|refine blk_drewN ?_ _|refine blk_drew ?_|refine blk_alloc ?_ _));refine blk_put (cs:= #[.int .i64 0,.slice none 0 0]) ?_ 0 _ rfl;(with_reducible repeat(first|refine blk_drewN ?_ _|refine blk_drew ?_|refine blk_alloc ?_ _));exact BK686.out) hb);have n5_:=Aside0.mk (below_step bs72_ hb);clear HO682;clear BK674;clear HI675;clear BK686;clear HB;have HO682:=n0_;have HO689:=n1_;have BK674:=n2_;have HI675:=n3_;have BK686:=n4_;have HB:=n5_;clear n0_ n1_ n2_ n3_ n4_ n5_))
      go_loopg [14] kj6 (fun kq v14 w'=>∃ (x14_3:Int),v14= .int .i64 x14_3∧Aside0 (dragnetref13_Seek.l1 kq a1 t687 x14_3=some (r1,r2,r3,r4))∧Aside0 (kq<=kj6)∧Aside0 (Kd.S k37 37 w' w.heap.size (fun k_=>k_≠gb674) v688 t687)∧Aside0 (Kd.R (Kd.int .u8) 5 w' w.heap.size (fun _=>True) (.slice Ao28 t680.length co28) t680)∧Aside0 (w'.heap[gb674]? =some (.cells #[.int .i64 x675000_1,(.slice none 0 0)] 37 (0,0)))∧Aside0 (w'.heap[gb686]? =some (.cells #[.int .i64 t679,(.slice Ao28 t680.length co28)] 75 (0,0)))∧Aside0 (Below w.heap.size w w'))
      case atStart=>exact⟨(0),rs_,H',⟨Nat.le_refl _⟩,⟨by(with_reducible repeat(first|apply Kd.S_alloc|apply Kd.S_drewN|apply Kd.S_drew));exact Kd.S_mono HO689.out (fun _ hk=>hk.2)⟩,⟨Kd.ru_ HO682.out⟩,⟨bk_ BK674.out⟩,⟨bk_ BK686.out⟩,⟨bs72_⟩⟩
      case round=>
       clear H'
       clear c13b0
       clear hcz27_0 hcz27_1
       clear hfz27_0 hfz27_1
       obtain⟨x14_3,rfl,HA,HK3,HO_12,HO_687001,BK674,BK686,HB⟩:=hrel
       cases gk with
       |zero=>exact absurd HA.out (by simp[dragnetref13_Seek.l1])
       |succ k3=>
        have H:=HA.out
        clear HA
        simp only[dragnetref13_Seek.l1]at H
        by_cases c30:0<=x14_3
        rotate_left
        .rw[if_neg c30]at H
         cases H
        rw[if_pos c30]at H
        have c30b0:=decide_eq_true c30
        clear c30
        by_cases c31:x14_3 < (t687.length:Int)
        rotate_left
        .rw[if_neg c31]at H
         cases H
        rw[if_pos c31]at H
        have c31b0:=decide_eq_true c31
        clear c31
        by_cases c32:((rd_T37 t687 x14_3).f0) < a1
        .rw[if_pos c32]at H
         have c32b0:=decide_eq_true c32
         clear c32
         have H':=Aside0.mk H
         clear H
         obtain⟨Ao33,co33,eo33⟩:=Kd.S_slice HO_12.out
         subst eo33
         have p691:0<=(x14_3:Int):=od_
         have q691:x14_3 < (t687.length:Int):=od_
         obtain⟨ad691,A691_1,c691_1,e691,hx691_0,hx691_1,hl691_1,hi691_1⟩:=at_T37 (Kd.S_reads' HO_12.out).2.2 x14_3 p691 q691
         cases e691
         obtain⟨ce691,hce691,hMe691,hcc691⟩:=Kd.S_get HO_12.out z37 x14_3 p691 (by first|exact q691|exact od_|(have e_:=(Kd.S_reads' HO_12.out).1;omega))
         obtain⟨ve691_1,rfl,ge691_1⟩:=k37_openM hMe691
         have hv691_1:=hcc691 1 _ rfl
         rw[add_field _ _ 1 (by omega)]at hv691_1
         replace hv691_1:=Option.some.inj (hv691_1.symm.trans hx691_1)
         rw[hv691_1]at ge691_1
         have HL691_1:=Aside0.mk (show Kd.R (Kd.int .i64) 3 _ _ _ _ ((rd_T37 t687 x14_3).f1) from ge691_1)
         clear hv691_1 ge691_1
         clear hcc691 hce691
         have HR691_1:=Aside0.mk hi691_1
         have HC691_1:=Aside0.mk hl691_1
         clear hi691_1 hl691_1
         replace p691:=eq_true p691
         replace q691:=eq_true q691
         go_wp2
         go_roundg k3
         case measure=>have:=HK1.out;have:=HJ6.out;have:=HK3.out;omega
         case rel=>exact⟨(wrap64 (x14_3+1)),rs_,H',⟨by have:=HK1.out;have:=HJ6.out;have:=HK3.out;omega⟩,⟨Kd.su_ HO_12.out⟩,⟨Kd.ru_ HO_687001.out⟩,⟨bk_ BK674.out⟩,⟨bk_ BK686.out⟩,⟨bs_⟩⟩
        .rw[if_neg c32]at H
         have c32b0:=decide_eq_false c32
         clear c32
         simp only[Option.some.injEq,Prod.mk.injEq]at H
         obtain⟨rfl,rfl,rfl,rfl⟩:=H
         obtain⟨Ao34,co34,eo34⟩:=Kd.S_slice HO_12.out
         subst eo34
         have p691:0<=(x14_3:Int):=od_
         have q691:x14_3 < (t687.length:Int):=od_
         obtain⟨ad691,A691_1,c691_1,e691,hx691_0,hx691_1,hl691_1,hi691_1⟩:=at_T37 (Kd.S_reads' HO_12.out).2.2 x14_3 p691 q691
         cases e691
         obtain⟨ce691,hce691,hMe691,hcc691⟩:=Kd.S_get HO_12.out z37 x14_3 p691 (by first|exact q691|exact od_|(have e_:=(Kd.S_reads' HO_12.out).1;omega))
         obtain⟨ve691_1,rfl,ge691_1⟩:=k37_openM hMe691
         have hv691_1:=hcc691 1 _ rfl
         rw[add_field _ _ 1 (by omega)]at hv691_1
         replace hv691_1:=Option.some.inj (hv691_1.symm.trans hx691_1)
         rw[hv691_1]at ge691_1
         have HL691_1:=Aside0.mk (show Kd.R (Kd.int .i64) 3 _ _ _ _ ((rd_T37 t687 x14_3).f1) from ge691_1)
         clear hv691_1 ge691_1
         clear hcc691 hce691
         have HR691_1:=Aside0.mk hi691_1
         have HC691_1:=Aside0.mk hl691_1
         clear hi691_1 hl691_1
         replace p691:=eq_true p691
         replace q691:=eq_true q691
         have p692:0<=(x14_3:Int):=od_
         have q692:x14_3 < (t687.length:Int):=od_
         obtain⟨ad692,A692_1,c692_1,e692,hx692_0,hx692_1,hl692_1,hi692_1⟩:=at_T37 (Kd.S_reads' HO_12.out).2.2 x14_3 p692 q692
         obtain rfl:ad691=ad692:=(by injection e692)
         obtain⟨ce692,hce692,hMe692,hcc692⟩:=Kd.S_get HO_12.out z37 x14_3 p692 (by first|exact q692|exact od_|(have e_:=(Kd.S_reads' HO_12.out).1;omega))
         obtain⟨ve692_1,rfl,ge692_1⟩:=k37_openM hMe692
         have hv692_1:=hcc692 1 _ rfl
         rw[add_field _ _ 1 (by omega)]at hv692_1
         replace hv692_1:=Option.some.inj (hv692_1.symm.trans hx692_1)
         rw[hv692_1]at ge692_1
         have HL692_1:=Aside0.mk (show Kd.R (Kd.int .i64) 3 _ _ _ _ ((rd_T37 t687 x14_3).f1) from ge692_1)
         clear hv692_1 ge692_1
         clear hcc692 hce692
         have HR692_1:=Aside0.mk hi692_1
         have HC692_1:=Aside0.mk hl692_1
         clear hi692_1 hl692_1
         replace p692:=eq_true p692
         replace q692:=eq_true q692
         have ea_:=Option.some.inj (hx691_1.symm.trans hx692_1)
         injection ea_ with ea_ en_ ec_
         subst ea_
         subst ec_
         clear en_
         have hnb35:=NB674_686.out
         have hnc35:=NB686_674.out
         have hcz36_0:wr.cell? ⟨gb674,0,none⟩=some (.int .i64 x675000_1):=(blk_cell BK674.out 0).trans rfl
         have hcz36_1:wr.cell? ⟨gb674,1,none⟩=some (.slice none 0 0):=(blk_cell BK674.out 1).trans rfl
         have hfz36_0:=blk_frozen BK674.out 0
         have hfz36_1:=blk_frozen BK674.out 1
         go_wp2
         refine bodyPost_ret (results_ctt rfl _ _ gb674 37 #[.int .i64 ((rd_T37 t687 x14_3).f0),.slice A691_1 ((rd_T37 t687 x14_3).f1).length c691_1] (0,0) _ rfl (by(with_reducible repeat(first|refine blk_drewN ?_ _|refine blk_drew ?_|refine blk_alloc ?_ _));refine blk_put (cs:= #[.int .i64 ((rd_T37 t687 x14_3).f0),.slice none 0 0]) ?_ 1 _ rfl;(with_reducible repeat(first|refine blk_drewN ?_ _|refine blk_drew ?_|refine blk_alloc ?_ _));refine blk_put (cs:= #[.int .i64 x675000_1,.slice none 0 0]) ?_ 0 _ rfl;(with_reducible repeat(first|refine blk_drewN ?_ _|refine blk_drew ?_|refine blk_alloc ?_ _));exact BK674.out) Try.underlying37 rfl (by kernel_rfl)) rfl ?_
         exact⟨_,by first|rfl|(simp[eWn_,eWs_]<;>rfl)|(simp only[<- hji20];first|rfl|(simp[eWn_,eWs_]<;>rfl))|(simp[*,eWn_,eWs_]<;>rfl),by(with_reducible repeat(first|apply Kd.rA_|apply Kd.rN_|apply Kd.rD_));exact Kd.R_mono (Kd.R_far (p:=⟨gb674,1,none⟩) (Kd.R_far (p:=⟨gb674,0,none⟩) (Kd.R_types HL692_1.out BK674.out (by decide)) (fun _ hk=>hk.2) (.int .i64 ((rd_T37 t687 x14_3).f0))) (fun _ hk=>hk.2) (.slice A691_1 ((rd_T37 t687 x14_3).f1).length c691_1)) (fun _ hk=>trivial),bs_⟩
noncomputable def dragnetlaw13_PostSeeks.f (k:Nat) (l0:List Int) (a1:Int):Option (Bool):=(dragnetlaw13_alive.f k).bind fun t693=>(if t693=true then(if(l0.length:Int) > 2000 then(some true)else((post_Seek.f k l0 a1).bind fun bt694=>((dragnetref13_Seek.f k l0 a1).bind fun bt701=>((dragnetref13_SamePost.f k bt694.1 bt694.2.1 bt701.1 bt701.2.1).bind fun t708=>(if t708=true then(if bt694.2.2.1=bt701.2.2.1 then(some (bt694.2.2.2==bt701.2.2.2))else(some false))else(some false))))))else(some false))
theorem dragnetlaw13_PostSeeks.mono:∀ a0 a1 k,LeO (dragnetlaw13_PostSeeks.f k a0 a1) (dragnetlaw13_PostSeeks.f (k+1) a0 a1):=by
 intro a0 a1 k
 unfold dragnetlaw13_PostSeeks.f
 repeat' first
   |(with_reducible exact dragnetlaw13_alive.mono _)
   |(with_reducible exact dragnetref13_SamePost.mono _ _ _ _ _)
   |(with_reducible exact dragnetref13_Seek.mono _ _ _)
   |(with_reducible exact post_Seek.mono _ _ _)
   |(with_reducible exact LeO.refl _)
   |(with_reducible exact LeO.none _)
   |(with_reducible refine LeO.ite ?_ ?_)
   |(with_reducible refine LeO.bind ?_ (fun _=>?_))
set_option maxHeartbeats 8000000 in
set_option maxRecDepth 100000 in
theorem dragnetlaw13_PostSeeks.calls (k:Nat) (A0:Option Addr) (c0:Nat) (l0:List Int) (a1:Int) (r:Bool) (w:World) (hr0:Kd.C (Kd.int .u8) w A0 l0.length l0) (hc0:l0.length<=c0) (h:dragnetlaw13_PostSeeks.f k l0 a1=some r) (hr_:Aside0 (r=true)):
  Calls Try.prog 4 #[.slice A0 l0.length c0,.int .i64 a1] w fun e w'=>e= .returned (.bool r)∧Below w.heap.size w w':=by
 have hu37:=Try.underlying37
 have HR0:=Aside0.mk hr0
 have HC0:=Aside0.mk hc0
 clear hr0 hc0
 have HB:=Aside0.mk (Below.refl w.heap.size w)
 have H:((dragnetlaw13_alive.f k).bind fun t693=>(if t693=true then(if(l0.length:Int) > 2000 then(some true)else((post_Seek.f k l0 a1).bind fun bt694=>((dragnetref13_Seek.f k l0 a1).bind fun bt701=>((dragnetref13_SamePost.f k bt694.1 bt694.2.1 bt701.1 bt701.2.1).bind fun t708=>(if t708=true then(if bt694.2.2.1=bt701.2.2.1 then(some (bt694.2.2.2==bt701.2.2.2))else(some false))else(some false))))))else(some false)))=some r:=h
 clear h
 replace H:=Option.bind_eq_some_iff.mp H
 obtain⟨t693,A30,H⟩:=H
 try dsimp only at H
 have A3:=Aside0.mk A30
 clear A30
 by_cases c4:t693=true
 rotate_left
 .replace c4:=Bool.eq_false_iff.mpr c4
  subst c4
  rw[if_neg (show ¬ (false=true) by decide)]at H
  obtain rfl:=Option.some.inj H
  cases hr_.out
 subst c4
 rw[if_pos rfl]at H
 by_cases c5:(l0.length:Int) > 2000
 .rw[if_pos c5]at H
  have c5b0:=decide_eq_true c5
  have c5b1:decide (2000 < l0.length)=true:=decide_eq_true (by omega)
  clear c5
  obtain rfl:=Option.some.inj H
  go_enter Try.func4,Try.ntmps4
  go_wp2_with (first|((with_reducible refine gaC_ (f:=9) rfl ?_);refine goesL_ (some 11) rfl rfl Try.func9 (by kernel_rfl) rfl #[] rfl am_ ?_;(with_reducible refine(dragnetlaw13_alive.calls k true _ A3.out ⟨rfl⟩).mono ?_);rintro e w6 ⟨rfl,hb⟩;refine⟨_,rfl,?_⟩;replace HB:=Aside0.mk (below_step bw_ hb)))
  go_ret
  exact⟨rf_,bw_⟩
 .rw[if_neg c5]at H
  have c5b0:=decide_eq_false c5
  have c5b1:decide (2000 < l0.length)=false:=decide_eq_false (by omega)
  clear c5
  replace H:=Option.bind_eq_some_iff.mp H
  obtain⟨⟨t694,t695,t698,t699⟩,A70,H⟩:=H
  try dsimp only at H
  have A7:=Aside0.mk A70
  clear A70
  replace H:=Option.bind_eq_some_iff.mp H
  obtain⟨⟨t701,t702,t705,t706⟩,A80,H⟩:=H
  try dsimp only at H
  have A8:=Aside0.mk A80
  clear A80
  replace H:=Option.bind_eq_some_iff.mp H
  obtain⟨t708,A90,H⟩:=H
  try dsimp only at H
  have A9:=Aside0.mk A90
  clear A90
  by_cases c10:t708=true
  rotate_left
  .replace c10:=Bool.eq_false_iff.mpr c10
   subst c10
   rw[if_neg (show ¬ (false=true) by decide)]at H
   obtain rfl:=Option.some.inj H
   cases hr_.out
  subst c10
  rw[if_pos rfl]at H
  by_cases c11:t698=t705
  rotate_left
  .rw[if_neg c11]at H
   have c11b0:=beq_eq_false_iff_ne.mpr c11
   have c11b1:=bne_iff_ne.mpr c11
   obtain rfl:=Option.some.inj H
   cases hr_.out
  rw[if_pos c11]at H
  have c11b0:=beq_iff_eq.mpr c11
  have c11b1:=bne_eq_false_iff_eq.mpr c11
  clear c11
  obtain rfl:=Option.some.inj H
  go_enter Try.func4,Try.ntmps4
  go_wp2_with (first|((with_reducible refine gaC_ (f:=9) rfl ?_);refine goesL_ (some 11) rfl rfl Try.func9 (by kernel_rfl) rfl #[] rfl am_ ?_;(with_reducible refine(dragnetlaw13_alive.calls k true _ A3.out ⟨rfl⟩).mono ?_);rintro e w12 ⟨rfl,hb⟩;refine⟨_,rfl,?_⟩;replace HB:=Aside0.mk (below_step bw_ hb))|((with_reducible refine gaC_ (f:=19) rfl ?_);refine goesL_ (some 19) rfl rfl Try.func19 (by kernel_rfl) rfl #[.slice A0 l0.length c0,.int .i64 a1] rfl am_ ?_;(with_reducible refine(post_Seek.calls k _ _ l0 a1 t694 t695 t698 t699 _ ?side1 ?side2 A7.out).mono ?_);(case side1=>exact Kd.cu_ (Kd.C_below HR0.out HB.out));(case side2=>exact HC0.out);rintro e w13 ⟨v696,rfl,ho0,hb⟩;refine⟨_,rfl,?_⟩;have HO697:=Aside0.mk (Kd.R_lower ho0 (pbS_ bw_));replace HB:=Aside0.mk (below_step bw_ hb))|((with_reducible refine gate_dst (N:=5) rfl ?_);refine box_event ?hg (N:=5) ?hd (cs:= #[.int .i64 0,.slice none 0 0]) (t:=37) ?hr ?_;(case hd=>rfl);(case hg=>rfl);(case hr=>first|(go_simp;done)|(go_simp;rfl));intro gb700 hg w14 hbox hb;have n0_:=Aside0.mk (Kd.R_below (Kd.ru_ HO697.out) hb);have n1_:=Aside0.mk (below_step bw_ hb);have n2_:=Aside0.mk (hbox);have n3_:=Aside0.mk ((by rw[hg];exact(pbS_ bw_):w.heap.size<=gb700));have n4_:=Aside0.mk ((by rw[hg];exact(pbS_ bw_):w.heap.size<=gb700));clear HO697;clear HB;have HO697:=n0_;have HB:=n1_;have BK700:=n2_;have GW700:=n3_;have GE700:=n4_;clear n0_ n1_ n2_ n3_ n4_;clear hb hbox hg;have hcz15_0:w14.cell? ⟨gb700,0,none⟩=some (.int .i64 0):=(blk_cell BK700.out 0).trans rfl;have hcz15_1:w14.cell? ⟨gb700,1,none⟩=some (.slice none 0 0):=(blk_cell BK700.out 1).trans rfl;have hfz15_0:=blk_frozen BK700.out 0;have hfz15_1:=blk_frozen BK700.out 1;obtain⟨Ao16,co16,eo16⟩:=Kd.R_slice HO697.out;subst eo16)|((with_reducible refine gaC_ (f:=20) rfl ?_);refine goesL_ (some 26) rfl rfl Try.func20 (by kernel_rfl) rfl #[.slice A0 l0.length c0,.int .i64 a1] rfl am_ ?_;(with_reducible refine(dragnetref13_Seek.calls k _ _ l0 a1 t701 t702 t705 t706 _ ?side1 ?side2 A8.out).mono ?_);(case side1=>exact Kd.C_below HR0.out bs_);(case side2=>exact HC0.out);rintro e w17 ⟨v703,rfl,ho0,hb⟩;refine⟨_,rfl,?_⟩;have n0_:=Aside0.mk (Kd.R_elder' (by(with_reducible repeat(first|apply Kd.rA_|apply Kd.rN_|apply Kd.rD_));exact(Kd.R_mono (Kd.R_far (p:=⟨gb700,1,none⟩) (Kd.R_far (p:=⟨gb700,0,none⟩) (Kd.R_types HO697.out BK700.out (by decide)) (fun _ hk=>hk.2) (.int .i64 t694)) (fun _ hk=>hk.2) (.slice Ao16 t695.length co16)) (fun _ h_=>h_.1))) (Kd.R_base ho0) hb);have n1_:=Aside0.mk (Kd.R_lower (Kd.R_new' ho0 (Kd.R_lt (by(with_reducible repeat(first|apply Kd.rA_|apply Kd.rN_|apply Kd.rD_));exact(Kd.R_mono (Kd.R_far (p:=⟨gb700,1,none⟩) (Kd.R_far (p:=⟨gb700,0,none⟩) (Kd.R_types HO697.out BK700.out (by decide)) (fun _ hk=>hk.2) (.int .i64 t694)) (fun _ hk=>hk.2) (.slice Ao16 t695.length co16)) (fun _ h_=>h_.1))))) (pbS_ bs_));have n2_:=Aside0.mk (blk_below (g:=gb700) (o:= .cells #[.int .i64 t694,.slice Ao16 t695.length co16] 37 (0,0)) (by(with_reducible repeat(first|refine blk_drewN ?_ _|refine blk_drew ?_|refine blk_alloc ?_ _));refine blk_put (cs:= #[.int .i64 t694,.slice none 0 0]) ?_ 1 _ rfl;(with_reducible repeat(first|refine blk_drewN ?_ _|refine blk_drew ?_|refine blk_alloc ?_ _));refine blk_put (cs:= #[.int .i64 0,.slice none 0 0]) ?_ 0 _ rfl;(with_reducible repeat(first|refine blk_drewN ?_ _|refine blk_drew ?_|refine blk_alloc ?_ _));exact BK700.out) hb);have n3_:=Aside0.mk (below_step bs_ hb);clear HO697;clear BK700;clear HB;have HO697:=n0_;have HO704:=n1_;have BK700:=n2_;have HB:=n3_;clear n0_ n1_ n2_ n3_)|((with_reducible refine gate_dst (N:=8) rfl ?_);refine box_event ?hg (N:=8) ?hd (cs:= #[.int .i64 0,.slice none 0 0]) (t:=37) ?hr ?_;(case hd=>rfl);(case hg=>rfl);(case hr=>first|(go_simp;done)|(go_simp;rfl));intro gb707 hg w18 hbox hb;have n0_:=Aside0.mk (Kd.R_below (Kd.ru_ HO697.out) hb);have n1_:=Aside0.mk (Kd.R_below (Kd.ru_ HO704.out) hb);have n2_:=Aside0.mk (blk_below (g:=gb700) (o:= .cells #[.int .i64 t694,.slice Ao16 t695.length co16] 37 (0,0)) (bk_ BK700.out) hb);have n3_:=Aside0.mk (below_step bs_ hb);have n4_:=Aside0.mk (hbox);have n5_:=Aside0.mk ((by rw[hg];exact(pbS_ bs_):w.heap.size<=gb707));have n6_:=Aside0.mk ((by rw[hg];exact(pbS_ bs_):w.heap.size<=gb707));have n7_:=Aside0.mk ((by rw[hg];exact Nat.ne_of_lt (blk_lt (g:=gb700) (o:= .cells #[.int .i64 t694,.slice Ao16 t695.length co16] 37 (0,0)) (bk_ BK700.out)):gb700≠gb707));have n8_:=Aside0.mk ((by rw[hg];exact Nat.ne_of_gt (blk_lt (g:=gb700) (o:= .cells #[.int .i64 t694,.slice Ao16 t695.length co16] 37 (0,0)) (bk_ BK700.out)):gb707≠gb700));clear HO697;clear HO704;clear BK700;clear HB;have HO697:=n0_;have HO704:=n1_;have BK700:=n2_;have HB:=n3_;have BK707:=n4_;have GW707:=n5_;have GE707:=n6_;have NB700_707:=n7_;have NB707_700:=n8_;clear n0_ n1_ n2_ n3_ n4_ n5_ n6_ n7_ n8_;clear hb hbox hg;have hnb19:=NB707_700.out;have hnc19:=NB700_707.out;have hcz20_0:w18.cell? ⟨gb707,0,none⟩=some (.int .i64 0):=(blk_cell BK707.out 0).trans rfl;have hcz20_1:w18.cell? ⟨gb707,1,none⟩=some (.slice none 0 0):=(blk_cell BK707.out 1).trans rfl;have hfz20_0:=blk_frozen BK707.out 0;have hfz20_1:=blk_frozen BK707.out 1;obtain⟨Ao21,co21,eo21⟩:=Kd.R_slice HO704.out;subst eo21;have hcz22_0:w18.cell? ⟨gb700,0,none⟩=some (.int .i64 t694):=(blk_cell BK700.out 0).trans rfl;have hcz22_1:w18.cell? ⟨gb700,1,none⟩=some (.slice Ao16 t695.length co16):=(blk_cell BK700.out 1).trans rfl;have hfz22_0:=blk_frozen BK700.out 0;have hfz22_1:=blk_frozen BK700.out 1)|((with_reducible refine gaC_ (f:=21) rfl ?_);refine goesL_ (some 32) rfl rfl Try.func21 (by kernel_rfl) rfl #[.agg #[.int .i64 t694,.slice Ao16 t695.length co16],.agg #[.int .i64 t701,.slice Ao21 t702.length co21]] rfl am_ ?_;(with_reducible refine(dragnetref13_SamePost.calls k t694 _ _ t695 t701 _ _ t702 true _ ?side1 ?side2 ?side3 ?side4 A9.out).mono ?_);(case side1=>refine(Kd.R_reads' (e:=3) (base:=w.heap.size) (ok:=fun k_=>(True∧some k_≠(.slice Ao21 t702.length co21:Value).ownBlock)) (n:=t695.length) (c:=co16) ?_).2.2;exact(by(with_reducible repeat(first|apply Kd.rA_|apply Kd.rN_|apply Kd.rD_));exact(Kd.R_mono (Kd.R_far (p:=⟨gb707,1,none⟩) (Kd.R_far (p:=⟨gb707,0,none⟩) (Kd.R_types HO697.out BK707.out (by decide)) (fun _ hk=>hk.2) (.int .i64 t701)) (fun _ hk=>hk.2) (.slice Ao21 t702.length co21)) (fun _ h_=>h_.1))));(case side2=>exact(Kd.R_reads' HO697.out).2.1);(case side3=>refine(Kd.R_reads' (e:=3) (base:=w.heap.size) (ok:=fun k_=>(True∧some k_≠(.slice Ao16 t695.length co16:Value).ownBlock)) (n:=t702.length) (c:=co21) ?_).2.2;exact(by(with_reducible repeat(first|apply Kd.rA_|apply Kd.rN_|apply Kd.rD_));exact(Kd.R_mono (Kd.R_far (p:=⟨gb707,1,none⟩) (Kd.R_far (p:=⟨gb707,0,none⟩) (Kd.R_types HO704.out BK707.out (by decide)) (fun _ hk=>hk.2) (.int .i64 t701)) (fun _ hk=>hk.2) (.slice Ao21 t702.length co21)) (fun _ h_=>h_.1))));(case side4=>exact(Kd.R_reads' HO704.out).2.1);rintro e w23 ⟨rfl,hb⟩;refine⟨_,rfl,?_⟩;replace HO697:=Aside0.mk (Kd.R_below (by(with_reducible repeat(first|apply Kd.rA_|apply Kd.rN_|apply Kd.rD_));exact(Kd.R_mono (Kd.R_far (p:=⟨gb707,1,none⟩) (Kd.R_far (p:=⟨gb707,0,none⟩) (Kd.R_types HO697.out BK707.out (by decide)) (fun _ hk=>hk.2) (.int .i64 t701)) (fun _ hk=>hk.2) (.slice Ao21 t702.length co21)) (fun _ h_=>h_.1))) hb);replace HO704:=Aside0.mk (Kd.R_below (by(with_reducible repeat(first|apply Kd.rA_|apply Kd.rN_|apply Kd.rD_));exact(Kd.R_mono (Kd.R_far (p:=⟨gb707,1,none⟩) (Kd.R_far (p:=⟨gb707,0,none⟩) (Kd.R_types HO704.out BK707.out (by decide)) (fun _ hk=>hk.2) (.int .i64 t701)) (fun _ hk=>hk.2) (.slice Ao21 t702.length co21)) (fun _ h_=>h_.1))) hb);replace BK700:=Aside0.mk (blk_below (g:=gb700) (o:= .cells #[.int .i64 t694,.slice Ao16 t695.length co16] 37 (0,0)) (by(with_reducible repeat(first|refine blk_drewN ?_ _|refine blk_drew ?_|refine blk_alloc ?_ _));refine blk_far ?_ NB700_707.out _;(with_reducible repeat(first|refine blk_drewN ?_ _|refine blk_drew ?_|refine blk_alloc ?_ _));refine blk_far ?_ NB700_707.out _;(with_reducible repeat(first|refine blk_drewN ?_ _|refine blk_drew ?_|refine blk_alloc ?_ _));exact BK700.out) hb);replace BK707:=Aside0.mk (blk_below (g:=gb707) (o:= .cells #[.int .i64 t701,.slice Ao21 t702.length co21] 37 (0,0)) (by(with_reducible repeat(first|refine blk_drewN ?_ _|refine blk_drew ?_|refine blk_alloc ?_ _));refine blk_put (cs:= #[.int .i64 t701,.slice none 0 0]) ?_ 1 _ rfl;(with_reducible repeat(first|refine blk_drewN ?_ _|refine blk_drew ?_|refine blk_alloc ?_ _));refine blk_put (cs:= #[.int .i64 0,.slice none 0 0]) ?_ 0 _ rfl;(with_reducible repeat(first|refine blk_drewN ?_ _|refine blk_drew ?_|refine blk_alloc ?_ _));exact BK707.out) hb);replace HB:=Aside0.mk (below_step bs_ hb)))
  go_ret
  exact⟨rf_,bs_⟩
def dragnetlaw13_PostSeeks.Pure:Prop:=∀ (l0:List Int) (a1:Int),l0.length<=maxLen->l0.length*1<=140737488351232->(∀ x∈l0,(Lit.int .u8 x).wf=true)->(Lit.int .i64 a1).wf=true->∃ k,dragnetlaw13_PostSeeks.f k l0 a1=some true
theorem dragnetlaw13_PostSeeks.walk (P:dragnetlaw13_PostSeeks.Pure) (a0:Option Addr) (len0 cap0:Nat) (z0:List Int) (a1:Int) (w:World) (w0:(a0=none∧len0=0∧cap0=0∧z0=[])∨∃ x,a0=some x∧len0<=cap0∧cap0<=maxLen∧z0.length=cap0∧(∀ i,i < z0.length->w.cell? (x.add i)=some (.int .u8 (z0.getD i 0)))∧∀ n∈z0,(Lit.int .u8 n).wf=true) (y0:len0*1<=140737488351232) (w1:(Lit.int .i64 a1).wf=true):
  Calls Try.prog 4 #[.slice a0 len0 cap0,.int .i64 a1] w fun e w'=>e= .returned (.bool true)∧Below w.heap.size w w':=by
 obtain⟨l0,rfl,hr0,hm0,hw0,hc0⟩:=ReadsInt.ofRowC w0
 obtain⟨k,h⟩:=P l0 a1 hm0 y0 hw0 w1
 refine(dragnetlaw13_PostSeeks.calls k _ _ l0 a1 true w (Kd.C_of_reads (d:=(0:Int)) (h1:=fun _=>rfl) hr0) hc0 h ⟨rfl⟩).mono ?_
 rintro e w' ⟨rfl,hd⟩
 exact⟨rfl,hd⟩
end Go.Proofs.Ytooeclfeallkkaa.P
end
