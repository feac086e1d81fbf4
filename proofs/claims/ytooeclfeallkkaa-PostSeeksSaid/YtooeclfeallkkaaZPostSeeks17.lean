/- Words and proofs that PostSeeks leans on; put together by wip/tools/shake.py. -/
import Derived.Test.YtooeclfeallkkaaZPostSeeks7
import Derived.Test.YtooeclfeallkkaaZPostSeeks13
import Derived.Test.YtooeclfeallkkaaZPostSeeks15
import Derived.Test.YtooeclfeallkkaaZPostSeeks16
section
namespace Go.Proofs.Ytooeclfeallkkaa.P
open Go.RowKit Go.Proofs.YtooeclfeallkkaaW.PrintWords Go.Proofs.YtooeclfeallkkaaW.PrintLast Go.Proofs.YtooeclfeallkkaaW.PrintMore
attribute [local go_sem] max2_int min2_int max_two min_two max_three min_three max_four min_four
set_option linter.unusedVariables false
set_option linter.unusedSimpArgs false
mutual
def dragnetref04_TakeBlock.j0:Nat->List Int->Int->Int->Int->Int->Bool->List Int->Int->Bool->Option (List Int×Int×Int)
 |0,_,_,_,_,_,_,_,_,_=>none
 |k+1,x0,x6,x7,x8,x9,x47,x591000,x591001,x591002=>if x47=true then(some (([]:List Int),0,2))else((dragnetref03_Size.f x6 x8).bind fun t604=>(if 0<=x591001 then(if x591001<=(wrap64 (x591001+t604))then(if(wrap64 (x591001+t604))<=(x0.length:Int)then((dragnetref03_Unpack.f k ((x0.take ((wrap64 (x591001+t604)):Int).toNat).drop (x591001:Int).toNat) x6 x8).bind fun bt606=>(if bt606.2=0 then(dragnetref04_TakeBlock.l0 k x0 x6 x7 x8 x9 bt606.1 x591000 (wrap64 (x591001+t604)) x591002)else(some (([]:List Int),0,2))))else(none))else(none))else(none)))
def dragnetref04_TakeBlock.l0:Nat->List Int->Int->Int->Int->Int->List Int->List Int->Int->Bool->Option (List Int×Int×Int)
 |0,_,_,_,_,_,_,_,_,_=>none
 |k+1,x0,x6,x7,x8,x9,x11,x591000,x591001,x591002=>if x9 > 0 then((dragnetref02_Reader_Count.f k x591000 x591001 x591002 31).bind fun bt610=>((dragnetref02_Reader_Number.f k x591000 bt610.2.1 bt610.2.2 18446744073709551615).bind fun bt613=>(if bt613.2.2=true then(some (([]:List Int),0,2))else(if bt610.1≥x6 then(some (([]:List Int),0,2))else(if x8=64 then(some (([]:List Int),0,2))else(if 0<=bt610.1 then(if bt610.1 < (x11.length:Int)then(if 0<=x8 then(dragnetref04_TakeBlock.l0 k x0 x6 x7 x8 (wrap64 (x9 - 1)) (x11.set (bt610.1:Int).toNat (IntKind.u64.wrap ((rd x11 bt610.1)+(shl .u64 bt613.1 x8)))) x591000 bt613.2.1 bt613.2.2)else(none))else(none))else(none)))))))else(dragnetref04_TakeBlock.l1 k x0 x6 x7 x11 0 x591000 x591001 x591002)
def dragnetref04_TakeBlock.l1:Nat->List Int->Int->Int->List Int->Int->List Int->Int->Bool->Option (List Int×Int×Int)
 |0,_,_,_,_,_,_,_,_=>none
 |k+1,x0,x6,x7,x11,x15,x591000,x591001,x591002=>if x15 < x6 then(if 0<=x15 then(if x15 < (x11.length:Int)then(dragnetref04_TakeBlock.l1 k x0 x6 x7 (x11.set (x15:Int).toNat (IntKind.u64.wrap ((rd x11 x15)+x7))) (wrap64 (x15+1)) x591000 x591001 x591002)else(none))else(none))else((dragnetref04_Block.f k x11).bind fun t620=>(if 0<=x591001 then(if x591001<=(x0.length:Int)then((dragnetref01_Same.f t620 (x0.take (x591001:Int).toNat)).bind fun t624=>(if t624=true then(some (x11,x591001,0))else(some (([]:List Int),0,2))))else(none))else(none)))
end
def dragnetref04_TakeBlock.f (k:Nat) (l0:List Int):Option (List Int×Int×Int):=(dragnetref02_Reader_Count.f k l0 0 false 32).bind fun bt591=>((dragnetref02_Reader_Number.f k l0 bt591.2.1 bt591.2.2 18446744073709551615).bind fun bt594=>((dragnetref02_Reader_Count.f k l0 bt594.2.1 bt594.2.2 64).bind fun bt597=>((dragnetref02_Reader_Count.f k l0 bt597.2.1 bt597.2.2 32).bind fun bt600=>(if bt600.2.2=true then(dragnetref04_TakeBlock.j0 k l0 bt591.1 bt594.1 bt597.1 bt600.1 true l0 bt600.2.1 bt600.2.2)else(if bt591.1=0 then(dragnetref04_TakeBlock.j0 k l0 bt591.1 bt594.1 bt597.1 bt600.1 true l0 bt600.2.1 bt600.2.2)else((dragnetref03_Size.f bt591.1 bt597.1).bind fun t603=>(dragnetref04_TakeBlock.j0 k l0 bt591.1 bt594.1 bt597.1 bt600.1 (decide (t603 > (wrap64 ((l0.length:Int) - bt600.2.1)))) l0 bt600.2.1 bt600.2.2)))))))
theorem dragnetref04_TakeBlock.mono_l:∀ k,(∀ y0 y1 y2 y3 y4 y5 y6 y7 y8,LeO (dragnetref04_TakeBlock.j0 k y0 y1 y2 y3 y4 y5 y6 y7 y8) (dragnetref04_TakeBlock.j0 (k+1) y0 y1 y2 y3 y4 y5 y6 y7 y8))∧(∀ y0 y1 y2 y3 y4 y5 y6 y7 y8,LeO (dragnetref04_TakeBlock.l0 k y0 y1 y2 y3 y4 y5 y6 y7 y8) (dragnetref04_TakeBlock.l0 (k+1) y0 y1 y2 y3 y4 y5 y6 y7 y8))∧(∀ y0 y1 y2 y3 y4 y5 y6 y7,LeO (dragnetref04_TakeBlock.l1 k y0 y1 y2 y3 y4 y5 y6 y7) (dragnetref04_TakeBlock.l1 (k+1) y0 y1 y2 y3 y4 y5 y6 y7))
 |0=>⟨fun _ _ _ _ _ _ _ _ _ r h=>by simp[dragnetref04_TakeBlock.j0]at h,fun _ _ _ _ _ _ _ _ _ r h=>by simp[dragnetref04_TakeBlock.l0]at h,fun _ _ _ _ _ _ _ _ r h=>by simp[dragnetref04_TakeBlock.l1]at h⟩
 |k+1=>by
  obtain⟨ih0,ih1,ih2⟩:=dragnetref04_TakeBlock.mono_l k
  refine⟨?_,?_,?_⟩
  .intro y0 y1 y2 y3 y4 y5 y6 y7 y8
   unfold dragnetref04_TakeBlock.j0
   repeat' first
   |(with_reducible exact ih0 _ _ _ _ _ _ _ _ _)
   |(with_reducible exact ih1 _ _ _ _ _ _ _ _ _)
   |(with_reducible exact ih2 _ _ _ _ _ _ _ _)
   |(with_reducible exact dragnetref02_Reader_Count.mono _ _ _ _ _)
   |(with_reducible exact dragnetref02_Reader_Number.mono _ _ _ _ _)
   |(with_reducible exact dragnetref03_Unpack.mono _ _ _ _)
   |(with_reducible exact dragnetref04_Block.mono _ _)
   |(with_reducible exact LeO.refl _)
   |(with_reducible exact LeO.none _)
   |(with_reducible refine LeO.ite ?_ ?_)
   |(with_reducible refine LeO.bind ?_ (fun _=>?_))
  .intro y0 y1 y2 y3 y4 y5 y6 y7 y8
   unfold dragnetref04_TakeBlock.l0
   repeat' first
   |(with_reducible exact ih0 _ _ _ _ _ _ _ _ _)
   |(with_reducible exact ih1 _ _ _ _ _ _ _ _ _)
   |(with_reducible exact ih2 _ _ _ _ _ _ _ _)
   |(with_reducible exact dragnetref02_Reader_Count.mono _ _ _ _ _)
   |(with_reducible exact dragnetref02_Reader_Number.mono _ _ _ _ _)
   |(with_reducible exact dragnetref03_Unpack.mono _ _ _ _)
   |(with_reducible exact dragnetref04_Block.mono _ _)
   |(with_reducible exact LeO.refl _)
   |(with_reducible exact LeO.none _)
   |(with_reducible refine LeO.ite ?_ ?_)
   |(with_reducible refine LeO.bind ?_ (fun _=>?_))
  .intro y0 y1 y2 y3 y4 y5 y6 y7
   unfold dragnetref04_TakeBlock.l1
   repeat' first
   |(with_reducible exact ih0 _ _ _ _ _ _ _ _ _)
   |(with_reducible exact ih1 _ _ _ _ _ _ _ _ _)
   |(with_reducible exact ih2 _ _ _ _ _ _ _ _)
   |(with_reducible exact dragnetref02_Reader_Count.mono _ _ _ _ _)
   |(with_reducible exact dragnetref02_Reader_Number.mono _ _ _ _ _)
   |(with_reducible exact dragnetref03_Unpack.mono _ _ _ _)
   |(with_reducible exact dragnetref04_Block.mono _ _)
   |(with_reducible exact LeO.refl _)
   |(with_reducible exact LeO.none _)
   |(with_reducible refine LeO.ite ?_ ?_)
   |(with_reducible refine LeO.bind ?_ (fun _=>?_))
theorem dragnetref04_TakeBlock.mono:∀ a0 k,LeO (dragnetref04_TakeBlock.f k a0) (dragnetref04_TakeBlock.f (k+1) a0):=by
 intro a0 k
 obtain⟨ih0,ih1,ih2⟩:=dragnetref04_TakeBlock.mono_l k
 unfold dragnetref04_TakeBlock.f
 repeat' first
   |(with_reducible exact ih0 _ _ _ _ _ _ _ _ _)
   |(with_reducible exact ih1 _ _ _ _ _ _ _ _ _)
   |(with_reducible exact ih2 _ _ _ _ _ _ _ _)
   |(with_reducible exact dragnetref02_Reader_Count.mono _ _ _ _ _)
   |(with_reducible exact dragnetref02_Reader_Number.mono _ _ _ _ _)
   |(with_reducible exact dragnetref03_Unpack.mono _ _ _ _)
   |(with_reducible exact dragnetref04_Block.mono _ _)
   |(with_reducible exact LeO.refl _)
   |(with_reducible exact LeO.none _)
   |(with_reducible refine LeO.ite ?_ ?_)
   |(with_reducible refine LeO.bind ?_ (fun _=>?_))
def dragnetref04_TakeBlock.T6:Bool×List (List Nat×List Nat):=(true,[([],[]),([0],[0]),([1],[1]),([2],[2]),([3],[3]),([4],[4]),([5,4],[4,5]),([4,6],[4,6]),([7,4],[7]),([8],[8]),([8],[8]),([9,10,8,8],[8,9,10]),([8],[8]),([12,8],[8,12]),([8],[8]),([14,8],[8,14]),([15,8],[8,15]),([16,8],[8,16]),([13,17,8],[8,13,17]),([11,18,8],[8,11,18]),([8,19],[8,19])])
def dragnetref04_TakeBlock.B6:List Nat:=[0,1,3,7,15,31,63,127,255,511,511,2047,511,4607,511,16895,49663,115199,258559,524287,1048575]
theorem dragnetref04_TakeBlock.tab6:rtab .any (opsOf Try.f62 6)=dragnetref04_TakeBlock.T6:=by kernel_rfl
theorem dragnetref04_TakeBlock.bits6:waitsOk dragnetref04_TakeBlock.T6.2 dragnetref04_TakeBlock.B6=true:=by kernel_rfl
def dragnetref04_TakeBlock.T8:Bool×List (List Nat×List Nat):=(true,[([],[]),([0],[0]),([1],[1]),([2],[2]),([],[]),([],[]),([4,5],[4,5]),([3,6],[3,6]),([7,6,0,1,2,3,4,5,6,7],[7])])
def dragnetref04_TakeBlock.B8:List Nat:=[0,1,3,7,0,0,48,127,255]
theorem dragnetref04_TakeBlock.tab8:rtab .any (opsOf Try.f62 8)=dragnetref04_TakeBlock.T8:=by kernel_rfl
theorem dragnetref04_TakeBlock.bits8:waitsOk dragnetref04_TakeBlock.T8.2 dragnetref04_TakeBlock.B8=true:=by kernel_rfl
def dragnetref04_TakeBlock.T19:Bool×List (List Nat×List Nat):=(true,[([],[]),([],[]),([0,1],[0,1]),([2],[2]),([],[]),([],[]),([4,5],[4,5]),([3,6],[3,6]),([0,1,0,1,2,3,4,5,6,7],[0,1]),([8,7,0,1,2,3,4,5,6,7],[7,8])])
def dragnetref04_TakeBlock.B19:List Nat:=[0,0,3,7,0,0,48,127,255,511]
theorem dragnetref04_TakeBlock.tab19:rtab .any (opsOf Try.f62 19)=dragnetref04_TakeBlock.T19:=by kernel_rfl
theorem dragnetref04_TakeBlock.bits19:waitsOk dragnetref04_TakeBlock.T19.2 dragnetref04_TakeBlock.B19=true:=by kernel_rfl
def dragnetref04_TakeBlock.T24:Bool×List (List Nat×List Nat):=(true,[([],[]),([0],[0]),([],[]),([],[]),([3],[3]),([4],[4]),([5],[5]),([2,6],[2,6]),([1,7,1],[1,7]),([8],[8])])
def dragnetref04_TakeBlock.B24:List Nat:=[0,1,0,0,8,24,56,124,255,511]
theorem dragnetref04_TakeBlock.tab24:rtab .any (opsOf Try.f62 24)=dragnetref04_TakeBlock.T24:=by kernel_rfl
theorem dragnetref04_TakeBlock.bits24:waitsOk dragnetref04_TakeBlock.T24.2 dragnetref04_TakeBlock.B24=true:=by kernel_rfl
def dragnetref04_TakeBlock.T26:Bool×List (List Nat×List Nat):=(true,[([],[]),([],[]),([1],[1]),([2],[2]),([3],[3]),([0,0],[0]),([4,5,0,1,2,3,4,5],[4]),([6,0,1,2,3,4,5,6],[])])
def dragnetref04_TakeBlock.B26:List Nat:=[0,0,2,6,14,1,63,127]
theorem dragnetref04_TakeBlock.tab26:rtab .any (opsOf Try.f62 26)=dragnetref04_TakeBlock.T26:=by kernel_rfl
theorem dragnetref04_TakeBlock.bits26:waitsOk dragnetref04_TakeBlock.T26.2 dragnetref04_TakeBlock.B26=true:=by kernel_rfl
set_option maxHeartbeats 8000000 in
set_option maxRecDepth 100000 in
theorem dragnetref04_TakeBlock.calls (k:Nat) (A0:Option Addr) (c0:Nat) (l0:List Int) (r1:List Int) (r2:Int) (r3:Int) (w:World) (hr0:Kd.C (Kd.int .u8) w A0 l0.length l0) (hc0:l0.length<=c0) (h:dragnetref04_TakeBlock.f k l0=some (r1,r2,r3)):
  Calls Try.prog 62 #[.slice A0 l0.length c0] w fun e w'=>∃ v0_:Value,e= .returned (.tuple #[v0_,.int .i64 r2,.int .i64 r3])∧Kd.R (Kd.int .u64) 48 w' w.heap.size (fun _=>True) v0_ r1∧Below w.heap.size w w':=by
 have hu72:=Try.underlying72
 have HR0:=Aside0.mk hr0
 have HC0:=Aside0.mk hc0
 clear hr0 hc0
 have HB:=Aside0.mk (Below.refl w.heap.size w)
 have H:((dragnetref02_Reader_Count.f k l0 0 false 32).bind fun bt591=>((dragnetref02_Reader_Number.f k l0 bt591.2.1 bt591.2.2 18446744073709551615).bind fun bt594=>((dragnetref02_Reader_Count.f k l0 bt594.2.1 bt594.2.2 64).bind fun bt597=>((dragnetref02_Reader_Count.f k l0 bt597.2.1 bt597.2.2 32).bind fun bt600=>(if bt600.2.2=true then(dragnetref04_TakeBlock.j0 k l0 bt591.1 bt594.1 bt597.1 bt600.1 true l0 bt600.2.1 bt600.2.2)else(if bt591.1=0 then(dragnetref04_TakeBlock.j0 k l0 bt591.1 bt594.1 bt597.1 bt600.1 true l0 bt600.2.1 bt600.2.2)else((dragnetref03_Size.f bt591.1 bt597.1).bind fun t603=>(dragnetref04_TakeBlock.j0 k l0 bt591.1 bt594.1 bt597.1 bt600.1 (decide (t603 > (wrap64 ((l0.length:Int) - bt600.2.1)))) l0 bt600.2.1 bt600.2.2))))))))=some (r1,r2,r3):=h
 clear h
 replace H:=Option.bind_eq_some_iff.mp H
 obtain⟨⟨t591,t592,t593⟩,A20,H⟩:=H
 try dsimp only at H
 have A2:=Aside0.mk A20
 clear A20
 replace H:=Option.bind_eq_some_iff.mp H
 obtain⟨⟨t594,t595,t596⟩,A30,H⟩:=H
 try dsimp only at H
 have A3:=Aside0.mk A30
 clear A30
 replace H:=Option.bind_eq_some_iff.mp H
 obtain⟨⟨t597,t598,t599⟩,A40,H⟩:=H
 try dsimp only at H
 have A4:=Aside0.mk A40
 clear A40
 replace H:=Option.bind_eq_some_iff.mp H
 obtain⟨⟨t600,t601,t602⟩,A50,H⟩:=H
 try dsimp only at H
 have A5:=Aside0.mk A50
 clear A50
 have HC6:=Aside0.mk H
 clear H
 go_enter Try.func62,Try.ntmps62
 go_upto_region 6 with (first|((with_reducible refine gate_dst (N:=18) rfl ?_);(try(refine gate_guard (by rfl) ?_;dsimp only));refine box_event ?hg (N:=18) ?hd (cs:= #[.slice A0 l0.length c0,.int .i64 0,.bool false]) (t:=72) ?hr ?_;(case hd=>rfl);(case hg=>rfl);(case hr=>first|(go_simp;done)|(go_simp;rfl));intro gb590 hg w7 hbox hb;have n0_:=Aside0.mk (below_step bw_ hb);have n1_:=Aside0.mk ((show IsS72 w w7 gb590 l0 0 false from⟨_,_,hbox,(by rw[hg];exact(pbS_ bw_):w.heap.size<=gb590),⟨HR0.out,HC0.out⟩⟩));have n2_:=Aside0.mk ((by rw[hg];exact(pbS_ bw_):w.heap.size<=gb590));have n3_:=Aside0.mk ((by rw[hg];exact(pbS_ bw_):w.heap.size<=gb590));clear HB;have HB:=n0_;have HI590:=n1_;have GW590:=n2_;have GE590:=n3_;clear n0_ n1_ n2_ n3_;clear hb hbox hg)|((with_reducible refine gaC_ (f:=38) rfl ?_);refine goesL_ (some 20) rfl rfl Try.func38 (by kernel_rfl) rfl #[.pointer (some ⟨gb590,0,none⟩),.int .i64 32] rfl am_ ?_;(with_reducible refine(dragnetref02_Reader_Count.calls k gb590 l0 0 false 32 t591 t592 t593 w _ ?side1 ?side2 A2.out).mono ?_);(case side1=>exact isu72_ HI590.out);(case side2=>repeat(first|(with_reducible first|exact HB.out|apply pbA_|apply pbN_|apply pb1_|refine below_set ?_ (IsS72.ge HI590.out))|exact HB.out));rintro e w8 ⟨rfl,hi,hb,hk⟩;refine⟨_,rfl,?_⟩;replace HB:=Aside0.mk (hb);replace HI590:=Aside0.mk (hi))|((with_reducible refine gaC_ (f:=60) rfl ?_);refine goesL_ (some 22) rfl rfl Try.func60 (by kernel_rfl) rfl #[.pointer (some ⟨gb590,0,none⟩),.int .u64 18446744073709551615] rfl am_ ?_;(with_reducible refine(dragnetref02_Reader_Number.calls k gb590 l0 t592 t593 18446744073709551615 t594 t595 t596 w _ ?side1 ?side2 A3.out).mono ?_);(case side1=>exact isu72_ HI590.out);(case side2=>repeat(first|(with_reducible first|exact HB.out|apply pbA_|apply pbN_|apply pb1_|refine below_set ?_ (IsS72.ge HI590.out))|exact HB.out));rintro e w9 ⟨rfl,hi,hb,hk⟩;refine⟨_,rfl,?_⟩;replace HB:=Aside0.mk (hb);replace HI590:=Aside0.mk (hi))|((with_reducible refine gaC_ (f:=38) rfl ?_);refine goesL_ (some 24) rfl rfl Try.func38 (by kernel_rfl) rfl #[.pointer (some ⟨gb590,0,none⟩),.int .i64 64] rfl am_ ?_;(with_reducible refine(dragnetref02_Reader_Count.calls k gb590 l0 t595 t596 64 t597 t598 t599 w _ ?side1 ?side2 A4.out).mono ?_);(case side1=>exact isu72_ HI590.out);(case side2=>repeat(first|(with_reducible first|exact HB.out|apply pbA_|apply pbN_|apply pb1_|refine below_set ?_ (IsS72.ge HI590.out))|exact HB.out));rintro e w10 ⟨rfl,hi,hb,hk⟩;refine⟨_,rfl,?_⟩;replace HB:=Aside0.mk (hb);replace HI590:=Aside0.mk (hi))|((with_reducible refine gaC_ (f:=38) rfl ?_);refine goesL_ (some 26) rfl rfl Try.func38 (by kernel_rfl) rfl #[.pointer (some ⟨gb590,0,none⟩),.int .i64 32] rfl am_ ?_;(with_reducible refine(dragnetref02_Reader_Count.calls k gb590 l0 t598 t599 32 t600 t601 t602 w _ ?side1 ?side2 A5.out).mono ?_);(case side1=>exact isu72_ HI590.out);(case side2=>repeat(first|(with_reducible first|exact HB.out|apply pbA_|apply pbN_|apply pb1_|refine below_set ?_ (IsS72.ge HI590.out))|exact HB.out));rintro e w11 ⟨rfl,hi,hb,hk⟩;refine⟨_,rfl,?_⟩;replace HB:=Aside0.mk (hb);replace HI590:=Aside0.mk (hi)))
 go_cut [47] (fun v47 wc=>∃ (kq:Nat) (x47_5:Bool),v47= .bool x47_5∧Aside0 (dragnetref04_TakeBlock.j0 kq l0 t591 t594 t597 t600 x47_5 l0 t601 t602=some (r1,r2,r3))∧Aside0 (kq<=k)∧Aside0 (IsS72 w wc gb590 l0 t601 t602)∧Aside0 (Below w.heap.size w wc))
 case first=>
  have H:=HC6.out
  clear HC6
  by_cases c12:t602=true
  .subst c12
   rw[if_pos rfl]at H
   have H':=Aside0.mk H
   clear H
   try go_wp2
   have n0_:=Aside0.mk (IsS72.drew HI590.out)
   have n1_:=Aside0.mk (pb1_ HB.out)
   clear HI590
   clear HB
   have HI590:=n0_
   have HB:=n1_
   clear n0_ n1_
   obtain⟨ASz14_0,cSz14_0,HGz14,hgz14,HSz14_0⟩:=HI590.out
   have hcz14_0:=cellS72_0 HGz14
   have hcz14_1:=cellS72_1 HGz14
   have hcz14_2:=cellS72_2 HGz14
   have hfz14_1:=blk_frozen HGz14 1
   have hfz14_2:=blk_frozen HGz14 2
   clear HGz14 hgz14
   refine start_ (n:=21) (S:=fun w'=>w'.cell? ⟨gb590,0,none⟩=some (.slice ASz14_0 l0.length cSz14_0)∧w'.cell? ⟨gb590,1,none⟩=some (.int .i64 t601)∧w'.cell? ⟨gb590,2,none⟩=some (.bool true)) (ds:=[]) #[false,false,false,false,false,false,false,false,false,false,false,false,false,false,false,false,false,false,false,false,false] (by kernel_rfl) rfl rfl ⟨hcz14_0,hcz14_1,hcz14_2⟩ (fun hHeld=>?_);refine with_tabW dragnetref04_TakeBlock.tab6 dragnetref04_TakeBlock.bits6 (fun HT_ HW_=>?_)
   generalize w11.drew=w13 at HI590 HB hHeld ⊢
   refine pv_ (i:=0) (N:=some 27) HT_ ?_
   refine pv_ (i:=1) (N:=some 28) HT_ ?_
   refine pv_ (i:=2) (N:=some 29) HT_ ?_
   refine tv_ (i:=3) (N:=some 30) HT_ HW_ hHeld ?_
   refine pv_ (i:=4) (N:=some 31) HT_ ?_
   refine pw_ (i:=5) (N:=some 32) HT_ ?_
   refine pw_ (i:=6) (N:=some 33) HT_ ?_
   refine pv_ (i:=7) (N:=some 34) HT_ ?_
   refine pv_ (i:=8) (N:=some 35) HT_ ?_
   refine pw_ (i:=9) (N:=some 36) HT_ ?_
   refine pw_ (i:=10) (N:=some 37) HT_ ?_
   refine pw_ (i:=11) (N:=some 38) HT_ ?_
   refine pw_ (i:=12) (N:=some 39) HT_ ?_
   refine pw_ (i:=13) (N:=some 40) HT_ ?_
   refine pw_ (i:=14) (N:=some 41) HT_ ?_
   refine pw_ (i:=15) (N:=some 42) HT_ ?_
   refine pw_ (i:=16) (N:=some 43) HT_ ?_
   refine pw_ (i:=17) (N:=some 44) HT_ ?_
   refine pw_ (i:=18) (N:=some 45) HT_ ?_
   refine pw_ (i:=19) (N:=some 46) HT_ ?_
   refine pv_ (i:=20) (N:=some 47) HT_ ?_
   refine done_ (done_of HT_.out (by kernel_rfl)) ?_
   try go_wp2
   go_meet
   case rel=>exact⟨_,(true),rs_,H',⟨by first|omega|exact Nat.le_refl _⟩,⟨by repeat(first|(with_reducible first|exact HI590.out|apply IsS72.alloc|apply IsS72.drewN|apply IsS72.drew|apply IsS72.set_1|apply IsS72.set_2)|exact HI590.out)⟩,⟨bs72_⟩⟩
  .replace c12:=Bool.eq_false_iff.mpr c12
   subst c12
   rw[if_neg (show ¬ (false=true) by decide)]at H
   by_cases c15:t591=0
   .rw[if_pos c15]at H
    have c15b0:=beq_iff_eq.mpr c15
    have c15b1:=bne_eq_false_iff_eq.mpr c15
    clear c15
    (first|rw[c15b0]|(simp only[i64_w,i32_w];rw[c15b0])|skip)
    have H':=Aside0.mk H
    clear H
    try go_wp2
    have n0_:=Aside0.mk (IsS72.drew HI590.out)
    have n1_:=Aside0.mk (pb1_ HB.out)
    clear HI590
    clear HB
    have HI590:=n0_
    have HB:=n1_
    clear n0_ n1_
    obtain⟨ASz17_0,cSz17_0,HGz17,hgz17,HSz17_0⟩:=HI590.out
    have hcz17_0:=cellS72_0 HGz17
    have hcz17_1:=cellS72_1 HGz17
    have hcz17_2:=cellS72_2 HGz17
    have hfz17_1:=blk_frozen HGz17 1
    have hfz17_2:=blk_frozen HGz17 2
    clear HGz17 hgz17
    refine start_ (n:=21) (S:=fun w'=>w'.cell? ⟨gb590,0,none⟩=some (.slice ASz17_0 l0.length cSz17_0)∧w'.cell? ⟨gb590,1,none⟩=some (.int .i64 t601)∧w'.cell? ⟨gb590,2,none⟩=some (.bool false)) (ds:=[]) #[false,false,false,false,false,false,false,false,false,false,false,false,false,false,false,false,false,false,false,false,false] (by kernel_rfl) rfl rfl ⟨hcz17_0,hcz17_1,hcz17_2⟩ (fun hHeld=>?_);refine with_tabW dragnetref04_TakeBlock.tab6 dragnetref04_TakeBlock.bits6 (fun HT_ HW_=>?_)
    generalize w11.drew=w16 at HI590 HB hHeld ⊢
    refine pv_ (i:=0) (N:=some 27) HT_ ?_
    refine pv_ (i:=1) (N:=some 28) HT_ ?_
    refine pv_ (i:=2) (N:=some 29) HT_ ?_
    refine tv_ (i:=3) (N:=some 30) HT_ HW_ hHeld ?_
    refine pv_ (i:=4) (N:=some 31) HT_ ?_
    refine pv_ (i:=5) (N:=some 32) HT_ ?_
    refine pv_ (i:=6) (N:=some 33) HT_ ?_
    refine pv_ (i:=7) (N:=some 34) HT_ ?_
    refine pv_ (i:=8) (N:=some 35) HT_ ?_
    refine pw_ (i:=9) (N:=some 36) HT_ ?_
    refine pw_ (i:=10) (N:=some 37) HT_ ?_
    refine pw_ (i:=11) (N:=some 38) HT_ ?_
    refine pw_ (i:=12) (N:=some 39) HT_ ?_
    refine pw_ (i:=13) (N:=some 40) HT_ ?_
    refine pw_ (i:=14) (N:=some 41) HT_ ?_
    refine pw_ (i:=15) (N:=some 42) HT_ ?_
    refine pw_ (i:=16) (N:=some 43) HT_ ?_
    refine pw_ (i:=17) (N:=some 44) HT_ ?_
    refine pw_ (i:=18) (N:=some 45) HT_ ?_
    refine pw_ (i:=19) (N:=some 46) HT_ ?_
    refine pv_ (i:=20) (N:=some 47) HT_ ?_
    refine done_ (done_of HT_.out (by kernel_rfl)) ?_
    try go_wp2
    go_meet
    case rel=>exact⟨_,(true),rs_,H',⟨by first|omega|exact Nat.le_refl _⟩,⟨by repeat(first|(with_reducible first|exact HI590.out|apply IsS72.alloc|apply IsS72.drewN|apply IsS72.drew|apply IsS72.set_1|apply IsS72.set_2)|exact HI590.out)⟩,⟨bs72_⟩⟩
   .rw[if_neg c15]at H
    have c15b0:=beq_eq_false_iff_ne.mpr c15
    have c15b1:=bne_iff_ne.mpr c15
    (first|rw[c15b0]|(simp only[i64_w,i32_w];rw[c15b0])|skip)
    replace H:=Option.bind_eq_some_iff.mp H
    obtain⟨t603,A180,H⟩:=H
    try dsimp only at H
    have A18:=Aside0.mk A180
    clear A180
    have H':=Aside0.mk H
    clear H
    try go_wp2
    have n0_:=Aside0.mk (IsS72.drew HI590.out)
    have n1_:=Aside0.mk (pb1_ HB.out)
    clear HI590
    clear HB
    have HI590:=n0_
    have HB:=n1_
    clear n0_ n1_
    obtain⟨ASz20_0,cSz20_0,HGz20,hgz20,HSz20_0⟩:=HI590.out
    have hcz20_0:=cellS72_0 HGz20
    have hcz20_1:=cellS72_1 HGz20
    have hcz20_2:=cellS72_2 HGz20
    have hfz20_1:=blk_frozen HGz20 1
    have hfz20_2:=blk_frozen HGz20 2
    clear HGz20 hgz20
    refine start_ (n:=21) (S:=fun w'=>w'.cell? ⟨gb590,0,none⟩=some (.slice ASz20_0 l0.length cSz20_0)∧w'.cell? ⟨gb590,1,none⟩=some (.int .i64 t601)∧w'.cell? ⟨gb590,2,none⟩=some (.bool false)) (ds:=[]) #[false,false,false,false,false,false,false,false,false,false,false,false,false,false,false,false,false,false,false,false,false] (by kernel_rfl) rfl rfl ⟨hcz20_0,hcz20_1,hcz20_2⟩ (fun hHeld=>?_);refine with_tabW dragnetref04_TakeBlock.tab6 dragnetref04_TakeBlock.bits6 (fun HT_ HW_=>?_)
    generalize w11.drew=w19 at HI590 HB hHeld ⊢
    refine pv_ (i:=0) (N:=some 27) HT_ ?_
    refine pv_ (i:=1) (N:=some 28) HT_ ?_
    refine pv_ (i:=2) (N:=some 29) HT_ ?_
    refine tv_ (i:=3) (N:=some 30) HT_ HW_ hHeld ?_
    refine pv_ (i:=4) (N:=some 31) HT_ ?_
    refine pv_ (i:=5) (N:=some 32) HT_ ?_
    refine pv_ (i:=6) (N:=some 33) HT_ ?_
    refine pv_ (i:=7) (N:=some 34) HT_ ?_
    refine pv_ (i:=8) (N:=some 35) HT_ ?_
    refine pv_ (i:=9) (N:=some 36) HT_ ?_
    refine pv_ (i:=10) (N:=some 37) HT_ ?_
    refine pv_ (i:=12) (N:=some 39) HT_ ?_
    refine pv_ (i:=13) (N:=some 40) HT_ ?_
    refine pv_ (i:=14) (N:=some 41) HT_ ?_
    refine pv_ (i:=15) (N:=some 42) HT_ ?_
    refine pv_ (i:=16) (N:=some 43) HT_ ?_
    refine tv_ (i:=17) (N:=some 44) HT_ HW_ hHeld ?_
    refine pv_ (i:=18) (N:=some 45) HT_ ?_
    refine one_ (i:=11) (N:=some 38) #[tT,tT,tT,tT,tT,tT,tT,tT,tT,tT,tT,tT,tT,tT,tT,tT,tT,tT,tT,fF,fF] rfl rfl (one_of HT_.out (by kernel_rfl)) (by decide) (fun K hK=>?_)
    refine goes_ Try.func73 (by kernel_rfl) rfl #[.int .i64 t591,.int .i64 t597] (by rfl) rfl rfl am_ ?_
    with_reducible refine(dragnetref03_Size.calls t591 t597 t603 _ A18.out).mono ?_
    rintro e w' ⟨rfl,⟨nd,rfl⟩⟩
    refine⟨_,rfl,?_⟩
    refine hK.out _ _ ⟨hHeld.1,hHeld.2.1,hHeld.2.2⟩ (fun hHeld=>?_)
    clear hK K
    refine norm_ (a':=?_) ?_ ?_
    rotate_left
    .show Act.put _ (some 38) _=_
     simp only[Act.put,List.setIfInBounds_toArray,List.set_cons_zero,List.set_cons_succ,i64_w,i32_w]
     rfl
    refine pv_ (i:=19) (N:=some 46) HT_ ?_
    refine pv_ (i:=20) (N:=some 47) HT_ ?_
    refine done_ (done_of HT_.out (by kernel_rfl)) ?_
    try go_wp2
    go_meet
    case rel=>exact⟨_,(decide (t603 > (wrap64 ((l0.length:Int) - t601)))),rs_,H',⟨by first|omega|exact Nat.le_refl _⟩,⟨by repeat(first|(with_reducible first|exact HI590.out|apply IsS72.alloc|apply IsS72.drewN|apply IsS72.drew|apply IsS72.set_1|apply IsS72.set_2)|exact HI590.out)⟩,⟨bs72_⟩⟩
 case rest=>
  clear HC6
  obtain⟨kq,x47_5,rfl,HA,HJ5,HI590,HB⟩:=hcut
  cases kq with
  |zero=>exact absurd HA.out (by simp[dragnetref04_TakeBlock.j0])
  |succ kj5=>
   have H:=HA.out
   clear HA
   simp only[dragnetref04_TakeBlock.j0]at H
   by_cases c21:x47_5=true
   .subst c21
    rw[if_pos rfl]at H
    simp only[Option.some.injEq,Prod.mk.injEq]at H
    obtain⟨rfl,rfl,rfl⟩:=H
    go_wp2
    go_ret3
    exact⟨_,rf_,ni_,bs72_⟩
   .replace c21:=Bool.eq_false_iff.mpr c21
    subst c21
    rw[if_neg (show ¬ (false=true) by decide)]at H
    replace H:=Option.bind_eq_some_iff.mp H
    obtain⟨t604,A220,H⟩:=H
    try dsimp only at H
    have A22:=Aside0.mk A220
    clear A220
    by_cases c23:0<=t601
    rotate_left
    .rw[if_neg c23]at H
     cases H
    rw[if_pos c23]at H
    have c23b0:=eq_true c23
    have c23b1:=decide_eq_true c23
    clear c23
    by_cases c24:t601<=(wrap64 (t601+t604))
    rotate_left
    .rw[if_neg c24]at H
     cases H
    rw[if_pos c24]at H
    have c24b0:=eq_true c24
    have c24b1:=decide_eq_true c24
    by_cases c25:(wrap64 (t601+t604))<=(l0.length:Int)
    rotate_left
    .rw[if_neg c25]at H
     cases H
    rw[if_pos c25]at H
    have c25b0:=eq_true c25
    have c25b1:=decide_eq_true c25
    replace H:=Option.bind_eq_some_iff.mp H
    obtain⟨⟨t606,t607⟩,A260,H⟩:=H
    try dsimp only at H
    have A26:=Aside0.mk A260
    clear A260
    by_cases c27:t607=0
    rotate_left
    .rw[if_neg c27]at H
     have c27b0:=beq_eq_false_iff_ne.mpr c27
     have c27b1:=bne_iff_ne.mpr c27
     simp only[Option.some.injEq,Prod.mk.injEq]at H
     obtain⟨rfl,rfl,rfl⟩:=H
     try go_wp2
     have n0_:=Aside0.mk (IsS72.drew HI590.out)
     have n1_:=Aside0.mk (pb1_ HB.out)
     clear HI590
     clear HB
     have HI590:=n0_
     have HB:=n1_
     clear n0_ n1_
     obtain⟨ASz86_0,cSz86_0,HGz86,hgz86,HSz86_0⟩:=HI590.out
     have hcz86_0:=cellS72_0 HGz86
     have hcz86_1:=cellS72_1 HGz86
     have hcz86_2:=cellS72_2 HGz86
     have hfz86_1:=blk_frozen HGz86 1
     have hfz86_2:=blk_frozen HGz86 2
     clear HGz86 hgz86
     refine start_ (n:=9) (S:=fun w'=>w'.cell? ⟨gb590,0,none⟩=some (.slice ASz86_0 l0.length cSz86_0)∧w'.cell? ⟨gb590,1,none⟩=some (.int .i64 t601)∧w'.cell? ⟨gb590,2,none⟩=some (.bool t602)) (ds:=[]) #[false,false,false,false,false,false,false,false,false] (by kernel_rfl) rfl rfl ⟨hcz86_0,hcz86_1,hcz86_2⟩ (fun hHeld=>?_);refine with_tabW dragnetref04_TakeBlock.tab8 dragnetref04_TakeBlock.bits8 (fun HT_ HW_=>?_)
     generalize wc.drew=w85 at HI590 HB hHeld ⊢
     refine pv_ (i:=0) (N:=some 48) HT_ ?_
     refine pv_ (i:=1) (N:=some 49) HT_ ?_
     refine pv_ (i:=2) (N:=some 50) HT_ ?_
     refine pv_ (i:=4) (N:=some 52) HT_ ?_
     refine pv_ (i:=5) (N:=some 53) HT_ ?_
     refine tv_ (i:=3) (N:=some 51) HT_ HW_ hHeld ?_
     refine one_ (i:=6) (N:=some 54) #[tT,tT,tT,tT,tT,tT,tT,fF,fF] rfl rfl (one_of HT_.out (by kernel_rfl)) (by decide) (fun K hK=>?_)
     refine goes_ Try.func73 (by kernel_rfl) rfl #[.int .i64 t591,.int .i64 t597] (by rfl) rfl rfl am_ ?_
     with_reducible refine(dragnetref03_Size.calls t591 t597 t604 _ A22.out).mono ?_
     rintro e w' ⟨rfl,⟨nd,rfl⟩⟩
     refine⟨_,rfl,?_⟩
     refine hK.out _ _ ⟨hHeld.1,hHeld.2.1,hHeld.2.2⟩ (fun hHeld=>?_)
     clear hK K
     refine norm_ (a':=?_) ?_ ?_
     rotate_left
     .show Act.put _ (some 54) _=_
      simp only[Act.put,List.setIfInBounds_toArray,List.set_cons_zero,List.set_cons_succ,i64_w,i32_w]
      rfl
     refine pv_ (i:=7) (N:=some 55) HT_ ?_
     refine pv_ (i:=8) (N:=some 10) HT_ ?_
     refine done_ (done_of HT_.out (by kernel_rfl)) ?_
     obtain⟨i087,hi087,_,hsz87,_⟩:=info_parts info5
     obtain⟨A87,hcut87,hA87,hC87⟩:=print_mid_of (P:=Try.prog) (Value.int .u8) 0 22 5 .i64 .i64 Try.underlying22 hi087 hsz87 A0 c0 l0 t601 (wrap64 (t601+t604)) od_ (by first|omega|exact od_) od_ HC0.out
     have HR605:=Aside0.mk (Kd.C_of_reads (h1:=fun _=>rfl) (hA87 _ (Kd.reads_of_C HR0.out)))
     have HC605:=Aside0.mk hC87
     clear hA87 hC87 hi087 hsz87
     try go_wp2_with (first|((with_reducible refine gaC_ (f:=74) rfl ?_);refine goesL_ (some 66) rfl rfl Try.func74 (by kernel_rfl) rfl #[.slice A87 ((l0.take ((wrap64 (t601+t604)):Int).toNat).drop (t601:Int).toNat).length (c0 - t601.toNat),.int .i64 t591,.int .i64 t597] rfl (by(try simp only[List.map_toArray,List.map_cons,List.map_nil]);first|done|(rw[show((l0.take ((wrap64 (t601+t604)):Int).toNat).drop (t601:Int).toNat).length=((wrap64 (t601+t604)).toNat - t601.toNat) from(by rw[List.length_drop,List.length_take];have h_:((wrap64 (t601+t604)):Int)<=(l0.length:Int):=od_;omega)]<;>rfl)|rfl|(simp only[List.length_drop,List.length_take];rfl)) ?_;(with_reducible refine(dragnetref03_Unpack.calls kj5 _ _ ((l0.take ((wrap64 (t601+t604)):Int).toNat).drop (t601:Int).toNat) t591 t597 t606 t607 _ ?side1 ?side2 A26.out).mono ?_);(case side1=>repeat(first|exact(Kd.C_below HR605.out bs72_)|(with_reducible refine Kd.cA_ ?_ _)|(with_reducible refine Kd.cN_ ?_ _)|(with_reducible refine Kd.cD_ ?_)));(case side2=>exact HC605.out);rintro e w88 ⟨v608,rfl,ho0,hb⟩;refine⟨_,rfl,?_⟩;have n0_:=Aside0.mk (Kd.R_lower ho0 (pbS_ bs72_));have n1_:=Aside0.mk (IsS72.below (isu72_ HI590.out) hb);have n2_:=Aside0.mk (below_step bs72_ hb);clear HI590;clear HB;have HO609:=n0_;have HI590:=n1_;have HB:=n2_;clear n0_ n1_ n2_))
     go_ret3
     exact⟨_,rf_,ni_,bs72_⟩
    rw[if_pos c27]at H
    have c27b0:=beq_iff_eq.mpr c27
    have c27b1:=bne_eq_false_iff_eq.mpr c27
    clear c27
    have H':=Aside0.mk H
    clear H
    try go_wp2
    have n0_:=Aside0.mk (IsS72.drew HI590.out)
    have n1_:=Aside0.mk (pb1_ HB.out)
    clear HI590
    clear HB
    have HI590:=n0_
    have HB:=n1_
    clear n0_ n1_
    obtain⟨ASz29_0,cSz29_0,HGz29,hgz29,HSz29_0⟩:=HI590.out
    have hcz29_0:=cellS72_0 HGz29
    have hcz29_1:=cellS72_1 HGz29
    have hcz29_2:=cellS72_2 HGz29
    have hfz29_1:=blk_frozen HGz29 1
    have hfz29_2:=blk_frozen HGz29 2
    clear HGz29 hgz29
    refine start_ (n:=9) (S:=fun w'=>w'.cell? ⟨gb590,0,none⟩=some (.slice ASz29_0 l0.length cSz29_0)∧w'.cell? ⟨gb590,1,none⟩=some (.int .i64 t601)∧w'.cell? ⟨gb590,2,none⟩=some (.bool t602)) (ds:=[]) #[false,false,false,false,false,false,false,false,false] (by kernel_rfl) rfl rfl ⟨hcz29_0,hcz29_1,hcz29_2⟩ (fun hHeld=>?_);refine with_tabW dragnetref04_TakeBlock.tab8 dragnetref04_TakeBlock.bits8 (fun HT_ HW_=>?_)
    generalize wc.drew=w28 at HI590 HB hHeld ⊢
    refine pv_ (i:=0) (N:=some 48) HT_ ?_
    refine pv_ (i:=1) (N:=some 49) HT_ ?_
    refine pv_ (i:=2) (N:=some 50) HT_ ?_
    refine pv_ (i:=4) (N:=some 52) HT_ ?_
    refine pv_ (i:=5) (N:=some 53) HT_ ?_
    refine tv_ (i:=3) (N:=some 51) HT_ HW_ hHeld ?_
    refine one_ (i:=6) (N:=some 54) #[tT,tT,tT,tT,tT,tT,tT,fF,fF] rfl rfl (one_of HT_.out (by kernel_rfl)) (by decide) (fun K hK=>?_)
    refine goes_ Try.func73 (by kernel_rfl) rfl #[.int .i64 t591,.int .i64 t597] (by rfl) rfl rfl am_ ?_
    with_reducible refine(dragnetref03_Size.calls t591 t597 t604 _ A22.out).mono ?_
    rintro e w' ⟨rfl,⟨nd,rfl⟩⟩
    refine⟨_,rfl,?_⟩
    refine hK.out _ _ ⟨hHeld.1,hHeld.2.1,hHeld.2.2⟩ (fun hHeld=>?_)
    clear hK K
    refine norm_ (a':=?_) ?_ ?_
    rotate_left
    .show Act.put _ (some 54) _=_
     simp only[Act.put,List.setIfInBounds_toArray,List.set_cons_zero,List.set_cons_succ,i64_w,i32_w]
     rfl
    refine pv_ (i:=7) (N:=some 55) HT_ ?_
    refine pv_ (i:=8) (N:=some 10) HT_ ?_
    refine done_ (done_of HT_.out (by kernel_rfl)) ?_
    obtain⟨i030,hi030,_,hsz30,_⟩:=info_parts info5
    obtain⟨A30,hcut30,hA30,hC30⟩:=print_mid_of (P:=Try.prog) (Value.int .u8) 0 22 5 .i64 .i64 Try.underlying22 hi030 hsz30 A0 c0 l0 t601 (wrap64 (t601+t604)) od_ (by first|omega|exact od_) od_ HC0.out
    have HR605:=Aside0.mk (Kd.C_of_reads (h1:=fun _=>rfl) (hA30 _ (Kd.reads_of_C HR0.out)))
    have HC605:=Aside0.mk hC30
    clear hA30 hC30 hi030 hsz30
    try go_wp2_with (first|((with_reducible refine gaC_ (f:=74) rfl ?_);refine goesL_ (some 66) rfl rfl Try.func74 (by kernel_rfl) rfl #[.slice A30 ((l0.take ((wrap64 (t601+t604)):Int).toNat).drop (t601:Int).toNat).length (c0 - t601.toNat),.int .i64 t591,.int .i64 t597] rfl (by(try simp only[List.map_toArray,List.map_cons,List.map_nil]);first|done|(rw[show((l0.take ((wrap64 (t601+t604)):Int).toNat).drop (t601:Int).toNat).length=((wrap64 (t601+t604)).toNat - t601.toNat) from(by rw[List.length_drop,List.length_take];have h_:((wrap64 (t601+t604)):Int)<=(l0.length:Int):=od_;omega)]<;>rfl)|rfl|(simp only[List.length_drop,List.length_take];rfl)) ?_;(with_reducible refine(dragnetref03_Unpack.calls kj5 _ _ ((l0.take ((wrap64 (t601+t604)):Int).toNat).drop (t601:Int).toNat) t591 t597 t606 t607 _ ?side1 ?side2 A26.out).mono ?_);(case side1=>repeat(first|exact(Kd.C_below HR605.out bs72_)|(with_reducible refine Kd.cA_ ?_ _)|(with_reducible refine Kd.cN_ ?_ _)|(with_reducible refine Kd.cD_ ?_)));(case side2=>exact HC605.out);rintro e w31 ⟨v608,rfl,ho0,hb⟩;refine⟨_,rfl,?_⟩;have n0_:=Aside0.mk (Kd.R_lower ho0 (pbS_ bs72_));have n1_:=Aside0.mk (IsS72.below (isu72_ HI590.out) hb);have n2_:=Aside0.mk (below_step bs72_ hb);clear HI590;clear HB;have HO609:=n0_;have HI590:=n1_;have HB:=n2_;clear n0_ n1_ n2_;obtain⟨ASz32_0,cSz32_0,HGz32,hgz32,HSz32_0⟩:=HI590.out;have hcz32_0:=cellS72_0 HGz32;have hcz32_1:=cellS72_1 HGz32;have hcz32_2:=cellS72_2 HGz32;have hfz32_1:=blk_frozen HGz32 1;have hfz32_2:=blk_frozen HGz32 2;clear HGz32 hgz32))
    go_loopg [9] kj5 (fun kq v9 w'=>∃ (x9_2:Int) (x11_2:List Int) (x591001_2:Int) (x591002_2:Bool),v9= .int .i64 x9_2∧Aside0 (dragnetref04_TakeBlock.l0 kq l0 t591 t594 t597 x9_2 x11_2 l0 x591001_2 x591002_2=some (r1,r2,r3))∧Aside0 (kq<=kj5)∧Aside0 (Kd.R (Kd.int .u64) 48 w' w.heap.size (fun _=>True) v608 x11_2)∧Aside0 (IsS72 w w' gb590 l0 x591001_2 x591002_2)∧Aside0 (Below w.heap.size w w'))
    case atStart=>exact⟨(t600),(t606),(wrap64 (t601+t604)),(t602),rs_,H',⟨Nat.le_refl _⟩,⟨by(with_reducible repeat(first|apply Kd.rA_|apply Kd.rN_|apply Kd.rD_));exact Kd.R_mono (Kd.R_far (p:=⟨gb590,1,none⟩) (IsS72.apart HI590.out HO609.out (by decide)) (fun _ hk=>hk.2) (.int .i64 (wrap64 (t601+t604)))) (fun _ hk=>trivial)⟩,⟨by repeat(first|(with_reducible first|exact HI590.out|apply IsS72.alloc|apply IsS72.drewN|apply IsS72.drew|apply IsS72.set_1|apply IsS72.set_2)|exact HI590.out)⟩,⟨bs72_⟩⟩
    case round=>
     clear H'
     clear c23b0 c23b1 c24 c24b0 c24b1 c25 c25b0 c25b1
     clear c27b0 c27b1
     clear hcz29_0 hcz29_1 hcz29_2 hcz32_0 hcz32_1 hcz32_2
     clear hfz29_1 hfz29_2 hfz32_1 hfz32_2
     obtain⟨x9_2,x11_2,x591001_2,x591002_2,rfl,HA,HK2,HO_11,HI590,HB⟩:=hrel
     cases gk with
     |zero=>exact absurd HA.out (by simp[dragnetref04_TakeBlock.l0])
     |succ k2=>
      have H:=HA.out
      clear HA
      simp only[dragnetref04_TakeBlock.l0]at H
      by_cases c33:x9_2 > 0
      .rw[if_pos c33]at H
       have c33b0:=decide_eq_true c33
       clear c33
       replace H:=Option.bind_eq_some_iff.mp H
       obtain⟨⟨t610,t611,t612⟩,A340,H⟩:=H
       try dsimp only at H
       have A34:=Aside0.mk A340
       clear A340
       replace H:=Option.bind_eq_some_iff.mp H
       obtain⟨⟨t613,t614,t615⟩,A350,H⟩:=H
       try dsimp only at H
       have A35:=Aside0.mk A350
       clear A350
       by_cases c36:t615=true
       .subst c36
        rw[if_pos rfl]at H
        simp only[Option.some.injEq,Prod.mk.injEq]at H
        obtain⟨rfl,rfl,rfl⟩:=H
        go_wp2_with (first|((with_reducible refine gaC_ (f:=38) rfl ?_);refine goesL_ (some 80) rfl rfl Try.func38 (by kernel_rfl) rfl #[.pointer (some ⟨gb590,0,none⟩),.int .i64 31] rfl am_ ?_;(with_reducible refine(dragnetref02_Reader_Count.calls k2 gb590 l0 x591001_2 x591002_2 31 t610 t611 t612 w _ ?side1 ?side2 A34.out).mono ?_);(case side1=>exact isu72_ HI590.out);(case side2=>repeat(first|(with_reducible first|exact HB.out|apply pbA_|apply pbN_|apply pb1_|refine below_set ?_ (IsS72.ge HI590.out))|exact HB.out));rintro e w37 ⟨rfl,hi,hb,hk⟩;refine⟨_,rfl,?_⟩;replace HO_11:=Aside0.mk (Kd.R_mono (Kd.R_keep (IsS72.apart (show IsS72 w _ gb590 l0 x591001_2 x591002_2 from isu72_ HI590.out) (Kd.ru_ HO_11.out) (by decide)) hk (fun _ h=>h.2)) (fun _ h=>h.1));replace HB:=Aside0.mk (hb);replace HI590:=Aside0.mk (hi))|((with_reducible refine gaC_ (f:=60) rfl ?_);refine goesL_ (some 82) rfl rfl Try.func60 (by kernel_rfl) rfl #[.pointer (some ⟨gb590,0,none⟩),.int .u64 18446744073709551615] rfl am_ ?_;(with_reducible refine(dragnetref02_Reader_Number.calls k2 gb590 l0 t611 t612 18446744073709551615 t613 t614 true w _ ?side1 ?side2 A35.out).mono ?_);(case side1=>exact isu72_ HI590.out);(case side2=>repeat(first|(with_reducible first|exact HB.out|apply pbA_|apply pbN_|apply pb1_|refine below_set ?_ (IsS72.ge HI590.out))|exact HB.out));rintro e w38 ⟨rfl,hi,hb,hk⟩;refine⟨_,rfl,?_⟩;replace HO_11:=Aside0.mk (Kd.R_mono (Kd.R_keep (IsS72.apart (show IsS72 w _ gb590 l0 t611 t612 from isu72_ HI590.out) (Kd.ru_ HO_11.out) (by decide)) hk (fun _ h=>h.2)) (fun _ h=>h.1));replace HB:=Aside0.mk (hb);replace HI590:=Aside0.mk (hi);obtain⟨ASz39_0,cSz39_0,HGz39,hgz39,HSz39_0⟩:=HI590.out;have hcz39_0:=cellS72_0 HGz39;have hcz39_1:=cellS72_1 HGz39;have hcz39_2:=cellS72_2 HGz39;have hfz39_1:=blk_frozen HGz39 1;have hfz39_2:=blk_frozen HGz39 2;clear HGz39 hgz39))
        go_ret3
        exact⟨_,rf_,ni_,bs72_⟩
       .replace c36:=Bool.eq_false_iff.mpr c36
        subst c36
        rw[if_neg (show ¬ (false=true) by decide)]at H
        by_cases c40:t610≥t591
        .rw[if_pos c40]at H
         have c40b0:=decide_eq_true c40
         clear c40
         simp only[Option.some.injEq,Prod.mk.injEq]at H
         obtain⟨rfl,rfl,rfl⟩:=H
         go_wp2_with (first|((with_reducible refine gaC_ (f:=38) rfl ?_);refine goesL_ (some 80) rfl rfl Try.func38 (by kernel_rfl) rfl #[.pointer (some ⟨gb590,0,none⟩),.int .i64 31] rfl am_ ?_;(with_reducible refine(dragnetref02_Reader_Count.calls k2 gb590 l0 x591001_2 x591002_2 31 t610 t611 t612 w _ ?side1 ?side2 A34.out).mono ?_);(case side1=>exact isu72_ HI590.out);(case side2=>repeat(first|(with_reducible first|exact HB.out|apply pbA_|apply pbN_|apply pb1_|refine below_set ?_ (IsS72.ge HI590.out))|exact HB.out));rintro e w41 ⟨rfl,hi,hb,hk⟩;refine⟨_,rfl,?_⟩;replace HO_11:=Aside0.mk (Kd.R_mono (Kd.R_keep (IsS72.apart (show IsS72 w _ gb590 l0 x591001_2 x591002_2 from isu72_ HI590.out) (Kd.ru_ HO_11.out) (by decide)) hk (fun _ h=>h.2)) (fun _ h=>h.1));replace HB:=Aside0.mk (hb);replace HI590:=Aside0.mk (hi))|((with_reducible refine gaC_ (f:=60) rfl ?_);refine goesL_ (some 82) rfl rfl Try.func60 (by kernel_rfl) rfl #[.pointer (some ⟨gb590,0,none⟩),.int .u64 18446744073709551615] rfl am_ ?_;(with_reducible refine(dragnetref02_Reader_Number.calls k2 gb590 l0 t611 t612 18446744073709551615 t613 t614 false w _ ?side1 ?side2 A35.out).mono ?_);(case side1=>exact isu72_ HI590.out);(case side2=>repeat(first|(with_reducible first|exact HB.out|apply pbA_|apply pbN_|apply pb1_|refine below_set ?_ (IsS72.ge HI590.out))|exact HB.out));rintro e w42 ⟨rfl,hi,hb,hk⟩;refine⟨_,rfl,?_⟩;replace HO_11:=Aside0.mk (Kd.R_mono (Kd.R_keep (IsS72.apart (show IsS72 w _ gb590 l0 t611 t612 from isu72_ HI590.out) (Kd.ru_ HO_11.out) (by decide)) hk (fun _ h=>h.2)) (fun _ h=>h.1));replace HB:=Aside0.mk (hb);replace HI590:=Aside0.mk (hi);obtain⟨ASz43_0,cSz43_0,HGz43,hgz43,HSz43_0⟩:=HI590.out;have hcz43_0:=cellS72_0 HGz43;have hcz43_1:=cellS72_1 HGz43;have hcz43_2:=cellS72_2 HGz43;have hfz43_1:=blk_frozen HGz43 1;have hfz43_2:=blk_frozen HGz43 2;clear HGz43 hgz43))
         go_ret3
         exact⟨_,rf_,ni_,bs72_⟩
        .rw[if_neg c40]at H
         have c40b0:=decide_eq_false c40
         clear c40
         by_cases c44:t597=64
         .rw[if_pos c44]at H
          have c44b0:=beq_iff_eq.mpr c44
          have c44b1:=bne_eq_false_iff_eq.mpr c44
          clear c44
          simp only[Option.some.injEq,Prod.mk.injEq]at H
          obtain⟨rfl,rfl,rfl⟩:=H
          go_wp2_with (first|((with_reducible refine gaC_ (f:=38) rfl ?_);refine goesL_ (some 80) rfl rfl Try.func38 (by kernel_rfl) rfl #[.pointer (some ⟨gb590,0,none⟩),.int .i64 31] rfl am_ ?_;(with_reducible refine(dragnetref02_Reader_Count.calls k2 gb590 l0 x591001_2 x591002_2 31 t610 t611 t612 w _ ?side1 ?side2 A34.out).mono ?_);(case side1=>exact isu72_ HI590.out);(case side2=>repeat(first|(with_reducible first|exact HB.out|apply pbA_|apply pbN_|apply pb1_|refine below_set ?_ (IsS72.ge HI590.out))|exact HB.out));rintro e w45 ⟨rfl,hi,hb,hk⟩;refine⟨_,rfl,?_⟩;replace HO_11:=Aside0.mk (Kd.R_mono (Kd.R_keep (IsS72.apart (show IsS72 w _ gb590 l0 x591001_2 x591002_2 from isu72_ HI590.out) (Kd.ru_ HO_11.out) (by decide)) hk (fun _ h=>h.2)) (fun _ h=>h.1));replace HB:=Aside0.mk (hb);replace HI590:=Aside0.mk (hi))|((with_reducible refine gaC_ (f:=60) rfl ?_);refine goesL_ (some 82) rfl rfl Try.func60 (by kernel_rfl) rfl #[.pointer (some ⟨gb590,0,none⟩),.int .u64 18446744073709551615] rfl am_ ?_;(with_reducible refine(dragnetref02_Reader_Number.calls k2 gb590 l0 t611 t612 18446744073709551615 t613 t614 false w _ ?side1 ?side2 A35.out).mono ?_);(case side1=>exact isu72_ HI590.out);(case side2=>repeat(first|(with_reducible first|exact HB.out|apply pbA_|apply pbN_|apply pb1_|refine below_set ?_ (IsS72.ge HI590.out))|exact HB.out));rintro e w46 ⟨rfl,hi,hb,hk⟩;refine⟨_,rfl,?_⟩;replace HO_11:=Aside0.mk (Kd.R_mono (Kd.R_keep (IsS72.apart (show IsS72 w _ gb590 l0 t611 t612 from isu72_ HI590.out) (Kd.ru_ HO_11.out) (by decide)) hk (fun _ h=>h.2)) (fun _ h=>h.1));replace HB:=Aside0.mk (hb);replace HI590:=Aside0.mk (hi);obtain⟨ASz47_0,cSz47_0,HGz47,hgz47,HSz47_0⟩:=HI590.out;have hcz47_0:=cellS72_0 HGz47;have hcz47_1:=cellS72_1 HGz47;have hcz47_2:=cellS72_2 HGz47;have hfz47_1:=blk_frozen HGz47 1;have hfz47_2:=blk_frozen HGz47 2;clear HGz47 hgz47))
          go_ret3
          exact⟨_,rf_,ni_,bs72_⟩
         .rw[if_neg c44]at H
          have c44b0:=beq_eq_false_iff_ne.mpr c44
          have c44b1:=bne_iff_ne.mpr c44
          by_cases c48:0<=t610
          rotate_left
          .rw[if_neg c48]at H
           cases H
          rw[if_pos c48]at H
          have c48b0:=decide_eq_true c48
          clear c48
          by_cases c49:t610 < (x11_2.length:Int)
          rotate_left
          .rw[if_neg c49]at H
           cases H
          rw[if_pos c49]at H
          have c49b0:=decide_eq_true c49
          clear c49
          by_cases c50:0<=t597
          rotate_left
          .rw[if_neg c50]at H
           cases H
          rw[if_pos c50]at H
          have c50b0:=eq_true c50
          have c50b1:=decide_eq_true c50
          clear c50
          obtain⟨ji51,hji51⟩:∃ j_:Int,(shl .u64 t613 t597)=j_:=⟨_,rfl⟩
          replace H:(dragnetref04_TakeBlock.l0 k2 l0 t591 t594 t597 (wrap64 (x9_2 - 1)) (x11_2.set (t610:Int).toNat (IntKind.u64.wrap ((rd x11_2 t610)+(ji51)))) l0 t614 false)=some (r1,r2,r3):=hj_ hji51 H
          have hji51_:(IntKind.u64.wrap (t613*2 ^ min t597.toNat 64))=ji51:=hji51
          have hji51z:t597<=64->(IntKind.u64.wrap (t613*2 ^ t597.toNat))=ji51:=shl_small hji51
          obtain⟨y617,hy617⟩:∃ y_:List Int,y_=(x11_2.set (t610:Int).toNat (IntKind.u64.wrap ((rd x11_2 t610)+(ji51)))):=⟨_,rfl⟩
          replace H:(dragnetref04_TakeBlock.l0 k2 l0 t591 t594 t597 (wrap64 (x9_2 - 1)) y617 l0 t614 false)=some (r1,r2,r3):=hx_ hy617 H
          have Ny617:=Aside0.mk hy617
          clear hy617
          have H':=Aside0.mk H
          clear H
          try go_wp2_with (first|((with_reducible refine gaC_ (f:=38) rfl ?_);refine goesL_ (some 80) rfl rfl Try.func38 (by kernel_rfl) rfl #[.pointer (some ⟨gb590,0,none⟩),.int .i64 31] rfl am_ ?_;(with_reducible refine(dragnetref02_Reader_Count.calls k2 gb590 l0 x591001_2 x591002_2 31 t610 t611 t612 w _ ?side1 ?side2 A34.out).mono ?_);(case side1=>exact isu72_ HI590.out);(case side2=>repeat(first|(with_reducible first|exact HB.out|apply pbA_|apply pbN_|apply pb1_|refine below_set ?_ (IsS72.ge HI590.out))|exact HB.out));rintro e w53 ⟨rfl,hi,hb,hk⟩;refine⟨_,rfl,?_⟩;replace HO_11:=Aside0.mk (Kd.R_mono (Kd.R_keep (IsS72.apart (show IsS72 w _ gb590 l0 x591001_2 x591002_2 from isu72_ HI590.out) (Kd.ru_ HO_11.out) (by decide)) hk (fun _ h=>h.2)) (fun _ h=>h.1));replace HB:=Aside0.mk (hb);replace HI590:=Aside0.mk (hi))|((with_reducible refine gaC_ (f:=60) rfl ?_);refine goesL_ (some 82) rfl rfl Try.func60 (by kernel_rfl) rfl #[.pointer (some ⟨gb590,0,none⟩),.int .u64 18446744073709551615] rfl am_ ?_;(with_reducible refine(dragnetref02_Reader_Number.calls k2 gb590 l0 t611 t612 18446744073709551615 t613 t614 false w _ ?side1 ?side2 A35.out).mono ?_);(case side1=>exact isu72_ HI590.out);(case side2=>repeat(first|(with_reducible first|exact HB.out|apply pbA_|apply pbN_|apply pb1_|refine below_set ?_ (IsS72.ge HI590.out))|exact HB.out));rintro e w54 ⟨rfl,hi,hb,hk⟩;refine⟨_,rfl,?_⟩;replace HO_11:=Aside0.mk (Kd.R_mono (Kd.R_keep (IsS72.apart (show IsS72 w _ gb590 l0 t611 t612 from isu72_ HI590.out) (Kd.ru_ HO_11.out) (by decide)) hk (fun _ h=>h.2)) (fun _ h=>h.1));replace HB:=Aside0.mk (hb);replace HI590:=Aside0.mk (hi);obtain⟨ASz55_0,cSz55_0,HGz55,hgz55,HSz55_0⟩:=HI590.out;have hcz55_0:=cellS72_0 HGz55;have hcz55_1:=cellS72_1 HGz55;have hcz55_2:=cellS72_2 HGz55;have hfz55_1:=blk_frozen HGz55 1;have hfz55_2:=blk_frozen HGz55 2;clear HGz55 hgz55))
          have n0_:=Aside0.mk (Kd.rD_ HO_11.out)
          have n1_:=Aside0.mk (IsS72.drew HI590.out)
          have n2_:=Aside0.mk (pb1_ HB.out)
          clear HO_11
          clear HI590
          clear HB
          have HO_11:=n0_
          have HI590:=n1_
          have HB:=n2_
          clear n0_ n1_ n2_
          obtain⟨Ao57,co57,eo57⟩:=Kd.R_slice HO_11.out
          (first|subst eo57|(injection eo57 with f1_ f2_ f3_;have f4_:=f1_.symm;have f5_:=f3_.symm;clear f1_ f2_ f3_;subst f4_;subst f5_))
          have p616:0<=(t610:Int):=od_
          have q616:t610 < (x11_2.length:Int):=od_
          obtain⟨ad616,e616,hx616_0⟩:=Kd.at_int (Kd.R_reads' HO_11.out).2.2 t610 p616 q616
          cases e616
          replace p616:=eq_true p616
          replace q616:=eq_true q616
          have p52:0<=(t610:Int):=od_
          have q52:(t610:Int) < ((x11_2.length:Int):Int):=od_
          obtain⟨go52,co52,eo52,gb52,gl52,cl52,HG52⟩:=Kd.R_form HO_11.out (by omega)
          (first|cases eo52|(injection eo52 with ea_ en_ ec_;(first|subst ea_|(injection ea_ with ea_;subst ea_));subst ec_;clear en_))
          have GB52:=Aside0.mk gb52
          have GG52:=Aside0.mk HG52
          clear gb52 gl52 HG52
          (first|simp only[add_plain]at hx616_0|skip)
          obtain⟨hx52_0,hf52_0⟩:=Kd.R_celln 0 HO_11.out (t610:Int) p52 q52
          replace p52:=eq_true p52
          replace q52:=eq_true q52
          have HN590_go52:=Aside0.mk (show gb590≠go52 from by have h_:=IsS72.own_ne HI590.out HO_11.out (by decide);intro e_;exact h_ (by rw[e_];rfl))
          have HP58:=Kd.R_putn HO_11.out (t610:Int) (IntKind.u64.wrap ((rd x11_2 t610)+(ji51)))
          rw[<- Ny617.out]at HP58
          have HQ58:=Aside0.mk HP58
          clear HP58
          refine start_ (n:=10) (S:=fun w'=>w'.cell? ⟨go52,(t610).toNat,none⟩=some (.int .u64 (rd x11_2 t610))) (ds:=[9]) #[false,false,false,false,false,false,false,false,false,false] (by kernel_rfl) rfl rfl (hx616_0) (fun hHeld=>?_);refine with_tabW dragnetref04_TakeBlock.tab19 dragnetref04_TakeBlock.bits19 (fun HT_ HW_=>?_)
          generalize w54.drew=w56 at HO_11 HI590 HB GG52 HQ58 hf52_0 hx52_0 hx616_0 hHeld ⊢
          refine pv_ (i:=0) (N:=some 96) HT_ ?_
          refine pv_ (i:=1) (N:=some 97) HT_ ?_
          refine pv_ (i:=2) (N:=some 98) HT_ ?_
          refine pv_ (i:=4) (N:=some 100) HT_ ?_
          refine pv_ (i:=5) (N:=some 101) HT_ ?_
          refine pv_ (i:=6) (N:=some 102) HT_ ?_
          refine tv_ (i:=3) (N:=some 99) HT_ HW_ hHeld ?_
          refine pv_ (i:=7) (N:=some 103) HT_ ?_
          refine pv_ (i:=8) (N:=some 104) HT_ ?_
          refine last_ (i:=9) (N:=none) #[tT,tT,tT,tT,tT,tT,tT,tT,tT,tT] rfl rfl (one_of HT_.out (by kernel_rfl)) (by decide) (fun K hK=>?_)
          refine skip_ (w1:=?_) (by rfl) rfl ?_ ?_
          rotate_left
          .go_simp
           rfl
          refine hK.out _ _ ?_
          clear hK K
          refine done_ (done_of HT_.out (by kernel_rfl)) ?_
          try go_wp2
          subst hji51
          go_roundg k2
          case measure=>have:=HJ5.out;have:=HK2.out;omega
          case rel=>exact⟨(wrap64 (x9_2 - 1)),(y617),(t614),(false),rs_,H',⟨by have:=HJ5.out;have:=HK2.out;omega⟩,⟨Kd.ru_ HQ58.out⟩,⟨by repeat(first|(with_reducible first|exact HI590.out|apply IsS72.alloc|apply IsS72.drewN|apply IsS72.drew|apply IsS72.set_1|apply IsS72.set_2|refine IsS72.far ?_ HN590_go52.out _)|exact HI590.out)⟩,⟨by repeat(first|(with_reducible first|exact HB.out|apply pbA_|apply pbN_|apply pb1_|refine below_set ?_ GB52.out|refine below_set ?_ (IsS72.ge HI590.out))|exact HB.out)⟩⟩
      .rw[if_neg c33]at H
       have c33b0:=decide_eq_false c33
       clear c33
       have H':=Aside0.mk H
       clear H
       go_wp2
       go_loopg [15] k2 (fun kq v15 w'=>∃ (x11_3:List Int) (x15_3:Int),v15= .int .i64 x15_3∧Aside0 (dragnetref04_TakeBlock.l1 kq l0 t591 t594 x11_3 x15_3 l0 x591001_2 x591002_2=some (r1,r2,r3))∧Aside0 (kq<=k2)∧Aside0 (Kd.R (Kd.int .u64) 48 w' w.heap.size (fun _=>True) v608 x11_3)∧Aside0 (IsS72 w w' gb590 l0 x591001_2 x591002_2)∧Aside0 (Below w.heap.size w w'))
       case atStart=>exact⟨(x11_2),(0),rs_,H',⟨Nat.le_refl _⟩,⟨Kd.ru_ HO_11.out⟩,⟨by repeat(first|(with_reducible first|exact HI590.out|apply IsS72.alloc|apply IsS72.drewN|apply IsS72.drew|apply IsS72.set_1|apply IsS72.set_2)|exact HI590.out)⟩,⟨bs72_⟩⟩
       case round=>
        clear H'
        clear c33b0
        obtain⟨x11_3,x15_3,rfl,HA,HK3,HO_11,HI590,HB⟩:=hrel
        cases gk with
        |zero=>exact absurd HA.out (by simp[dragnetref04_TakeBlock.l1])
        |succ k3=>
         have H:=HA.out
         clear HA
         simp only[dragnetref04_TakeBlock.l1]at H
         by_cases c59:x15_3 < t591
         .rw[if_pos c59]at H
          have c59b0:=decide_eq_true c59
          clear c59
          by_cases c60:0<=x15_3
          rotate_left
          .rw[if_neg c60]at H
           cases H
          rw[if_pos c60]at H
          have c60b0:=decide_eq_true c60
          clear c60
          by_cases c61:x15_3 < (x11_3.length:Int)
          rotate_left
          .rw[if_neg c61]at H
           cases H
          rw[if_pos c61]at H
          have c61b0:=decide_eq_true c61
          clear c61
          obtain⟨y619,hy619⟩:∃ y_:List Int,y_=(x11_3.set (x15_3:Int).toNat (IntKind.u64.wrap ((rd x11_3 x15_3)+t594))):=⟨_,rfl⟩
          replace H:(dragnetref04_TakeBlock.l1 k3 l0 t591 t594 y619 (wrap64 (x15_3+1)) l0 x591001_2 x591002_2)=some (r1,r2,r3):=hx_ hy619 H
          have Ny619:=Aside0.mk hy619
          clear hy619
          have H':=Aside0.mk H
          clear H
          obtain⟨Ao63,co63,eo63⟩:=Kd.R_slice HO_11.out
          subst eo63
          have p618:0<=(x15_3:Int):=od_
          have q618:x15_3 < (x11_3.length:Int):=od_
          obtain⟨ad618,e618,hx618_0⟩:=Kd.at_int (Kd.R_reads' HO_11.out).2.2 x15_3 p618 q618
          cases e618
          replace p618:=eq_true p618
          replace q618:=eq_true q618
          have p62:0<=(x15_3:Int):=od_
          have q62:(x15_3:Int) < ((x11_3.length:Int):Int):=od_
          obtain⟨go62,co62,eo62,gb62,gl62,cl62,HG62⟩:=Kd.R_form HO_11.out (by omega)
          (first|cases eo62|(injection eo62 with ea_ en_ ec_;(first|subst ea_|(injection ea_ with ea_;subst ea_));subst ec_;clear en_))
          have GB62:=Aside0.mk gb62
          have GG62:=Aside0.mk HG62
          clear gb62 gl62 HG62
          (first|simp only[add_plain]at hx618_0|skip)
          obtain⟨hx62_0,hf62_0⟩:=Kd.R_celln 0 HO_11.out (x15_3:Int) p62 q62
          replace p62:=eq_true p62
          replace q62:=eq_true q62
          have HP64:=Kd.R_putg HO_11.out (x15_3:Int) (IntKind.u64.wrap ((rd x11_3 x15_3)+t594))
          go_wp2_with (first|((with_reducible refine gate_store (t:=48) (p:=116) rfl ?_);refine store_event (t:=48) (p:=116) (v:= ?vo_w65) (w1:=(wr.setCell ⟨go62,(x15_3:Int).toNat,none⟩ (.int .u64 (IntKind.u64.wrap ((rd x11_3 x15_3)+t594))))) ?hg ?ho ?hn ?hr ?_;(case ho=>rfl);(case hg=>rfl);(case hn=>rfl);(case hr=>first|(go_simp;done)|(go_simp;rfl));intro w65 hw;have hg:wr.grownBy w65 (some go62):=(by rw[hw];exact HP64.2);have hp_:Kd.R (Kd.int .u64) 48 w65 w.heap.size (fun _=>True) (.slice (some ⟨go62,0,none⟩) x11_3.length co63) y619:=(by rw[hw,Ny619.out];exact HP64.1);clear HP64;have n0_:=Aside0.mk (hp_);have n1_:=Aside0.mk (IsS72.grown (isu72_ HI590.out) hg (IsS72.own_ne HI590.out HO_11.out (by decide)));have n2_:=Aside0.mk ((by rw[hw];exact below_set (HB.out) GB62.out:Below w.heap.size w w65));clear HO_11;clear HI590;clear HB;have HO_11:=n0_;have HI590:=n1_;have HB:=n2_;clear n0_ n1_ n2_;clear hg hw hp_))
          go_roundg k3
          case measure=>have:=HJ5.out;have:=HK2.out;have:=HK3.out;omega
          case rel=>exact⟨(y619),(wrap64 (x15_3+1)),rs_,H',⟨by have:=HJ5.out;have:=HK2.out;have:=HK3.out;omega⟩,⟨Kd.ru_ HO_11.out⟩,⟨by repeat(first|(with_reducible first|exact HI590.out|apply IsS72.alloc|apply IsS72.drewN|apply IsS72.drew|apply IsS72.set_1|apply IsS72.set_2)|exact HI590.out)⟩,⟨bs72_⟩⟩
         .rw[if_neg c59]at H
          have c59b0:=decide_eq_false c59
          clear c59
          replace H:=Option.bind_eq_some_iff.mp H
          obtain⟨t620,A660,H⟩:=H
          try dsimp only at H
          have A66:=Aside0.mk A660
          clear A660
          by_cases c67:0<=x591001_2
          rotate_left
          .rw[if_neg c67]at H
           cases H
          rw[if_pos c67]at H
          have c67b0:=eq_true c67
          have c67b1:=decide_eq_true c67
          clear c67
          by_cases c68:x591001_2<=(l0.length:Int)
          rotate_left
          .rw[if_neg c68]at H
           cases H
          rw[if_pos c68]at H
          have c68b0:=eq_true c68
          have c68b1:=decide_eq_true c68
          clear c68
          replace H:=Option.bind_eq_some_iff.mp H
          obtain⟨t624,A690,H⟩:=H
          try dsimp only at H
          have A69:=Aside0.mk A690
          clear A690
          by_cases c70:t624=true
          rotate_left
          .replace c70:=Bool.eq_false_iff.mpr c70
           subst c70
           rw[if_neg (show ¬ (false=true) by decide)]at H
           simp only[Option.some.injEq,Prod.mk.injEq]at H
           obtain⟨rfl,rfl,rfl⟩:=H
           try go_wp2
           have n0_:=Aside0.mk (Kd.rD_ HO_11.out)
           have n1_:=Aside0.mk (IsS72.drew HI590.out)
           have n2_:=Aside0.mk (pb1_ HB.out)
           clear HO_11
           clear HI590
           clear HB
           have HO_11:=n0_
           have HI590:=n1_
           have HB:=n2_
           clear n0_ n1_ n2_
           obtain⟨ASz80_0,cSz80_0,HGz80,hgz80,HSz80_0⟩:=HI590.out
           have hcz80_0:=cellS72_0 HGz80
           have hcz80_1:=cellS72_1 HGz80
           have hcz80_2:=cellS72_2 HGz80
           have hfz80_1:=blk_frozen HGz80 1
           have hfz80_2:=blk_frozen HGz80 2
           clear HGz80 hgz80
           obtain⟨i081,hi081,_,hsz81,_⟩:=info_parts info5
           obtain⟨hcut81,hA81,hC81⟩:=print_take_of (P:=Try.prog) (Value.int .u8) 0 22 5 .i64 Try.underlying22 hi081 hsz81 A0 c0 l0 x591001_2 od_ od_ HC0.out
           have HR623:=Aside0.mk (Kd.C_of_reads (h1:=fun _=>rfl) (hA81 _ (Kd.reads_of_C HR0.out)))
           have HC623:=Aside0.mk hC81
           clear hA81 hC81 hi081 hsz81
           obtain⟨Ao82,co82,eo82⟩:=Kd.R_slice HO_11.out
           (first|subst eo82|(injection eo82 with f1_ f2_ f3_;have f4_:=f1_.symm;have f5_:=f3_.symm;clear f1_ f2_ f3_;subst f4_;subst f5_))
           refine start_ (n:=10) (S:=fun w'=>w'.cell? ⟨gb590,0,none⟩=some (.slice ASz80_0 l0.length cSz80_0)∧w'.cell? ⟨gb590,1,none⟩=some (.int .i64 x591001_2)∧w'.cell? ⟨gb590,2,none⟩=some (.bool x591002_2)) (ds:=[]) #[false,false,false,false,false,false,false,false,false,false] (by kernel_rfl) rfl rfl ⟨hcz80_0,hcz80_1,hcz80_2⟩ (fun hHeld=>?_);refine with_tabW dragnetref04_TakeBlock.tab24 dragnetref04_TakeBlock.bits24 (fun HT_ HW_=>?_)
           generalize wr.drew=w79 at HO_11 HI590 HB HR623 hHeld ⊢
           refine pv_ (i:=0) (N:=some 117) HT_ ?_
           refine pv_ (i:=2) (N:=some 119) HT_ ?_
           refine pv_ (i:=3) (N:=some 120) HT_ ?_
           refine pv_ (i:=4) (N:=some 121) HT_ ?_
           refine pv_ (i:=5) (N:=some 122) HT_ ?_
           refine tv_ (i:=6) (N:=some 123) HT_ HW_ hHeld ?_
           refine pv_ (i:=7) (N:=some 124) HT_ ?_
           refine one_ (i:=1) (N:=some 118) #[tT,tT,tT,tT,tT,tT,tT,tT,fF,fF] rfl rfl (one_of HT_.out (by kernel_rfl)) (by decide) (fun K hK=>?_)
           refine goes_ Try.func53 (by kernel_rfl) rfl #[.slice Ao82 x11_3.length co82] (by rfl) rfl rfl am_ ?_
           with_reducible refine(dragnetref04_Block.calls k3 _ _ x11_3 t620 _ ?side1 ?side2 A66.out).mono ?_
           (case side1=>exact Kd.cu_ (Kd.R_reads' HO_11.out).2.2)
           (case side2=>exact(Kd.R_reads' HO_11.out).2.1)
           rintro e w83 ⟨v621,rfl,ho0,hb⟩
           have HS0_:=(hb.cell (World.block_lt_of_cell? _ _ (hHeld.1))).trans (hHeld.1)
           have HS1_:=(hb.cell (World.block_lt_of_cell? _ _ (hHeld.2.1))).trans (hHeld.2.1)
           have HS2_:=(hb.cell (World.block_lt_of_cell? _ _ (hHeld.2.2))).trans (hHeld.2.2)
           refine⟨_,rfl,?_⟩
           have n0_:=Aside0.mk (Kd.R_below (Kd.ru_ HO_11.out) hb)
           have n1_:=Aside0.mk (Kd.R_lower ho0 (pbS_ bs72_))
           have n2_:=Aside0.mk (IsS72.below (isu72_ HI590.out) hb)
           have n3_:=Aside0.mk (below_step bs72_ hb)
           clear HO_11
           clear HI590
           clear HB
           have HO_11:=n0_
           have HO622:=n1_
           have HI590:=n2_
           have HB:=n3_
           clear n0_ n1_ n2_ n3_
           clear hb
           clear ho0
           obtain⟨Ao84,co84,eo84⟩:=Kd.R_slice HO622.out
           (first|subst eo84|(injection eo84 with f1_ f2_ f3_;have f4_:=f1_.symm;have f5_:=f3_.symm;clear f1_ f2_ f3_;subst f4_;subst f5_))
           refine hK.out _ _ ⟨HS0_,HS1_,HS2_⟩ (fun hHeld=>?_)
           clear hK K
           refine norm_ (a':=?_) ?_ ?_
           rotate_left
           .show Act.put _ (some 118) _=_
            simp only[Act.put,List.setIfInBounds_toArray,List.set_cons_zero,List.set_cons_succ,i64_w,i32_w]
            rfl
           refine one_ (i:=8) (N:=some 125) #[tT,tT,tT,tT,tT,tT,tT,tT,tT,fF] rfl rfl (one_of HT_.out (by kernel_rfl)) (by decide) (fun K hK=>?_)
           refine goes_ Try.func14 (by kernel_rfl) rfl #[.slice Ao84 t620.length co84,.slice A0 (l0.take (x591001_2:Int).toNat).length c0] (by rfl) rfl rfl (by(try simp only[List.map_toArray,List.map_cons,List.map_nil]);first|done|(rw[show(l0.take (x591001_2:Int).toNat).length=x591001_2.toNat from(by rw[List.length_take];have h_:(x591001_2:Int)<=(l0.length:Int):=od_;omega)]<;>rfl)|rfl|(simp only[List.length_drop,List.length_take];rfl)) ?_
           with_reducible refine(dragnetref01_Same.calls _ _ t620 _ _ (l0.take (x591001_2:Int).toNat) false _ ?side1 ?side2 ?side3 ?side4 A69.out).mono ?_
           (case side1=>exact Kd.cu_ (Kd.R_reads' HO622.out).2.2)
           (case side2=>exact(Kd.R_reads' HO622.out).2.1)
           (case side3=>exact Kd.cu_ (Kd.C_below HR623.out HB.out))
           (case side4=>exact HC623.out)
           rintro e w' ⟨rfl,⟨nd,rfl⟩⟩
           refine⟨_,rfl,?_⟩
           refine hK.out _ _ ⟨hHeld.1,hHeld.2.1,hHeld.2.2⟩ (fun hHeld=>?_)
           clear hK K
           refine norm_ (a':=?_) ?_ ?_
           rotate_left
           .show Act.put _ (some 125) _=_
            simp only[Act.put,List.setIfInBounds_toArray,List.set_cons_zero,List.set_cons_succ,i64_w,i32_w]
            rfl
           refine pv_ (i:=9) (N:=some 126) HT_ ?_
           refine done_ (done_of HT_.out (by kernel_rfl)) ?_
           try go_wp2
           go_ret3
           exact⟨_,rf_,ni_,bs72_⟩
          subst c70
          rw[if_pos rfl]at H
          simp only[Option.some.injEq,Prod.mk.injEq]at H
          obtain⟨rfl,rfl,rfl⟩:=H
          try go_wp2
          have n0_:=Aside0.mk (Kd.rD_ HO_11.out)
          have n1_:=Aside0.mk (IsS72.drew HI590.out)
          have n2_:=Aside0.mk (pb1_ HB.out)
          clear HO_11
          clear HI590
          clear HB
          have HO_11:=n0_
          have HI590:=n1_
          have HB:=n2_
          clear n0_ n1_ n2_
          obtain⟨ASz72_0,cSz72_0,HGz72,hgz72,HSz72_0⟩:=HI590.out
          have hcz72_0:=cellS72_0 HGz72
          have hcz72_1:=cellS72_1 HGz72
          have hcz72_2:=cellS72_2 HGz72
          have hfz72_1:=blk_frozen HGz72 1
          have hfz72_2:=blk_frozen HGz72 2
          clear HGz72 hgz72
          obtain⟨i073,hi073,_,hsz73,_⟩:=info_parts info5
          obtain⟨hcut73,hA73,hC73⟩:=print_take_of (P:=Try.prog) (Value.int .u8) 0 22 5 .i64 Try.underlying22 hi073 hsz73 A0 c0 l0 x591001_2 od_ od_ HC0.out
          have HR623:=Aside0.mk (Kd.C_of_reads (h1:=fun _=>rfl) (hA73 _ (Kd.reads_of_C HR0.out)))
          have HC623:=Aside0.mk hC73
          clear hA73 hC73 hi073 hsz73
          obtain⟨Ao74,co74,eo74⟩:=Kd.R_slice HO_11.out
          (first|subst eo74|(injection eo74 with f1_ f2_ f3_;have f4_:=f1_.symm;have f5_:=f3_.symm;clear f1_ f2_ f3_;subst f4_;subst f5_))
          refine start_ (n:=10) (S:=fun w'=>w'.cell? ⟨gb590,0,none⟩=some (.slice ASz72_0 l0.length cSz72_0)∧w'.cell? ⟨gb590,1,none⟩=some (.int .i64 x591001_2)∧w'.cell? ⟨gb590,2,none⟩=some (.bool x591002_2)) (ds:=[]) #[false,false,false,false,false,false,false,false,false,false] (by kernel_rfl) rfl rfl ⟨hcz72_0,hcz72_1,hcz72_2⟩ (fun hHeld=>?_);refine with_tabW dragnetref04_TakeBlock.tab24 dragnetref04_TakeBlock.bits24 (fun HT_ HW_=>?_)
          generalize wr.drew=w71 at HO_11 HI590 HB HR623 hHeld ⊢
          refine pv_ (i:=0) (N:=some 117) HT_ ?_
          refine pv_ (i:=2) (N:=some 119) HT_ ?_
          refine pv_ (i:=3) (N:=some 120) HT_ ?_
          refine pv_ (i:=4) (N:=some 121) HT_ ?_
          refine pv_ (i:=5) (N:=some 122) HT_ ?_
          refine tv_ (i:=6) (N:=some 123) HT_ HW_ hHeld ?_
          refine pv_ (i:=7) (N:=some 124) HT_ ?_
          refine one_ (i:=1) (N:=some 118) #[tT,tT,tT,tT,tT,tT,tT,tT,fF,fF] rfl rfl (one_of HT_.out (by kernel_rfl)) (by decide) (fun K hK=>?_)
          refine goes_ Try.func53 (by kernel_rfl) rfl #[.slice Ao74 x11_3.length co74] (by rfl) rfl rfl am_ ?_
          with_reducible refine(dragnetref04_Block.calls k3 _ _ x11_3 t620 _ ?side1 ?side2 A66.out).mono ?_
          (case side1=>exact Kd.cu_ (Kd.R_reads' HO_11.out).2.2)
          (case side2=>exact(Kd.R_reads' HO_11.out).2.1)
          rintro e w75 ⟨v621,rfl,ho0,hb⟩
          have HS0_:=(hb.cell (World.block_lt_of_cell? _ _ (hHeld.1))).trans (hHeld.1)
          have HS1_:=(hb.cell (World.block_lt_of_cell? _ _ (hHeld.2.1))).trans (hHeld.2.1)
          have HS2_:=(hb.cell (World.block_lt_of_cell? _ _ (hHeld.2.2))).trans (hHeld.2.2)
          refine⟨_,rfl,?_⟩
          have n0_:=Aside0.mk (Kd.R_below (Kd.ru_ HO_11.out) hb)
          have n1_:=Aside0.mk (Kd.R_lower ho0 (pbS_ bs72_))
          have n2_:=Aside0.mk (IsS72.below (isu72_ HI590.out) hb)
          have n3_:=Aside0.mk (below_step bs72_ hb)
          clear HO_11
          clear HI590
          clear HB
          have HO_11:=n0_
          have HO622:=n1_
          have HI590:=n2_
          have HB:=n3_
          clear n0_ n1_ n2_ n3_
          clear hb
          clear ho0
          obtain⟨Ao76,co76,eo76⟩:=Kd.R_slice HO622.out
          (first|subst eo76|(injection eo76 with f1_ f2_ f3_;have f4_:=f1_.symm;have f5_:=f3_.symm;clear f1_ f2_ f3_;subst f4_;subst f5_))
          refine hK.out _ _ ⟨HS0_,HS1_,HS2_⟩ (fun hHeld=>?_)
          clear hK K
          refine norm_ (a':=?_) ?_ ?_
          rotate_left
          .show Act.put _ (some 118) _=_
           simp only[Act.put,List.setIfInBounds_toArray,List.set_cons_zero,List.set_cons_succ,i64_w,i32_w]
           rfl
          refine one_ (i:=8) (N:=some 125) #[tT,tT,tT,tT,tT,tT,tT,tT,tT,fF] rfl rfl (one_of HT_.out (by kernel_rfl)) (by decide) (fun K hK=>?_)
          refine goes_ Try.func14 (by kernel_rfl) rfl #[.slice Ao76 t620.length co76,.slice A0 (l0.take (x591001_2:Int).toNat).length c0] (by rfl) rfl rfl (by(try simp only[List.map_toArray,List.map_cons,List.map_nil]);first|done|(rw[show(l0.take (x591001_2:Int).toNat).length=x591001_2.toNat from(by rw[List.length_take];have h_:(x591001_2:Int)<=(l0.length:Int):=od_;omega)]<;>rfl)|rfl|(simp only[List.length_drop,List.length_take];rfl)) ?_
          with_reducible refine(dragnetref01_Same.calls _ _ t620 _ _ (l0.take (x591001_2:Int).toNat) true _ ?side1 ?side2 ?side3 ?side4 A69.out).mono ?_
          (case side1=>exact Kd.cu_ (Kd.R_reads' HO622.out).2.2)
          (case side2=>exact(Kd.R_reads' HO622.out).2.1)
          (case side3=>exact Kd.cu_ (Kd.C_below HR623.out HB.out))
          (case side4=>exact HC623.out)
          rintro e w' ⟨rfl,⟨nd,rfl⟩⟩
          refine⟨_,rfl,?_⟩
          refine hK.out _ _ ⟨hHeld.1,hHeld.2.1,hHeld.2.2⟩ (fun hHeld=>?_)
          clear hK K
          refine norm_ (a':=?_) ?_ ?_
          rotate_left
          .show Act.put _ (some 125) _=_
           simp only[Act.put,List.setIfInBounds_toArray,List.set_cons_zero,List.set_cons_succ,i64_w,i32_w]
           rfl
          refine pv_ (i:=9) (N:=some 126) HT_ ?_
          refine done_ (done_of HT_.out (by kernel_rfl)) ?_
          try go_wp2
          ((rw[drewN_self w75];generalize hq_:World.drewN w75 _=w75;have n0_:Aside0 (Kd.R (Kd.int .u8) 5 w75 w.heap.size (fun _=>True) (.slice Ao76 t620.length co76) t620):=⟨by rw[<- hq_];exact(Kd.ru_ HO622.out)⟩;have n1_:Aside0 (Kd.R (Kd.int .u64) 48 w75 w.heap.size (fun _=>True) (.slice Ao74 x11_3.length co74) x11_3):=⟨by rw[<- hq_];exact(Kd.ru_ HO_11.out)⟩;have n2_:Aside0 (IsS72 w w75 gb590 l0 x591001_2 x591002_2):=⟨by rw[<- hq_];exact(isu72_ HI590.out)⟩;have n3_:Aside0 (Below w.heap.size w w75):=⟨by rw[<- hq_];exact bs72_⟩;clear HO622 HO_11 HI590 HB hq_;have HO622:=n0_;have HO_11:=n1_;have HI590:=n2_;have HB:=n3_;clear n0_ n1_ n2_ n3_))
          have n0_:=Aside0.mk (Kd.rD_ HO_11.out)
          have n1_:=Aside0.mk (Kd.rD_ HO622.out)
          have n2_:=Aside0.mk (IsS72.drew HI590.out)
          have n3_:=Aside0.mk (pb1_ HB.out)
          clear HO_11
          clear HO622
          clear HI590
          clear HB
          have HO_11:=n0_
          have HO622:=n1_
          have HI590:=n2_
          have HB:=n3_
          clear n0_ n1_ n2_ n3_
          obtain⟨ASz78_0,cSz78_0,HGz78,hgz78,HSz78_0⟩:=HI590.out
          have hcz78_0:=cellS72_0 HGz78
          have hcz78_1:=cellS72_1 HGz78
          have hcz78_2:=cellS72_2 HGz78
          have hfz78_1:=blk_frozen HGz78 1
          have hfz78_2:=blk_frozen HGz78 2
          clear HGz78 hgz78
          refine start_ (n:=8) (S:=fun w'=>w'.cell? ⟨gb590,0,none⟩=some (.slice ASz78_0 l0.length cSz78_0)∧w'.cell? ⟨gb590,1,none⟩=some (.int .i64 x591001_2)∧w'.cell? ⟨gb590,2,none⟩=some (.bool x591002_2)) (ds:=[]) #[false,false,false,false,false,false,false,false] (by kernel_rfl) rfl rfl ⟨hcz78_0,hcz78_1,hcz78_2⟩ (fun hHeld=>?_);refine with_tabW dragnetref04_TakeBlock.tab26 dragnetref04_TakeBlock.bits26 (fun HT_ HW_=>?_)
          generalize w75.drew=w77 at HO_11 HO622 HI590 HB hHeld ⊢
          refine pv_ (i:=0) (N:=some 127) HT_ ?_
          refine pv_ (i:=1) (N:=some 128) HT_ ?_
          refine pv_ (i:=2) (N:=some 129) HT_ ?_
          refine pv_ (i:=3) (N:=some 130) HT_ ?_
          refine pv_ (i:=5) (N:=some 2) HT_ ?_
          refine tv_ (i:=4) (N:=some 131) HT_ HW_ hHeld ?_
          refine pv_ (i:=6) (N:=some 3) HT_ ?_
          refine pv_ (i:=7) (N:=some 4) HT_ ?_
          refine done_ (done_of HT_.out (by kernel_rfl)) ?_
          try go_wp2
          go_ret3
          exact⟨_,rf_,by(with_reducible repeat(first|apply Kd.rA_|apply Kd.rN_|apply Kd.rD_));exact HO_11.out,bs72_⟩
def dragnetref04_TakeList.l0:Nat->List Int->Int->Int->List Int->Option (List Int×Int×Int)
 |0,_,_,_,_=>none
 |k+1,x0,x7,x8,x10=>if(IntKind.u64.wrap ((x10.length:Int))) < x7 then(if 0<=x8 then(if x8<=(x0.length:Int)then((dragnetref04_TakeBlock.f k (x0.drop (x8:Int).toNat)).bind fun bt629=>(if bt629.2.2=0 then(if(IntKind.u64.wrap ((bt629.1.length:Int)))=(mn 32 (IntKind.u64.wrap (x7 - (IntKind.u64.wrap ((x10.length:Int))))))then(if x10.length+bt629.1.length < 17592186044416 then(dragnetref04_TakeList.l0 k x0 x7 (wrap64 (x8+bt629.2.1)) (x10++bt629.1))else(none))else(some (([]:List Int),0,2)))else(some (([]:List Int),0,2))))else(none))else(none))else(some (x10,x8,0))
def dragnetref04_TakeList.f (k:Nat) (l0:List Int) (a1:Int):Option (List Int×Int×Int):=if a1 < 0 then(some (([]:List Int),0,1))else((dragnetref02_Take.f k l0).bind fun bt625=>(if bt625.2.2=0 then(if bt625.1 > (IntKind.u64.wrap (a1))then(some (([]:List Int),0,5))else(dragnetref04_TakeList.l0 k l0 bt625.1 bt625.2.1 ([]:List Int)))else(some (([]:List Int),0,2))))
theorem dragnetref04_TakeList.mono_l:∀ k,(∀ y0 y1 y2 y3,LeO (dragnetref04_TakeList.l0 k y0 y1 y2 y3) (dragnetref04_TakeList.l0 (k+1) y0 y1 y2 y3))
 |0=>fun _ _ _ _ r h=>by simp[dragnetref04_TakeList.l0]at h
 |k+1=>by
  have ih0:=dragnetref04_TakeList.mono_l k
  .intro y0 y1 y2 y3
   unfold dragnetref04_TakeList.l0
   repeat' first
   |(with_reducible exact ih0 _ _ _ _)
   |(with_reducible exact dragnetref02_Take.mono _ _)
   |(with_reducible exact dragnetref04_TakeBlock.mono _ _)
   |(with_reducible exact LeO.refl _)
   |(with_reducible exact LeO.none _)
   |(with_reducible refine LeO.ite ?_ ?_)
   |(with_reducible refine LeO.bind ?_ (fun _=>?_))
theorem dragnetref04_TakeList.mono:∀ a0 a1 k,LeO (dragnetref04_TakeList.f k a0 a1) (dragnetref04_TakeList.f (k+1) a0 a1):=by
 intro a0 a1 k
 have ih0:=dragnetref04_TakeList.mono_l k
 unfold dragnetref04_TakeList.f
 repeat' first
   |(with_reducible exact ih0 _ _ _ _)
   |(with_reducible exact dragnetref02_Take.mono _ _)
   |(with_reducible exact dragnetref04_TakeBlock.mono _ _)
   |(with_reducible exact LeO.refl _)
   |(with_reducible exact LeO.none _)
   |(with_reducible refine LeO.ite ?_ ?_)
   |(with_reducible refine LeO.bind ?_ (fun _=>?_))
set_option maxHeartbeats 8000000 in
set_option maxRecDepth 100000 in
theorem dragnetref04_TakeList.calls (k:Nat) (A0:Option Addr) (c0:Nat) (l0:List Int) (a1:Int) (r1:List Int) (r2:Int) (r3:Int) (w:World) (hr0:Kd.C (Kd.int .u8) w A0 l0.length l0) (hc0:l0.length<=c0) (h:dragnetref04_TakeList.f k l0 a1=some (r1,r2,r3)):
  Calls Try.prog 63 #[.slice A0 l0.length c0,.int .i64 a1] w fun e w'=>∃ v0_:Value,e= .returned (.tuple #[v0_,.int .i64 r2,.int .i64 r3])∧Kd.R (Kd.int .u64) 48 w' w.heap.size (fun _=>True) v0_ r1∧Below w.heap.size w w':=by
 have HR0:=Aside0.mk hr0
 have HC0:=Aside0.mk hc0
 clear hr0 hc0
 have HB:=Aside0.mk (Below.refl w.heap.size w)
 have H:(if a1 < 0 then(some (([]:List Int),0,1))else((dragnetref02_Take.f k l0).bind fun bt625=>(if bt625.2.2=0 then(if bt625.1 > (IntKind.u64.wrap (a1))then(some (([]:List Int),0,5))else(dragnetref04_TakeList.l0 k l0 bt625.1 bt625.2.1 ([]:List Int)))else(some (([]:List Int),0,2)))))=some (r1,r2,r3):=h
 clear h
 by_cases c3:a1 < 0
 .rw[if_pos c3]at H
  have c3b0:=decide_eq_true c3
  clear c3
  simp only[Option.some.injEq,Prod.mk.injEq]at H
  obtain⟨rfl,rfl,rfl⟩:=H
  go_enter Try.func63,Try.ntmps63
  go_wp2
  go_ret3
  exact⟨_,rf_,ni_,bw_⟩
 .rw[if_neg c3]at H
  have c3b0:=decide_eq_false c3
  clear c3
  replace H:=Option.bind_eq_some_iff.mp H
  obtain⟨⟨t625,t626,t627⟩,A40,H⟩:=H
  try dsimp only at H
  have A4:=Aside0.mk A40
  clear A40
  by_cases c5:t627=0
  rotate_left
  .rw[if_neg c5]at H
   have c5b0:=beq_eq_false_iff_ne.mpr c5
   have c5b1:=bne_iff_ne.mpr c5
   simp only[Option.some.injEq,Prod.mk.injEq]at H
   obtain⟨rfl,rfl,rfl⟩:=H
   go_enter Try.func63,Try.ntmps63
   go_wp2_with (first|((with_reducible refine gaC_ (f:=71) rfl ?_);refine goesL_ (some 18) rfl rfl Try.func71 (by kernel_rfl) rfl #[.slice A0 l0.length c0] rfl am_ ?_;(with_reducible refine(dragnetref02_Take.calls k _ _ l0 t625 t626 t627 _ ?side1 ?side2 A4.out).mono ?_);(case side1=>exact Kd.cu_ HR0.out);(case side2=>exact HC0.out);rintro e w30 ⟨rfl,hb⟩;refine⟨_,rfl,?_⟩;replace HB:=Aside0.mk (below_step bw_ hb)))
   go_ret3
   exact⟨_,rf_,ni_,bw_⟩
  rw[if_pos c5]at H
  have c5b0:=beq_iff_eq.mpr c5
  have c5b1:=bne_eq_false_iff_eq.mpr c5
  clear c5
  by_cases c6:t625 > (IntKind.u64.wrap (a1))
  .rw[if_pos c6]at H
   have c6b0:=decide_eq_true c6
   clear c6
   simp only[Option.some.injEq,Prod.mk.injEq]at H
   obtain⟨rfl,rfl,rfl⟩:=H
   go_enter Try.func63,Try.ntmps63
   go_wp2_with (first|((with_reducible refine gaC_ (f:=71) rfl ?_);refine goesL_ (some 18) rfl rfl Try.func71 (by kernel_rfl) rfl #[.slice A0 l0.length c0] rfl am_ ?_;(with_reducible refine(dragnetref02_Take.calls k _ _ l0 t625 t626 t627 _ ?side1 ?side2 A4.out).mono ?_);(case side1=>exact Kd.cu_ HR0.out);(case side2=>exact HC0.out);rintro e w7 ⟨rfl,hb⟩;refine⟨_,rfl,?_⟩;replace HB:=Aside0.mk (below_step bw_ hb)))
   go_ret3
   exact⟨_,rf_,ni_,bw_⟩
  .rw[if_neg c6]at H
   have c6b0:=decide_eq_false c6
   clear c6
   have H':=Aside0.mk H
   clear H
   go_enter Try.func63,Try.ntmps63
   go_wp2_with (first|((with_reducible refine gaC_ (f:=71) rfl ?_);refine goesL_ (some 18) rfl rfl Try.func71 (by kernel_rfl) rfl #[.slice A0 l0.length c0] rfl am_ ?_;(with_reducible refine(dragnetref02_Take.calls k _ _ l0 t625 t626 t627 _ ?side1 ?side2 A4.out).mono ?_);(case side1=>exact Kd.cu_ HR0.out);(case side2=>exact HC0.out);rintro e w8 ⟨rfl,hb⟩;refine⟨_,rfl,?_⟩;replace HB:=Aside0.mk (below_step bw_ hb)))
   go_loopg [8,10] k (fun kq v8 v10 w'=>∃ (x8_1:Int) (x10_1:List Int),v8= .int .i64 x8_1∧Aside0 (dragnetref04_TakeList.l0 kq l0 t625 x8_1 x10_1=some (r1,r2,r3))∧Aside0 (kq<=k)∧Aside0 (Kd.R (Kd.int .u64) 48 w' w.heap.size (fun _=>True) v10 x10_1)∧Aside0 (Below w.heap.size w w'))
   case atStart=>exact⟨(t626),(([]:List Int)),rs_,H',⟨Nat.le_refl _⟩,⟨ni_⟩,⟨bw_⟩⟩
   case round=>
    clear H'
    clear c3b0
    clear c5b0 c5b1
    clear c6b0
    obtain⟨x8_1,x10_1,rfl,HA,HK1,HO_10,HB⟩:=hrel
    cases gk with
    |zero=>exact absurd HA.out (by simp[dragnetref04_TakeList.l0])
    |succ k1=>
     have H:=HA.out
     clear HA
     simp only[dragnetref04_TakeList.l0]at H
     by_cases c9:(IntKind.u64.wrap ((x10_1.length:Int))) < t625
     rotate_left
     .rw[if_neg c9]at H
      have c9b0:=decide_eq_false c9
      clear c9
      simp only[Option.some.injEq,Prod.mk.injEq]at H
      obtain⟨rfl,rfl,rfl⟩:=H
      obtain⟨Ao29,co29,eo29⟩:=Kd.R_slice HO_10.out
      subst eo29
      go_wp2
      go_ret3
      exact⟨_,rf_,by(with_reducible repeat(first|apply Kd.rA_|apply Kd.rN_|apply Kd.rD_));exact HO_10.out,bw_⟩
     rw[if_pos c9]at H
     have c9b0:=decide_eq_true c9
     clear c9
     by_cases c10:0<=x8_1
     rotate_left
     .rw[if_neg c10]at H
      cases H
     rw[if_pos c10]at H
     have c10b0:=eq_true c10
     have c10b1:=decide_eq_true c10
     clear c10
     by_cases c11:x8_1<=(l0.length:Int)
     rotate_left
     .rw[if_neg c11]at H
      cases H
     rw[if_pos c11]at H
     have c11b0:=eq_true c11
     have c11b1:=decide_eq_true c11
     clear c11
     replace H:=Option.bind_eq_some_iff.mp H
     obtain⟨⟨t629,t630,t631⟩,A120,H⟩:=H
     try dsimp only at H
     have A12:=Aside0.mk A120
     clear A120
     by_cases c13:t631=0
     rotate_left
     .rw[if_neg c13]at H
      have c13b0:=beq_eq_false_iff_ne.mpr c13
      have c13b1:=bne_iff_ne.mpr c13
      simp only[Option.some.injEq,Prod.mk.injEq]at H
      obtain⟨rfl,rfl,rfl⟩:=H
      obtain⟨Ao26,co26,eo26⟩:=Kd.R_slice HO_10.out
      subst eo26
      obtain⟨i027,hi027,_,hsz27,_⟩:=info_parts info5
      obtain⟨A27,hcut27,hA27,hC27⟩:=print_drop_of (P:=Try.prog) (Value.int .u8) 0 22 5 .i64 Try.underlying22 hi027 hsz27 A0 c0 l0 x8_1 od_ od_ HC0.out
      have HR628:=Aside0.mk (Kd.C_of_reads (h1:=fun _=>rfl) (hA27 _ (Kd.reads_of_C HR0.out)))
      have HC628:=Aside0.mk hC27
      clear hA27 hC27 hi027 hsz27
      go_wp2_with (first|((with_reducible refine gaC_ (f:=62) rfl ?_);refine goesL_ (some 37) rfl rfl Try.func62 (by kernel_rfl) rfl #[.slice A27 (l0.drop (x8_1:Int).toNat).length (c0 - x8_1.toNat)] rfl (by(try simp only[List.map_toArray,List.map_cons,List.map_nil]);first|done|(rw[show(l0.drop (x8_1:Int).toNat).length=(l0.length - x8_1.toNat) from List.length_drop]<;>rfl)|rfl|(simp only[List.length_drop,List.length_take];rfl)) ?_;(with_reducible refine(dragnetref04_TakeBlock.calls k1 _ _ (l0.drop (x8_1:Int).toNat) t629 t630 t631 _ ?side1 ?side2 A12.out).mono ?_);(case side1=>exact Kd.cu_ (Kd.C_below HR628.out HB.out));(case side2=>exact HC628.out);rintro e w28 ⟨v632,rfl,ho0,hb⟩;refine⟨_,rfl,?_⟩;have n0_:=Aside0.mk (Kd.R_elder' (Kd.ru_ HO_10.out) (Kd.R_base ho0) hb);have n1_:=Aside0.mk (Kd.R_lower (Kd.R_new' ho0 (Kd.R_lt (Kd.ru_ HO_10.out))) (pbS_ bw_));have n2_:=Aside0.mk (below_step bw_ hb);clear HO_10;clear HB;have HO_10:=n0_;have HO633:=n1_;have HB:=n2_;clear n0_ n1_ n2_))
      go_ret3
      exact⟨_,rf_,ni_,bw_⟩
     rw[if_pos c13]at H
     have c13b0:=beq_iff_eq.mpr c13
     have c13b1:=bne_eq_false_iff_eq.mpr c13
     clear c13
     obtain⟨ji14,hji14⟩:∃ j_:Int,(mn 32 (IntKind.u64.wrap (t625 - (IntKind.u64.wrap ((x10_1.length:Int))))))=j_:=⟨_,rfl⟩
     replace H:(if(IntKind.u64.wrap ((t629.length:Int)))=(ji14)then(if x10_1.length+t629.length < 17592186044416 then(dragnetref04_TakeList.l0 k1 l0 t625 (wrap64 (x8_1+t630)) (x10_1++t629))else(none))else(some (([]:List Int),0,2)))=some (r1,r2,r3):=hj_ hji14 H
     have hji14_:(if(IntKind.u64.wrap (t625 - (IntKind.u64.wrap ((x10_1.length:Int))))) < 32 then(IntKind.u64.wrap (t625 - (IntKind.u64.wrap ((x10_1.length:Int)))))else 32)=ji14:=hji14
     by_cases c15:(IntKind.u64.wrap ((t629.length:Int)))=(ji14)
     rotate_left
     .rw[if_neg c15]at H
      have c15b0:=beq_eq_false_iff_ne.mpr c15
      have c15b1:=bne_iff_ne.mpr c15
      simp only[Option.some.injEq,Prod.mk.injEq]at H
      obtain⟨rfl,rfl,rfl⟩:=H
      obtain⟨Ao22,co22,eo22⟩:=Kd.R_slice HO_10.out
      subst eo22
      obtain⟨i023,hi023,_,hsz23,_⟩:=info_parts info5
      obtain⟨A23,hcut23,hA23,hC23⟩:=print_drop_of (P:=Try.prog) (Value.int .u8) 0 22 5 .i64 Try.underlying22 hi023 hsz23 A0 c0 l0 x8_1 od_ od_ HC0.out
      have HR628:=Aside0.mk (Kd.C_of_reads (h1:=fun _=>rfl) (hA23 _ (Kd.reads_of_C HR0.out)))
      have HC628:=Aside0.mk hC23
      clear hA23 hC23 hi023 hsz23
      go_wp2_with (first|((with_reducible refine gaC_ (f:=62) rfl ?_);refine goesL_ (some 37) rfl rfl Try.func62 (by kernel_rfl) rfl #[.slice A23 (l0.drop (x8_1:Int).toNat).length (c0 - x8_1.toNat)] rfl (by(try simp only[List.map_toArray,List.map_cons,List.map_nil]);first|done|(rw[show(l0.drop (x8_1:Int).toNat).length=(l0.length - x8_1.toNat) from List.length_drop]<;>rfl)|rfl|(simp only[List.length_drop,List.length_take];rfl)) ?_;(with_reducible refine(dragnetref04_TakeBlock.calls k1 _ _ (l0.drop (x8_1:Int).toNat) t629 t630 t631 _ ?side1 ?side2 A12.out).mono ?_);(case side1=>exact Kd.cu_ (Kd.C_below HR628.out HB.out));(case side2=>exact HC628.out);rintro e w24 ⟨v632,rfl,ho0,hb⟩;refine⟨_,rfl,?_⟩;have n0_:=Aside0.mk (Kd.R_elder' (Kd.ru_ HO_10.out) (Kd.R_base ho0) hb);have n1_:=Aside0.mk (Kd.R_lower (Kd.R_new' ho0 (Kd.R_lt (Kd.ru_ HO_10.out))) (pbS_ bw_));have n2_:=Aside0.mk (below_step bw_ hb);clear HO_10;clear HB;have HO_10:=n0_;have HO633:=n1_;have HB:=n2_;clear n0_ n1_ n2_;obtain⟨Ao25,co25,eo25⟩:=Kd.R_slice HO633.out;subst eo25))
      go_ret3
      exact⟨_,by first|rfl|(simp[eWn_,eWs_]<;>rfl)|(simp only[<- hji14];first|rfl|(simp[eWn_,eWs_]<;>rfl))|(simp[*,eWn_,eWs_]<;>rfl),ni_,bw_⟩
     rw[if_pos c15]at H
     have c15b0:=beq_iff_eq.mpr c15
     have c15b1:=bne_eq_false_iff_eq.mpr c15
     clear c15
     by_cases c16:x10_1.length+t629.length < 17592186044416
     rotate_left
     .rw[if_neg c16]at H
      cases H
     rw[if_pos c16]at H
     have LMc16:=Aside0.mk c16
     clear c16
     obtain⟨y634,hy634⟩:∃ y_:List Int,y_=(x10_1++t629):=⟨_,rfl⟩
     replace H:(dragnetref04_TakeList.l0 k1 l0 t625 (wrap64 (x8_1+t630)) y634)=some (r1,r2,r3):=hx_ hy634 H
     have Ny634:=Aside0.mk hy634
     clear hy634
     have H':=Aside0.mk H
     clear H
     obtain⟨Ao17,co17,eo17⟩:=Kd.R_slice HO_10.out
     subst eo17
     obtain⟨i018,hi018,_,hsz18,_⟩:=info_parts info5
     obtain⟨A18,hcut18,hA18,hC18⟩:=print_drop_of (P:=Try.prog) (Value.int .u8) 0 22 5 .i64 Try.underlying22 hi018 hsz18 A0 c0 l0 x8_1 od_ od_ HC0.out
     have HR628:=Aside0.mk (Kd.C_of_reads (h1:=fun _=>rfl) (hA18 _ (Kd.reads_of_C HR0.out)))
     have HC628:=Aside0.mk hC18
     clear hA18 hC18 hi018 hsz18
     go_wp2_with (first|((with_reducible refine gaC_ (f:=62) rfl ?_);refine goesL_ (some 37) rfl rfl Try.func62 (by kernel_rfl) rfl #[.slice A18 (l0.drop (x8_1:Int).toNat).length (c0 - x8_1.toNat)] rfl (by(try simp only[List.map_toArray,List.map_cons,List.map_nil]);first|done|(rw[show(l0.drop (x8_1:Int).toNat).length=(l0.length - x8_1.toNat) from List.length_drop]<;>rfl)|rfl|(simp only[List.length_drop,List.length_take];rfl)) ?_;(with_reducible refine(dragnetref04_TakeBlock.calls k1 _ _ (l0.drop (x8_1:Int).toNat) t629 t630 t631 _ ?side1 ?side2 A12.out).mono ?_);(case side1=>exact Kd.cu_ (Kd.C_below HR628.out HB.out));(case side2=>exact HC628.out);rintro e w19 ⟨v632,rfl,ho0,hb⟩;refine⟨_,rfl,?_⟩;have n0_:=Aside0.mk (Kd.R_elder' (Kd.ru_ HO_10.out) (Kd.R_base ho0) hb);have n1_:=Aside0.mk (Kd.R_lower (Kd.R_new' ho0 (Kd.R_lt (Kd.ru_ HO_10.out))) (pbS_ bw_));have n2_:=Aside0.mk (below_step bw_ hb);clear HO_10;clear HB;have HO_10:=n0_;have HO633:=n1_;have HB:=n2_;clear n0_ n1_ n2_;obtain⟨Ao20,co20,eo20⟩:=Kd.R_slice HO633.out;subst eo20)|((with_reducible refine gate_builtin (b:= .append) (xs:= #[.tmp 55,.tmp 56]) rfl ?_);(try(refine gate_guard (by rfl) ?_;dsimp only));at_builtin;refine Kd.R_append_rows (Kd.int .u64) (w0:=w) w.heap.size rfl (.tmp 55) (.tmp 56) 52 48 (.int .u64 0) 8 rfl Try.underlying52 info48 rfl (by decide) (by omega) (.slice Ao17 x10_1.length co17) x10_1 t629 _ _ _ (fun k_=>some k_≠(.slice Ao20 t629.length co20:Value).ownBlock) (fun _=>False) rfl rfl ?aO ?aR (fun _ _ h=>h) (fun _ h=>h.elim) ?aF ?aB ?aS ?aL ?_;(case aR=>exact Kd.cu_ (Kd.R_reads' HO633.out).2.2);(case aB=>exact bw_);(case aF=>exact(fun k_ hk=>Kd.fresh' (Kd.R_lt (Kd.ru_ HO633.out)) k_ hk));(case aO=>exact(by(with_reducible repeat(first|apply Kd.rA_|apply Kd.rN_|apply Kd.rD_));exact Kd.R_mono HO_10.out (fun _ hk=>hk.2)));(case aS=>exact(pbS_ bw_));(case aL=>have:=LMc16.out;omega);intro v635 w21 ho hb hg hat;rw[<- Ny634.out]at ho;have n0_:=Aside0.mk (Kd.R_after (ok:=(fun _=>True)) (Kd.ru_ HO633.out) hg hat);have n1_:=Aside0.mk (hb);have n2_:=Aside0.mk (ho);clear HO633;clear HB;clear HO_10;have HO633:=n0_;have HB:=n1_;have HO636:=n2_;clear n0_ n1_ n2_;clear ho hb hg hat))
     subst hji14
     go_roundg k1
     case measure=>have:=HK1.out;omega
     case rel=>exact⟨(wrap64 (x8_1+t630)),(y634),rs_,H',⟨by have:=HK1.out;omega⟩,⟨by(with_reducible repeat(first|apply Kd.rA_|apply Kd.rN_|apply Kd.rD_));exact Kd.R_mono HO636.out (fun _ hk=>trivial)⟩,⟨bw_⟩⟩
mutual
def dragnetref13_read.j0:Nat->Int->Int->List Int->Int->Bool->Int->List Int->Option ((List (S37))×Bool)
 |0,_,_,_,_,_,_,_=>none
 |k+1,x1,x2,x8,x9,x34,x638000,x638001=>if x34=true then(some (([]:List (S37)),false))else(if 0<=x9 then(if x9<=(x638001.length:Int)then((dragnetref04_TakeBlock.f k (x638001.drop (x9:Int).toNat)).bind fun bt644=>(if bt644.2.2=0 then(dragnetref13_read.j1 k x1 x2 x8 x9 bt644.1 bt644.2.1 ((bt644.1.length:Int) != x1) x638000 x638001)else(dragnetref13_read.j1 k x1 x2 x8 x9 bt644.1 bt644.2.1 true x638000 x638001)))else(none))else(none))
def dragnetref13_read.j1:Nat->Int->Int->List Int->Int->List Int->Int->Bool->Int->List Int->Option ((List (S37))×Bool)
 |0,_,_,_,_,_,_,_,_,_=>none
 |k+1,x1,x2,x8,x9,x11,x12,x51,x638000,x638001=>if x51=true then(some (([]:List (S37)),false))else(if 0<=(wrap64 (x9+x12))then(if(wrap64 (x9+x12))<=(x638001.length:Int)then((dragnetref04_TakeList.f k (x638001.drop ((wrap64 (x9+x12)):Int).toNat) (wrap64 ((x638001.length:Int)*64))).bind fun bt650=>(if bt650.2.2=0 then(dragnetref13_read.j2 k x1 x2 x8 x11 bt650.1 ((wrap64 ((wrap64 (x9+x12))+bt650.2.1)) != (x638001.length:Int)) x638000 x638001)else(dragnetref13_read.j2 k x1 x2 x8 x11 bt650.1 true x638000 x638001)))else(none))else(none))
def dragnetref13_read.j2:Nat->Int->Int->List Int->List Int->List Int->Bool->Int->List Int->Option ((List (S37))×Bool)
 |0,_,_,_,_,_,_,_,_=>none
 |k+1,x1,x2,x8,x11,x13,x79,x638000,x638001=>if x79=true then(some (([]:List (S37)),false))else(dragnetref13_read.l0 k x1 x2 x8 x11 x13 ([]:List (S37)) 0 x638000 x638001)
def dragnetref13_read.l0:Nat->Int->Int->List Int->List Int->List Int->List (S37)->Int->Int->List Int->Option ((List (S37))×Bool)
 |0,_,_,_,_,_,_,_,_,_=>none
 |k+1,x1,x2,x8,x11,x13,x15,x16,x638000,x638001=>if x16 < x1 then(if 0<=x16 then(if x16 < (x8.length:Int)then(if(rd x8 x16) > 4095 then(dragnetref13_read.j4 k x1 x2 x8 x11 x13 x15 x16 true x638000 x638001)else(if x16 < (x11.length:Int)then(dragnetref13_read.j4 k x1 x2 x8 x11 x13 x15 x16 (decide ((rd x11 x16)≥(IntKind.u64.wrap ((x13.length:Int))))) x638000 x638001)else(none)))else(none))else(none))else(if(x13.length:Int)=0 then((dragnetref13_Formed.f k x15).bind fun t655=>(if t655=true then(if 0<=(wrap64 (x1 - 1))then(if(wrap64 (x1 - 1)) < (x15.length:Int)then(some (x15,(((rd_T37 x15 (wrap64 (x1 - 1))).f0)==x638000)))else(none))else(none))else(some (x15,false))))else(some (x15,false)))
def dragnetref13_read.j4:Nat->Int->Int->List Int->List Int->List Int->List (S37)->Int->Bool->Int->List Int->Option ((List (S37))×Bool)
 |0,_,_,_,_,_,_,_,_,_,_=>none
 |k+1,x1,x2,x8,x11,x13,x15,x16,x99,x638000,x638001=>if x99=true then(some (([]:List (S37)),false))else(if 0<=x16 then(if x16 < (x8.length:Int)then(dragnetref13_read.l1 k x1 (wrap64 ((wrap64 (x2+1))+(wrap64 (rd x8 x16)))) x8 x11 x13 x15 x16 (-1) 0 x638000 x638001 (wrap64 ((wrap64 (x2+1))+(wrap64 (rd x8 x16)))) ([]:List Int))else(none))else(none))
def dragnetref13_read.l1:Nat->Int->Int->List Int->List Int->List Int->List (S37)->Int->Int->Int->Int->List Int->Int->List Int->Option ((List (S37))×Bool)
 |0,_,_,_,_,_,_,_,_,_,_,_,_,_=>none
 |k+1,x1,x2,x8,x11,x13,x15,x16,x18,x19,x638000,x638001,x661000,x661001=>if 0<=x16 then(if x16 < (x11.length:Int)then(if x19<=(rd x11 x16)then(if 0<=x19 then(if x19 < (x13.length:Int)then(if(rd x13 x19) > 2147483647 then(some (([]:List (S37)),false))else(if x661001.length < 17592186044416 then(dragnetref13_read.l1 k x1 x2 x8 x11 x13 x15 x16 (wrap64 ((wrap64 (x18+1))+(wrap64 (rd x13 x19)))) (IntKind.u64.wrap (x19+1)) x638000 x638001 x661000 (x661001++[wrap64 ((wrap64 (x18+1))+(wrap64 (rd x13 x19)))]))else(none)))else(none))else(none))else(if 0<=(IntKind.u64.wrap ((rd x11 x16)+1))then(if(IntKind.u64.wrap ((rd x11 x16)+1))<=(x13.length:Int)then(if x15.length < 4398046511104 then(dragnetref13_read.l0 k x1 x2 x8 x11 (x13.drop ((IntKind.u64.wrap ((rd x11 x16)+1)):Int).toNat) (x15++[(⟨x661000,x661001⟩:S37)]) (wrap64 (x16+1)) x638000 x638001)else(none))else(none))else(none)))else(none))else(none)
end
def dragnetref13_read.f (k:Nat) (a0_0:Int) (l0_1:List Int) (a1:Int) (a2:Int):Option ((List (S37))×Bool):=(dragnetref04_TakeBlock.f k l0_1).bind fun bt638=>(if bt638.2.2=0 then(dragnetref13_read.j0 k a1 a2 bt638.1 bt638.2.1 ((bt638.1.length:Int) != a1) a0_0 l0_1)else(dragnetref13_read.j0 k a1 a2 bt638.1 bt638.2.1 true a0_0 l0_1))
theorem dragnetref13_read.mono_l:∀ k,(∀ y0 y1 y2 y3 y4 y5 y6,LeO (dragnetref13_read.j0 k y0 y1 y2 y3 y4 y5 y6) (dragnetref13_read.j0 (k+1) y0 y1 y2 y3 y4 y5 y6))∧(∀ y0 y1 y2 y3 y4 y5 y6 y7 y8,LeO (dragnetref13_read.j1 k y0 y1 y2 y3 y4 y5 y6 y7 y8) (dragnetref13_read.j1 (k+1) y0 y1 y2 y3 y4 y5 y6 y7 y8))∧(∀ y0 y1 y2 y3 y4 y5 y6 y7,LeO (dragnetref13_read.j2 k y0 y1 y2 y3 y4 y5 y6 y7) (dragnetref13_read.j2 (k+1) y0 y1 y2 y3 y4 y5 y6 y7))∧(∀ y0 y1 y2 y3 y4 y5 y6 y7 y8,LeO (dragnetref13_read.l0 k y0 y1 y2 y3 y4 y5 y6 y7 y8) (dragnetref13_read.l0 (k+1) y0 y1 y2 y3 y4 y5 y6 y7 y8))∧(∀ y0 y1 y2 y3 y4 y5 y6 y7 y8 y9,LeO (dragnetref13_read.j4 k y0 y1 y2 y3 y4 y5 y6 y7 y8 y9) (dragnetref13_read.j4 (k+1) y0 y1 y2 y3 y4 y5 y6 y7 y8 y9))∧(∀ y0 y1 y2 y3 y4 y5 y6 y7 y8 y9 y10 y11 y12,LeO (dragnetref13_read.l1 k y0 y1 y2 y3 y4 y5 y6 y7 y8 y9 y10 y11 y12) (dragnetref13_read.l1 (k+1) y0 y1 y2 y3 y4 y5 y6 y7 y8 y9 y10 y11 y12))
 |0=>⟨fun _ _ _ _ _ _ _ r h=>by simp[dragnetref13_read.j0]at h,fun _ _ _ _ _ _ _ _ _ r h=>by simp[dragnetref13_read.j1]at h,fun _ _ _ _ _ _ _ _ r h=>by simp[dragnetref13_read.j2]at h,fun _ _ _ _ _ _ _ _ _ r h=>by simp[dragnetref13_read.l0]at h,fun _ _ _ _ _ _ _ _ _ _ r h=>by simp[dragnetref13_read.j4]at h,fun _ _ _ _ _ _ _ _ _ _ _ _ _ r h=>by simp[dragnetref13_read.l1]at h⟩
 |k+1=>by
  obtain⟨ih0,ih1,ih2,ih3,ih4,ih5⟩:=dragnetref13_read.mono_l k
  refine⟨?_,?_,?_,?_,?_,?_⟩
  .intro y0 y1 y2 y3 y4 y5 y6
   unfold dragnetref13_read.j0
   repeat' first
   |(with_reducible exact ih0 _ _ _ _ _ _ _)
   |(with_reducible exact ih1 _ _ _ _ _ _ _ _ _)
   |(with_reducible exact ih2 _ _ _ _ _ _ _ _)
   |(with_reducible exact ih3 _ _ _ _ _ _ _ _ _)
   |(with_reducible exact ih4 _ _ _ _ _ _ _ _ _ _)
   |(with_reducible exact ih5 _ _ _ _ _ _ _ _ _ _ _ _ _)
   |(with_reducible exact dragnetref04_TakeBlock.mono _ _)
   |(with_reducible exact dragnetref04_TakeList.mono _ _ _)
   |(with_reducible exact dragnetref13_Formed.mono _ _)
   |(with_reducible exact LeO.refl _)
   |(with_reducible exact LeO.none _)
   |(with_reducible refine LeO.ite ?_ ?_)
   |(with_reducible refine LeO.bind ?_ (fun _=>?_))
  .intro y0 y1 y2 y3 y4 y5 y6 y7 y8
   unfold dragnetref13_read.j1
   repeat' first
   |(with_reducible exact ih0 _ _ _ _ _ _ _)
   |(with_reducible exact ih1 _ _ _ _ _ _ _ _ _)
   |(with_reducible exact ih2 _ _ _ _ _ _ _ _)
   |(with_reducible exact ih3 _ _ _ _ _ _ _ _ _)
   |(with_reducible exact ih4 _ _ _ _ _ _ _ _ _ _)
   |(with_reducible exact ih5 _ _ _ _ _ _ _ _ _ _ _ _ _)
   |(with_reducible exact dragnetref04_TakeBlock.mono _ _)
   |(with_reducible exact dragnetref04_TakeList.mono _ _ _)
   |(with_reducible exact dragnetref13_Formed.mono _ _)
   |(with_reducible exact LeO.refl _)
   |(with_reducible exact LeO.none _)
   |(with_reducible refine LeO.ite ?_ ?_)
   |(with_reducible refine LeO.bind ?_ (fun _=>?_))
  .intro y0 y1 y2 y3 y4 y5 y6 y7
   unfold dragnetref13_read.j2
   repeat' first
   |(with_reducible exact ih0 _ _ _ _ _ _ _)
   |(with_reducible exact ih1 _ _ _ _ _ _ _ _ _)
   |(with_reducible exact ih2 _ _ _ _ _ _ _ _)
   |(with_reducible exact ih3 _ _ _ _ _ _ _ _ _)
   |(with_reducible exact ih4 _ _ _ _ _ _ _ _ _ _)
   |(with_reducible exact ih5 _ _ _ _ _ _ _ _ _ _ _ _ _)
   |(with_reducible exact dragnetref04_TakeBlock.mono _ _)
   |(with_reducible exact dragnetref04_TakeList.mono _ _ _)
   |(with_reducible exact dragnetref13_Formed.mono _ _)
   |(with_reducible exact LeO.refl _)
   |(with_reducible exact LeO.none _)
   |(with_reducible refine LeO.ite ?_ ?_)
   |(with_reducible refine LeO.bind ?_ (fun _=>?_))
  .intro y0 y1 y2 y3 y4 y5 y6 y7 y8
   unfold dragnetref13_read.l0
   repeat' first
   |(with_reducible exact ih0 _ _ _ _ _ _ _)
   |(with_reducible exact ih1 _ _ _ _ _ _ _ _ _)
   |(with_reducible exact ih2 _ _ _ _ _ _ _ _)
   |(with_reducible exact ih3 _ _ _ _ _ _ _ _ _)
   |(with_reducible exact ih4 _ _ _ _ _ _ _ _ _ _)
   |(with_reducible exact ih5 _ _ _ _ _ _ _ _ _ _ _ _ _)
   |(with_reducible exact dragnetref04_TakeBlock.mono _ _)
   |(with_reducible exact dragnetref04_TakeList.mono _ _ _)
   |(with_reducible exact dragnetref13_Formed.mono _ _)
   |(with_reducible exact LeO.refl _)
   |(with_reducible exact LeO.none _)
   |(with_reducible refine LeO.ite ?_ ?_)
   |(with_reducible refine LeO.bind ?_ (fun _=>?_))
  .intro y0 y1 y2 y3 y4 y5 y6 y7 y8 y9
   unfold dragnetref13_read.j4
   repeat' first
   |(with_reducible exact ih0 _ _ _ _ _ _ _)
   |(with_reducible exact ih1 _ _ _ _ _ _ _ _ _)
   |(with_reducible exact ih2 _ _ _ _ _ _ _ _)
   |(with_reducible exact ih3 _ _ _ _ _ _ _ _ _)
   |(with_reducible exact ih4 _ _ _ _ _ _ _ _ _ _)
   |(with_reducible exact ih5 _ _ _ _ _ _ _ _ _ _ _ _ _)
   |(with_reducible exact dragnetref04_TakeBlock.mono _ _)
   |(with_reducible exact dragnetref04_TakeList.mono _ _ _)
   |(with_reducible exact dragnetref13_Formed.mono _ _)
   |(with_reducible exact LeO.refl _)
   |(with_reducible exact LeO.none _)
   |(with_reducible refine LeO.ite ?_ ?_)
   |(with_reducible refine LeO.bind ?_ (fun _=>?_))
  .intro y0 y1 y2 y3 y4 y5 y6 y7 y8 y9 y10 y11 y12
   unfold dragnetref13_read.l1
   repeat' first
   |(with_reducible exact ih0 _ _ _ _ _ _ _)
   |(with_reducible exact ih1 _ _ _ _ _ _ _ _ _)
   |(with_reducible exact ih2 _ _ _ _ _ _ _ _)
   |(with_reducible exact ih3 _ _ _ _ _ _ _ _ _)
   |(with_reducible exact ih4 _ _ _ _ _ _ _ _ _ _)
   |(with_reducible exact ih5 _ _ _ _ _ _ _ _ _ _ _ _ _)
   |(with_reducible exact dragnetref04_TakeBlock.mono _ _)
   |(with_reducible exact dragnetref04_TakeList.mono _ _ _)
   |(with_reducible exact dragnetref13_Formed.mono _ _)
   |(with_reducible exact LeO.refl _)
   |(with_reducible exact LeO.none _)
   |(with_reducible refine LeO.ite ?_ ?_)
   |(with_reducible refine LeO.bind ?_ (fun _=>?_))
theorem dragnetref13_read.mono:∀ a0 a1 a2 a3 k,LeO (dragnetref13_read.f k a0 a1 a2 a3) (dragnetref13_read.f (k+1) a0 a1 a2 a3):=by
 intro a0 a1 a2 a3 k
 obtain⟨ih0,ih1,ih2,ih3,ih4,ih5⟩:=dragnetref13_read.mono_l k
 unfold dragnetref13_read.f
 repeat' first
   |(with_reducible exact ih0 _ _ _ _ _ _ _)
   |(with_reducible exact ih1 _ _ _ _ _ _ _ _ _)
   |(with_reducible exact ih2 _ _ _ _ _ _ _ _)
   |(with_reducible exact ih3 _ _ _ _ _ _ _ _ _)
   |(with_reducible exact ih4 _ _ _ _ _ _ _ _ _ _)
   |(with_reducible exact ih5 _ _ _ _ _ _ _ _ _ _ _ _ _)
   |(with_reducible exact dragnetref04_TakeBlock.mono _ _)
   |(with_reducible exact dragnetref04_TakeList.mono _ _ _)
   |(with_reducible exact dragnetref13_Formed.mono _ _)
   |(with_reducible exact LeO.refl _)
   |(with_reducible exact LeO.none _)
   |(with_reducible refine LeO.ite ?_ ?_)
   |(with_reducible refine LeO.bind ?_ (fun _=>?_))
def dragnetref13_read.T7:Bool×List (List Nat×List Nat):=(true,[([],[]),([0],[0]),([],[]),([],[]),([2,3],[2,3]),([1,4],[1,4]),([],[]),([6],[6]),([7],[7]),([8],[8]),([5,9],[5,9]),([10],[10]),([11],[11]),([11],[11]),([11],[11]),([12,10,0,1,2,3,4,5,6,7,8,9,10,11,12],[12]),([13,15,0,1,2,3,4,5,6,7,8,9,10,11,12,13,15],[13]),([14,16,0,1,2,3,4,5,6,7,8,9,10,11,12,13,14,15,16],[14])])
def dragnetref13_read.B7:List Nat:=[0,1,0,0,12,31,0,64,192,448,1023,2047,4095,4095,4095,8191,49151,131071]
theorem dragnetref13_read.tab7:rtab .any (opsOf Try.f40 7)=dragnetref13_read.T7:=by kernel_rfl
theorem dragnetref13_read.bits7:waitsOk dragnetref13_read.T7.2 dragnetref13_read.B7=true:=by kernel_rfl
def dragnetref13_read.T28:Bool×List (List Nat×List Nat):=(true,[([],[]),([],[]),([1],[1]),([2],[2]),([3],[3]),([4],[4]),([5,4,4],[4,5]),([4,6],[4,6]),([7,6],[7]),([8],[8]),([8],[8]),([10,8],[8,10]),([9,11,8],[8,9,11]),([12,8],[8,12]),([13,8],[8,13]),([8],[8]),([15,8],[8,15]),([14,16,8],[8,14,16]),([8,17],[8,17]),([0,8,0],[0]),([18,19,0,1,2,3,4,5,6,7,8,9,10,11,12,13,14,15,16,17,18,19],[18])])
def dragnetref13_read.B28:List Nat:=[0,0,2,6,14,30,62,126,254,510,510,1534,4094,8190,16382,510,33278,131070,262142,511,1048575]
theorem dragnetref13_read.tab28:rtab .any (opsOf Try.f40 28)=dragnetref13_read.T28:=by kernel_rfl
theorem dragnetref13_read.bits28:waitsOk dragnetref13_read.T28.2 dragnetref13_read.B28=true:=by kernel_rfl
set_option maxHeartbeats 8000000 in
set_option maxRecDepth 100000 in
theorem dragnetref13_read.calls (k:Nat) (a0_0:Int) (A0_1:Option Addr) (c0_1:Nat) (l0_1:List Int) (a1:Int) (a2:Int) (r1:List (S37)) (r2:Bool) (w:World) (hr0_1:Kd.C (Kd.int .u8) w A0_1 l0_1.length l0_1) (hc0_1:l0_1.length<=c0_1) (h:dragnetref13_read.f k a0_0 l0_1 a1 a2=some (r1,r2)):
  Calls Try.prog 40 #[.agg #[.int .i64 a0_0,.slice A0_1 l0_1.length c0_1],.int .i64 a1,.int .i64 a2] w fun e w'=>∃ v0_:Value,e= .returned (.tuple #[v0_,.bool r2])∧Kd.S k37 37 w' w.heap.size (fun _=>True) v0_ r1∧Below w.heap.size w w':=by
 have hu75:=Try.underlying75
 have hu37:=Try.underlying37
 have HR0_1:=Aside0.mk hr0_1
 have HC0_1:=Aside0.mk hc0_1
 clear hr0_1 hc0_1
 have HB:=Aside0.mk (Below.refl w.heap.size w)
 have H:((dragnetref04_TakeBlock.f k l0_1).bind fun bt638=>(if bt638.2.2=0 then(dragnetref13_read.j0 k a1 a2 bt638.1 bt638.2.1 ((bt638.1.length:Int) != a1) a0_0 l0_1)else(dragnetref13_read.j0 k a1 a2 bt638.1 bt638.2.1 true a0_0 l0_1)))=some (r1,r2):=h
 clear h
 replace H:=Option.bind_eq_some_iff.mp H
 obtain⟨⟨t638,t639,t640⟩,A40,H⟩:=H
 try dsimp only at H
 have A4:=Aside0.mk A40
 clear A40
 have HC5:=Aside0.mk H
 clear H
 go_enter Try.func40,Try.ntmps40
 go_upto_region 2 with (first|((with_reducible refine gate_dst (N:=3) rfl ?_);(try(refine gate_guard (by rfl) ?_;dsimp only));refine box_event ?hg (N:=3) ?hd (cs:= #[.int .i64 a0_0,.slice A0_1 l0_1.length c0_1]) (t:=75) ?hr ?_;(case hd=>rfl);(case hg=>rfl);(case hr=>first|(go_simp;done)|(go_simp;rfl));intro gb637 hg w6 hbox hb;have n0_:=Aside0.mk (below_step bw_ hb);have n1_:=Aside0.mk (hbox);have n2_:=Aside0.mk ((by rw[hg];exact(pbS_ bw_):w.heap.size<=gb637));have n3_:=Aside0.mk ((by rw[hg];exact(pbS_ bw_):w.heap.size<=gb637));clear HB;have HB:=n0_;have BK637:=n1_;have GW637:=n2_;have GE637:=n3_;clear n0_ n1_ n2_ n3_;clear hb hbox hg;have hcz7_0:w6.cell? ⟨gb637,0,none⟩=some (.int .i64 a0_0):=(blk_cell BK637.out 0).trans rfl;have hcz7_1:w6.cell? ⟨gb637,1,none⟩=some (.slice A0_1 l0_1.length c0_1):=(blk_cell BK637.out 1).trans rfl;have hfz7_0:=blk_frozen BK637.out 0;have hfz7_1:=blk_frozen BK637.out 1)|((with_reducible refine gaC_ (f:=62) rfl ?_);refine goesL_ (some 23) rfl rfl Try.func62 (by kernel_rfl) rfl #[.slice A0_1 l0_1.length c0_1] rfl am_ ?_;(with_reducible refine(dragnetref04_TakeBlock.calls k _ _ l0_1 t638 t639 t640 _ ?side1 ?side2 A4.out).mono ?_);(case side1=>exact Kd.cu_ (Kd.C_below HR0_1.out HB.out));(case side2=>exact HC0_1.out);rintro e w8 ⟨v641,rfl,ho0,hb⟩;refine⟨_,rfl,?_⟩;have HO642:=Aside0.mk (Kd.R_lower ho0 (pbS_ bs_));replace BK637:=Aside0.mk (blk_below (g:=gb637) (o:= .cells #[.int .i64 a0_0,.slice A0_1 l0_1.length c0_1] 75 (0,0)) (bk_ BK637.out) hb);replace HB:=Aside0.mk (below_step bs_ hb)))
 go_cut [34] (fun v34 wc=>∃ (kq:Nat) (x34_4:Bool),v34= .bool x34_4∧Aside0 (dragnetref13_read.j0 kq a1 a2 t638 t639 x34_4 a0_0 l0_1=some (r1,r2))∧Aside0 (kq<=k)∧Aside0 (Kd.R (Kd.int .u64) 48 wc w.heap.size (fun _=>True) v641 t638)∧Aside0 (wc.heap[gb637]? =some (.cells #[.int .i64 a0_0,(.slice A0_1 l0_1.length c0_1)] 75 (0,0)))∧Aside0 (Below w.heap.size w wc))
 case first=>
  have H:=HC5.out
  clear HC5
  by_cases c9:t640=0
  rotate_left
  .rw[if_neg c9]at H
   have c9b0:=beq_eq_false_iff_ne.mpr c9
   have c9b1:=bne_iff_ne.mpr c9
   (first|rw[c9b0]|(simp only[i64_w,i32_w];rw[c9b0])|skip)
   have H':=Aside0.mk H
   clear H
   go_wp2
   go_meet
   case rel=>exact⟨_,(true),rs_,H',⟨by first|omega|exact Nat.le_refl _⟩,⟨Kd.ru_ HO642.out⟩,⟨bk_ BK637.out⟩,⟨bs_⟩⟩
  rw[if_pos c9]at H
  have c9b0:=beq_iff_eq.mpr c9
  have c9b1:=bne_eq_false_iff_eq.mpr c9
  clear c9
  (first|rw[c9b0]|(simp only[i64_w,i32_w];rw[c9b0])|skip)
  have H':=Aside0.mk H
  clear H
  obtain⟨Ao10,co10,eo10⟩:=Kd.R_slice HO642.out
  subst eo10
  go_wp2
  go_meet
  case rel=>exact⟨_,(((t638.length:Int) != a1)),rs_,H',⟨by first|omega|exact Nat.le_refl _⟩,⟨Kd.ru_ HO642.out⟩,⟨bk_ BK637.out⟩,⟨bs_⟩⟩
 case rest=>
  clear HC5
  clear hcz7_0 hcz7_1 hfz7_0 hfz7_1
  obtain⟨kq,x34_4,rfl,HA,HJ4,HO_8,BK637,HB⟩:=hcut
  cases kq with
  |zero=>exact absurd HA.out (by simp[dragnetref13_read.j0])
  |succ kj4=>
   have H:=HA.out
   clear HA
   simp only[dragnetref13_read.j0]at H
   by_cases c11:x34_4=true
   .subst c11
    rw[if_pos rfl]at H
    simp only[Option.some.injEq,Prod.mk.injEq]at H
    obtain⟨rfl,rfl⟩:=H
    go_wp2
    go_ret2
    exact⟨_,rf_,by first|exact Kd.S_nil _ _ _ _ _|exact Kd.N_nil _ _ _ _ _|exact Kd.V_nil _ _ _ _ _|exact Kd.Q_nil _ _ _ _ _|exact Kd.R_nil _ _ _ _ _,bs_⟩
   .replace c11:=Bool.eq_false_iff.mpr c11
    subst c11
    rw[if_neg (show ¬ (false=true) by decide)]at H
    by_cases c12:0<=t639
    rotate_left
    .rw[if_neg c12]at H
     cases H
    rw[if_pos c12]at H
    have c12b0:=eq_true c12
    have c12b1:=decide_eq_true c12
    clear c12
    by_cases c13:t639<=(l0_1.length:Int)
    rotate_left
    .rw[if_neg c13]at H
     cases H
    rw[if_pos c13]at H
    have c13b0:=eq_true c13
    have c13b1:=decide_eq_true c13
    clear c13
    replace H:=Option.bind_eq_some_iff.mp H
    obtain⟨⟨t644,t645,t646⟩,A140,H⟩:=H
    try dsimp only at H
    have A14:=Aside0.mk A140
    clear A140
    have HC15:=Aside0.mk H
    clear H
    have hcz16_0:wc.cell? ⟨gb637,0,none⟩=some (.int .i64 a0_0):=(blk_cell BK637.out 0).trans rfl
    have hcz16_1:wc.cell? ⟨gb637,1,none⟩=some (.slice A0_1 l0_1.length c0_1):=(blk_cell BK637.out 1).trans rfl
    have hfz16_0:=blk_frozen BK637.out 0
    have hfz16_1:=blk_frozen BK637.out 1
    obtain⟨i017,hi017,_,hsz17,_⟩:=info_parts info5
    obtain⟨A17,hcut17,hA17,hC17⟩:=print_drop_of (P:=Try.prog) (Value.int .u8) 0 22 5 .i64 Try.underlying22 hi017 hsz17 A0_1 c0_1 l0_1 t639 od_ od_ HC0_1.out
    have HR643:=Aside0.mk (Kd.C_of_reads (h1:=fun _=>rfl) (hA17 _ (Kd.reads_of_C HR0_1.out)))
    have HC643:=Aside0.mk hC17
    clear hA17 hC17 hi017 hsz17
    go_upto_region 5 with (first|((with_reducible refine gaC_ (f:=62) rfl ?_);refine goesL_ (some 40) rfl rfl Try.func62 (by kernel_rfl) rfl #[.slice A17 (l0_1.drop (t639:Int).toNat).length (c0_1 - t639.toNat)] rfl (by(try simp only[List.map_toArray,List.map_cons,List.map_nil]);first|done|(rw[show(l0_1.drop (t639:Int).toNat).length=(l0_1.length - t639.toNat) from List.length_drop]<;>rfl)|rfl|(simp only[List.length_drop,List.length_take];rfl)) ?_;(with_reducible refine(dragnetref04_TakeBlock.calls kj4 _ _ (l0_1.drop (t639:Int).toNat) t644 t645 t646 _ ?side1 ?side2 A14.out).mono ?_);(case side1=>exact Kd.cu_ (Kd.C_below HR643.out HB.out));(case side2=>exact HC643.out);rintro e w18 ⟨v647,rfl,ho0,hb⟩;refine⟨_,rfl,?_⟩;have n0_:=Aside0.mk (Kd.R_elder' (Kd.ru_ HO_8.out) (Kd.R_base ho0) hb);have n1_:=Aside0.mk (Kd.R_lower (Kd.R_new' ho0 (Kd.R_lt (Kd.ru_ HO_8.out))) (pbS_ bs_));have n2_:=Aside0.mk (blk_below (g:=gb637) (o:= .cells #[.int .i64 a0_0,.slice A0_1 l0_1.length c0_1] 75 (0,0)) (bk_ BK637.out) hb);have n3_:=Aside0.mk (below_step bs_ hb);clear HO_8;clear BK637;clear HB;have HO_8:=n0_;have HO648:=n1_;have BK637:=n2_;have HB:=n3_;clear n0_ n1_ n2_ n3_))
    go_cut [51] (fun v51 wc=>∃ (kq:Nat) (x51_14:Bool),v51= .bool x51_14∧Aside0 (dragnetref13_read.j1 kq a1 a2 t638 t639 t644 t645 x51_14 a0_0 l0_1=some (r1,r2))∧Aside0 (kq<=kj4)∧Aside0 (Kd.R (Kd.int .u64) 48 wc w.heap.size (fun k_=>some k_≠(v647:Value).ownBlock) v641 t638)∧Aside0 (Kd.R (Kd.int .u64) 48 wc w.heap.size (fun k_=>some k_≠(v641:Value).ownBlock) v647 t644)∧Aside0 (wc.heap[gb637]? =some (.cells #[.int .i64 a0_0,(.slice A0_1 l0_1.length c0_1)] 75 (0,0)))∧Aside0 (Below w.heap.size w wc))
    case first=>
     have H:=HC15.out
     clear HC15
     by_cases c19:t646=0
     rotate_left
     .rw[if_neg c19]at H
      have c19b0:=beq_eq_false_iff_ne.mpr c19
      have c19b1:=bne_iff_ne.mpr c19
      (first|rw[c19b0]|(simp only[i64_w,i32_w];rw[c19b0])|skip)
      have H':=Aside0.mk H
      clear H
      go_wp2
      go_meet
      case rel=>exact⟨_,(true),rs_,H',⟨by have:=HJ4.out;first|omega|exact Nat.le_refl _⟩,⟨by(with_reducible repeat(first|apply Kd.rA_|apply Kd.rN_|apply Kd.rD_));exact Kd.R_mono HO_8.out (fun _ hk=>hk.2)⟩,⟨by(with_reducible repeat(first|apply Kd.rA_|apply Kd.rN_|apply Kd.rD_));exact Kd.R_mono HO648.out (fun _ hk=>hk.2)⟩,⟨bk_ BK637.out⟩,⟨bs_⟩⟩
     rw[if_pos c19]at H
     have c19b0:=beq_iff_eq.mpr c19
     have c19b1:=bne_eq_false_iff_eq.mpr c19
     clear c19
     (first|rw[c19b0]|(simp only[i64_w,i32_w];rw[c19b0])|skip)
     have H':=Aside0.mk H
     clear H
     obtain⟨Ao20,co20,eo20⟩:=Kd.R_slice HO648.out
     subst eo20
     go_wp2
     go_meet
     case rel=>exact⟨_,(((t644.length:Int) != a1)),rs_,H',⟨by have:=HJ4.out;first|omega|exact Nat.le_refl _⟩,⟨by(with_reducible repeat(first|apply Kd.rA_|apply Kd.rN_|apply Kd.rD_));exact Kd.R_mono HO_8.out (fun _ hk=>hk.2)⟩,⟨by(with_reducible repeat(first|apply Kd.rA_|apply Kd.rN_|apply Kd.rD_));exact Kd.R_mono HO648.out (fun _ hk=>hk.2)⟩,⟨bk_ BK637.out⟩,⟨bs_⟩⟩
    case rest=>
     clear HC15
     clear c12b0 c12b1
     clear c13b0 c13b1
     clear hcz16_0 hcz16_1
     clear hfz16_0 hfz16_1
     obtain⟨kq,x51_14,rfl,HA,HJ14,HO_8,HO_11,BK637,HB⟩:=hcut
     cases kq with
     |zero=>exact absurd HA.out (by simp[dragnetref13_read.j1])
     |succ kj14=>
      have H:=HA.out
      clear HA
      simp only[dragnetref13_read.j1]at H
      by_cases c21:x51_14=true
      .subst c21
       rw[if_pos rfl]at H
       simp only[Option.some.injEq,Prod.mk.injEq]at H
       obtain⟨rfl,rfl⟩:=H
       go_wp2
       go_ret2
       exact⟨_,rf_,by first|exact Kd.S_nil _ _ _ _ _|exact Kd.N_nil _ _ _ _ _|exact Kd.V_nil _ _ _ _ _|exact Kd.Q_nil _ _ _ _ _|exact Kd.R_nil _ _ _ _ _,bs_⟩
      .replace c21:=Bool.eq_false_iff.mpr c21
       subst c21
       rw[if_neg (show ¬ (false=true) by decide)]at H
       obtain⟨ji22,hji22⟩:∃ j_:Int,(wrap64 (t639+t645))=j_:=⟨_,rfl⟩
       replace H:(if 0<=(ji22)then(if(ji22)<=(l0_1.length:Int)then((dragnetref04_TakeList.f kj14 (l0_1.drop ((ji22):Int).toNat) (wrap64 ((l0_1.length:Int)*64))).bind fun bt650=>(if bt650.2.2=0 then(dragnetref13_read.j2 kj14 a1 a2 t638 t644 bt650.1 ((wrap64 ((ji22)+bt650.2.1)) != (l0_1.length:Int)) a0_0 l0_1)else(dragnetref13_read.j2 kj14 a1 a2 t638 t644 bt650.1 true a0_0 l0_1)))else(none))else(none))=some (r1,r2):=hj_ hji22 H
       have hji22w:(IntKind.i64.wrap (t639+t645))=ji22:=(i64_w _).trans hji22
       by_cases c23:0<=(ji22)
       rotate_left
       .rw[if_neg c23]at H
        cases H
       rw[if_pos c23]at H
       have c23b0:=eq_true c23
       have c23b1:=decide_eq_true c23
       clear c23
       by_cases c24:(ji22)<=(l0_1.length:Int)
       rotate_left
       .rw[if_neg c24]at H
        cases H
       rw[if_pos c24]at H
       have c24b0:=eq_true c24
       have c24b1:=decide_eq_true c24
       clear c24
       replace H:=Option.bind_eq_some_iff.mp H
       obtain⟨⟨t650,t651,t652⟩,A250,H⟩:=H
       try dsimp only at H
       have A25:=Aside0.mk A250
       clear A250
       have HC26:=Aside0.mk H
       clear H
       try go_wp2
       have n0_:=Aside0.mk (Kd.rD_ HO_8.out)
       have n1_:=Aside0.mk (Kd.rD_ HO_11.out)
       have n2_:=Aside0.mk (blk_drew BK637.out)
       have n3_:=Aside0.mk (pb1_ HB.out)
       clear HO_8
       clear HO_11
       clear BK637
       clear HB
       have HO_8:=n0_
       have HO_11:=n1_
       have BK637:=n2_
       have HB:=n3_
       clear n0_ n1_ n2_ n3_
       obtain⟨i028,hi028,_,hsz28,_⟩:=info_parts info5
       obtain⟨A28,hcut28,hA28,hC28⟩:=print_drop_of (P:=Try.prog) (Value.int .u8) 0 22 5 .i64 Try.underlying22 hi028 hsz28 A0_1 c0_1 l0_1 (ji22) od_ od_ HC0_1.out
       have HR649:=Aside0.mk (Kd.C_of_reads (h1:=fun _=>rfl) (hA28 _ (Kd.reads_of_C HR0_1.out)))
       have HC649:=Aside0.mk hC28
       clear hA28 hC28 hi028 hsz28
       refine start_ (n:=18) (S:=fun w'=>w'.cell? ⟨gb637,0,none⟩=some (.int .i64 a0_0)∧w'.cell? ⟨gb637,1,none⟩=some (.slice A0_1 l0_1.length c0_1)) (ds:=[]) #[false,false,false,false,false,false,false,false,false,false,false,false,false,false,false,false,false,false] (by kernel_rfl) rfl rfl ⟨(blk_cell BK637.out 0).trans rfl,(blk_cell BK637.out 1).trans rfl⟩ (fun hHeld=>?_);refine with_tabW dragnetref13_read.tab7 dragnetref13_read.bits7 (fun HT_ HW_=>?_)
       generalize wc.drew=w27 at HO_8 HO_11 BK637 HB HR649 hHeld ⊢
       refine pv_ (i:=0) (N:=some 53) HT_ ?_
       refine pv_ (i:=2) (N:=some 55) HT_ ?_
       refine pv_ (i:=3) (N:=some 56) HT_ ?_
       refine pv_ (i:=4) (N:=some 57) HT_ ?_
       refine pv_ (i:=6) (N:=some 59) HT_ ?_
       refine tv_ (i:=1) (N:=some 54) HT_ HW_ hHeld ?_
       refine pv_ (i:=5) (N:=some 58) HT_ ?_
       refine tv_ (i:=7) (N:=some 60) HT_ HW_ hHeld ?_
       refine pv_ (i:=8) (N:=some 61) HT_ ?_
       refine pv_ (i:=9) (N:=some 62) HT_ ?_
       refine one_ (i:=10) (N:=some 63) #[tT,tT,tT,tT,tT,tT,tT,tT,tT,tT,tT,fF,fF,fF,fF,fF,fF,fF] rfl rfl (one_of HT_.out (by kernel_rfl)) (by decide) (fun K hK=>?_)
       refine goes_ Try.func63 (by kernel_rfl) rfl #[.slice A28 (l0_1.drop ((ji22):Int).toNat).length (c0_1 - (ji22).toNat),.int .i64 (wrap64 ((l0_1.length:Int)*64))] (by rfl) rfl rfl (by(try simp only[List.map_toArray,List.map_cons,List.map_nil]);first|done|(rw[show(l0_1.drop ((ji22):Int).toNat).length=(l0_1.length - (ji22).toNat) from List.length_drop]<;>rfl)|(simp only[hji22];rfl)|rfl|(simp only[List.length_drop,List.length_take];rfl)) ?_
       with_reducible refine(dragnetref04_TakeList.calls kj14 _ _ (l0_1.drop ((ji22):Int).toNat) (wrap64 ((l0_1.length:Int)*64)) t650 t651 t652 _ ?side1 ?side2 A25.out).mono ?_
       (case side1=>exact Kd.cu_ (Kd.C_below HR649.out HB.out))
       (case side2=>exact HC649.out)
       rintro e w29 ⟨v653,rfl,ho0,hb⟩
       refine⟨_,rfl,?_⟩
       have n0_:=Aside0.mk (Kd.R_elder' (Kd.ru_ HO_8.out) (Kd.R_base ho0) hb)
       have n1_:=Aside0.mk (Kd.R_elder' (Kd.ru_ HO_11.out) (Kd.R_base ho0) hb)
       have n2_:=Aside0.mk (Kd.R_lower (Kd.R_new' (Kd.R_new' ho0 (Kd.R_lt (Kd.ru_ HO_8.out))) (Kd.R_lt (Kd.ru_ HO_11.out))) (pbS_ bs_))
       have n3_:=Aside0.mk (blk_below (g:=gb637) (o:= .cells #[.int .i64 a0_0,.slice A0_1 l0_1.length c0_1] 75 (0,0)) (bk_ BK637.out) hb)
       have n4_:=Aside0.mk (below_step bs_ hb)
       clear HO_8
       clear HO_11
       clear BK637
       clear HB
       have HO_8:=n0_
       have HO_11:=n1_
       have HO654:=n2_
       have BK637:=n3_
       have HB:=n4_
       clear n0_ n1_ n2_ n3_ n4_
       clear hb
       clear ho0
       refine hK.out _ _ ⟨(blk_cell BK637.out 0).trans rfl,(blk_cell BK637.out 1).trans rfl⟩ (fun hHeld=>?_)
       clear hK K
       refine norm_ (a':=?_) ?_ ?_
       rotate_left
       .show Act.put _ (some 63) _=_
        simp only[Act.put,List.setIfInBounds_toArray,List.set_cons_zero,List.set_cons_succ,i64_w,i32_w]
        rfl
       refine pv_ (i:=11) (N:=some 52) HT_ ?_
       refine pv_ (i:=12) (N:=some 64) HT_ ?_
       refine pv_ (i:=13) (N:=some 65) HT_ ?_
       refine pv_ (i:=14) (N:=some 66) HT_ ?_
       refine pv_ (i:=15) (N:=some 13) HT_ ?_
       refine pv_ (i:=16) (N:=some 14) HT_ ?_
       refine pv_ (i:=17) (N:=some 10) HT_ ?_
       refine done_ (done_of HT_.out (by kernel_rfl)) ?_
       go_upto_region 8 with (fail)
       go_cut [79] (fun v79 wc=>∃ (kq:Nat) (x79_25:Bool),v79= .bool x79_25∧Aside0 (dragnetref13_read.j2 kq a1 a2 t638 t644 t650 x79_25 a0_0 l0_1=some (r1,r2))∧Aside0 (kq<=kj14)∧Aside0 (Kd.R (Kd.int .u64) 48 wc w.heap.size (fun k_=>some k_≠(v647:Value).ownBlock∧some k_≠(v653:Value).ownBlock) v641 t638)∧Aside0 (Kd.R (Kd.int .u64) 48 wc w.heap.size (fun k_=>some k_≠(v641:Value).ownBlock∧some k_≠(v653:Value).ownBlock) v647 t644)∧Aside0 (Kd.Q (Kd.int .u64) 48 wc w.heap.size (fun k_=>some k_≠(v641:Value).ownBlock∧some k_≠(v647:Value).ownBlock) v653 t650)∧Aside0 (wc.heap[gb637]? =some (.cells #[.int .i64 a0_0,(.slice A0_1 l0_1.length c0_1)] 75 (0,0)))∧Aside0 (Below w.heap.size w wc))
       case first=>
        have H:=HC26.out
        clear HC26
        by_cases c30:t652=0
        rotate_left
        .rw[if_neg c30]at H
         have c30b0:=beq_eq_false_iff_ne.mpr c30
         have c30b1:=bne_iff_ne.mpr c30
         (first|rw[c30b0]|(simp only[i64_w,i32_w];rw[c30b0])|skip)
         have H':=Aside0.mk H
         clear H
         go_wp2
         go_meet
         case rel=>exact⟨_,(true),rs_,H',⟨by have:=HJ4.out;have:=HJ14.out;first|omega|exact Nat.le_refl _⟩,⟨Kd.ru_ HO_8.out⟩,⟨Kd.ru_ HO_11.out⟩,⟨Kd.Q_of_R (by(with_reducible repeat(first|apply Kd.rA_|apply Kd.rN_|apply Kd.rD_));exact Kd.R_mono HO654.out (fun _ hk=>⟨hk.1.2,hk.2⟩))⟩,⟨bk_ BK637.out⟩,⟨bs_⟩⟩
        rw[if_pos c30]at H
        have c30b0:=beq_iff_eq.mpr c30
        have c30b1:=bne_eq_false_iff_eq.mpr c30
        clear c30
        (first|rw[c30b0]|(simp only[i64_w,i32_w];rw[c30b0])|skip)
        have H':=Aside0.mk H
        clear H
        have hcz31_0:w29.cell? ⟨gb637,0,none⟩=some (.int .i64 a0_0):=(blk_cell BK637.out 0).trans rfl
        have hcz31_1:w29.cell? ⟨gb637,1,none⟩=some (.slice A0_1 l0_1.length c0_1):=(blk_cell BK637.out 1).trans rfl
        have hfz31_0:=blk_frozen BK637.out 0
        have hfz31_1:=blk_frozen BK637.out 1
        go_wp2
        go_meet
        case rel=>exact⟨_,(((wrap64 ((ji22)+t651)) != (l0_1.length:Int))),(by first|rfl|(simp;done)|(simp only[<- hji22]<;>(first|rfl|simp))|(simp[*];done)),H',⟨by have:=HJ4.out;have:=HJ14.out;first|omega|exact Nat.le_refl _⟩,⟨Kd.ru_ HO_8.out⟩,⟨Kd.ru_ HO_11.out⟩,⟨Kd.Q_of_R (by(with_reducible repeat(first|apply Kd.rA_|apply Kd.rN_|apply Kd.rD_));exact Kd.R_mono HO654.out (fun _ hk=>⟨hk.1.2,hk.2⟩))⟩,⟨bk_ BK637.out⟩,⟨bs_⟩⟩
       case rest=>
        clear HC26
        clear c23b0 c23b1
        clear c24b0 c24b1
        obtain⟨kq,x79_25,rfl,HA,HJ25,HO_8,HO_11,HO_13,BK637,HB⟩:=hcut
        cases kq with
        |zero=>exact absurd HA.out (by simp[dragnetref13_read.j2])
        |succ kj25=>
         have H:=HA.out
         clear HA
         simp only[dragnetref13_read.j2]at H
         by_cases c32:x79_25=true
         .subst c32
          rw[if_pos rfl]at H
          simp only[Option.some.injEq,Prod.mk.injEq]at H
          obtain⟨rfl,rfl⟩:=H
          go_wp2
          go_ret2
          exact⟨_,by first|rfl|(simp[eWn_,eWs_]<;>rfl)|(simp only[<- hji22];first|rfl|(simp[eWn_,eWs_]<;>rfl))|(simp[*,eWn_,eWs_]<;>rfl),by first|exact Kd.S_nil _ _ _ _ _|exact Kd.N_nil _ _ _ _ _|exact Kd.V_nil _ _ _ _ _|exact Kd.Q_nil _ _ _ _ _|exact Kd.R_nil _ _ _ _ _,bs_⟩
         .replace c32:=Bool.eq_false_iff.mpr c32
          subst c32
          rw[if_neg (show ¬ (false=true) by decide)]at H
          have H':=Aside0.mk H
          clear H
          go_wp2
          go_loopg [2,13,15,16] kj25 (fun kq v2 v13 v15 v16 w'=>∃ (x2_4:Int) (x13_4:List Int) (x15_4:List (S37)) (x16_4:Int),v2= .int .i64 x2_4∧v16= .int .i64 x16_4∧Aside0 (dragnetref13_read.l0 kq a1 x2_4 t638 t644 x13_4 x15_4 x16_4 a0_0 l0_1=some (r1,r2))∧Aside0 (kq<=kj25)∧Aside0 (Kd.R (Kd.int .u64) 48 w' w.heap.size (fun k_=>some k_≠(v647:Value).ownBlock∧some k_≠(v13:Value).ownBlock) v641 t638)∧Aside0 (Kd.R (Kd.int .u64) 48 w' w.heap.size (fun k_=>some k_≠(v641:Value).ownBlock∧some k_≠(v13:Value).ownBlock) v647 t644)∧Aside0 (Kd.Q (Kd.int .u64) 48 w' w.heap.size (fun k_=>some k_≠(v641:Value).ownBlock∧some k_≠(v647:Value).ownBlock) v13 x13_4)∧Aside0 (Kd.S k37 37 w' w.heap.size (fun _=>True) v15 x15_4)∧Aside0 (w'.heap[gb637]? =some (.cells #[.int .i64 a0_0,(.slice A0_1 l0_1.length c0_1)] 75 (0,0)))∧Aside0 (Below w.heap.size w w'))
          case atStart=>exact⟨(a2),(t650),(([]:List (S37))),(0),rs_,rs_,H',⟨Nat.le_refl _⟩,⟨Kd.ru_ HO_8.out⟩,⟨Kd.ru_ HO_11.out⟩,⟨by(with_reducible repeat(first|apply Kd.Q_alloc|apply Kd.Q_drewN|apply Kd.Q_drew));exact HO_13.out⟩,⟨by first|exact Kd.S_nil _ _ _ _ _|exact Kd.N_nil _ _ _ _ _|exact Kd.V_nil _ _ _ _ _|exact Kd.Q_nil _ _ _ _ _|exact Kd.R_nil _ _ _ _ _⟩,⟨bk_ BK637.out⟩,⟨bs_⟩⟩
          case round=>
           clear H'
           obtain⟨x2_4,x13_4,x15_4,x16_4,rfl,rfl,HA,HK4,HO_8,HO_11,HO_13,HO_15,BK637,HB⟩:=hrel
           cases gk with
           |zero=>exact absurd HA.out (by simp[dragnetref13_read.l0])
           |succ k4=>
            have H:=HA.out
            clear HA
            simp only[dragnetref13_read.l0]at H
            by_cases c33:x16_4 < a1
            rotate_left
            .rw[if_neg c33]at H
             have c33b0:=decide_eq_false c33
             clear c33
             by_cases c77:(x13_4.length:Int)=0
             rotate_left
             .rw[if_neg c77]at H
              have c77b0:=beq_eq_false_iff_ne.mpr c77
              have c77b1:=bne_iff_ne.mpr c77
              have c77b2: ¬ (x13_4=[]):=fun h_=>c77 (by rw[h_];rfl)
              simp only[Option.some.injEq,Prod.mk.injEq]at H
              obtain⟨rfl,rfl⟩:=H
              try go_wp2
              have n0_:=Aside0.mk (Kd.rD_ HO_8.out)
              have n1_:=Aside0.mk (Kd.rD_ HO_11.out)
              have n2_:=Aside0.mk (Kd.Q_drew HO_13.out)
              have n3_:=Aside0.mk (Kd.S_drew HO_15.out)
              have n4_:=Aside0.mk (blk_drew BK637.out)
              have n5_:=Aside0.mk (pb1_ HB.out)
              clear HO_8
              clear HO_11
              clear HO_13
              clear HO_15
              clear BK637
              clear HB
              have HO_8:=n0_
              have HO_11:=n1_
              have HO_13:=n2_
              have HO_15:=n3_
              have BK637:=n4_
              have HB:=n5_
              clear n0_ n1_ n2_ n3_ n4_ n5_
              obtain⟨Ao92,co92,eo92,_⟩:=Kd.Q_slice HO_13.out
              (first|subst eo92|(injection eo92 with f1_ f2_ f3_;have f4_:=f1_.symm;have f5_:=f3_.symm;clear f1_ f2_ f3_;subst f4_;subst f5_))
              refine start_ (n:=21) (S:=fun w'=>True) (ds:=[]) #[false,false,false,false,false,false,false,false,false,false,false,false,false,false,false,false,false,false,false,false,false] (by kernel_rfl) rfl rfl trivial (fun hHeld=>?_);refine with_tabW dragnetref13_read.tab28 dragnetref13_read.bits28 (fun HT_ HW_=>?_)
              generalize wr.drew=w91 at HO_8 HO_11 HO_13 HO_15 BK637 HB hHeld ⊢
              refine pv_ (i:=0) (N:=some 148) HT_ ?_
              refine pv_ (i:=1) (N:=some 149) HT_ ?_
              refine pv_ (i:=2) (N:=some 150) HT_ ?_
              refine pv_ (i:=3) (N:=some 151) HT_ ?_
              refine pv_ (i:=4) (N:=some 152) HT_ ?_
              refine pw_ (i:=5) (N:=some 153) HT_ ?_
              refine pw_ (i:=6) (N:=some 154) HT_ ?_
              refine pv_ (i:=7) (N:=some 155) HT_ ?_
              refine pv_ (i:=8) (N:=some 156) HT_ ?_
              refine pw_ (i:=9) (N:=some 157) HT_ ?_
              refine pw_ (i:=10) (N:=some 158) HT_ ?_
              refine pw_ (i:=11) (N:=some 159) HT_ ?_
              refine pw_ (i:=12) (N:=some 160) HT_ ?_
              refine pw_ (i:=13) (N:=some 161) HT_ ?_
              refine pw_ (i:=14) (N:=some 162) HT_ ?_
              refine pw_ (i:=15) (N:=some 163) HT_ ?_
              refine pw_ (i:=16) (N:=some 164) HT_ ?_
              refine pw_ (i:=17) (N:=some 165) HT_ ?_
              refine pv_ (i:=18) (N:=some 166) HT_ ?_
              refine pv_ (i:=19) (N:=some 6) HT_ ?_
              refine pv_ (i:=20) (N:=some 7) HT_ ?_
              refine done_ (done_of HT_.out (by kernel_rfl)) ?_
              try go_wp2
              go_ret2
              exact⟨_,by first|rfl|(simp[eWn_,eWs_]<;>rfl)|(simp only[<- hji22];first|rfl|(simp[eWn_,eWs_]<;>rfl))|(simp[*,eWn_,eWs_]<;>rfl),by(with_reducible repeat(first|apply Kd.S_alloc|apply Kd.S_drewN|apply Kd.S_drew));exact HO_15.out,bs_⟩
             rw[if_pos c77]at H
             have c77b0:=beq_iff_eq.mpr c77
             have c77b1:=bne_eq_false_iff_eq.mpr c77
             clear c77
             replace H:=Option.bind_eq_some_iff.mp H
             obtain⟨t655,A780,H⟩:=H
             try dsimp only at H
             have A78:=Aside0.mk A780
             clear A780
             by_cases c79:t655=true
             rotate_left
             .replace c79:=Bool.eq_false_iff.mpr c79
              subst c79
              rw[if_neg (show ¬ (false=true) by decide)]at H
              simp only[Option.some.injEq,Prod.mk.injEq]at H
              obtain⟨rfl,rfl⟩:=H
              try go_wp2
              have n0_:=Aside0.mk (Kd.rD_ HO_8.out)
              have n1_:=Aside0.mk (Kd.rD_ HO_11.out)
              have n2_:=Aside0.mk (Kd.Q_drew HO_13.out)
              have n3_:=Aside0.mk (Kd.S_drew HO_15.out)
              have n4_:=Aside0.mk (blk_drew BK637.out)
              have n5_:=Aside0.mk (pb1_ HB.out)
              clear HO_8
              clear HO_11
              clear HO_13
              clear HO_15
              clear BK637
              clear HB
              have HO_8:=n0_
              have HO_11:=n1_
              have HO_13:=n2_
              have HO_15:=n3_
              have BK637:=n4_
              have HB:=n5_
              clear n0_ n1_ n2_ n3_ n4_ n5_
              obtain⟨Ao88,co88,eo88,_⟩:=Kd.Q_slice HO_13.out
              (first|subst eo88|(injection eo88 with f1_ f2_ f3_;have f4_:=f1_.symm;have f5_:=f3_.symm;clear f1_ f2_ f3_;subst f4_;subst f5_))
              obtain⟨Ao89,co89,eo89⟩:=Kd.S_slice HO_15.out
              (first|subst eo89|(injection eo89 with f1_ f2_ f3_;have f4_:=f1_.symm;have f5_:=f3_.symm;clear f1_ f2_ f3_;subst f4_;subst f5_))
              refine start_ (n:=21) (S:=fun w'=>True) (ds:=[]) #[false,false,false,false,false,false,false,false,false,false,false,false,false,false,false,false,false,false,false,false,false] (by kernel_rfl) rfl rfl trivial (fun hHeld=>?_);refine with_tabW dragnetref13_read.tab28 dragnetref13_read.bits28 (fun HT_ HW_=>?_)
              generalize wr.drew=w87 at HO_8 HO_11 HO_13 HO_15 BK637 HB hHeld ⊢
              refine pv_ (i:=0) (N:=some 148) HT_ ?_
              refine pv_ (i:=1) (N:=some 149) HT_ ?_
              refine pv_ (i:=2) (N:=some 150) HT_ ?_
              refine pv_ (i:=3) (N:=some 151) HT_ ?_
              refine pv_ (i:=4) (N:=some 152) HT_ ?_
              refine pv_ (i:=5) (N:=some 153) HT_ ?_
              refine one_ (i:=6) (N:=some 154) #[tT,tT,tT,tT,tT,tT,tT,fF,fF,fF,fF,fF,fF,fF,fF,fF,fF,fF,fF,fF,fF] rfl rfl (one_of HT_.out (by kernel_rfl)) (by decide) (fun K hK=>?_)
              refine goes_ Try.func17 (by kernel_rfl) rfl #[.slice Ao89 x15_4.length co89] (by rfl) rfl rfl am_ ?_
              with_reducible refine(dragnetref13_Formed.calls k4 _ _ x15_4 false _ ?side1 ?side2 A78.out).mono ?_
              (case side1=>exact Kd.cu_ (Kd.S_reads' HO_15.out).2.2)
              (case side2=>exact(Kd.S_reads' HO_15.out).2.1)
              rintro e w90 ⟨rfl,hb⟩
              refine⟨_,rfl,?_⟩
              have n0_:=Aside0.mk (Kd.R_below (Kd.ru_ HO_8.out) hb)
              have n1_:=Aside0.mk (Kd.R_below (Kd.ru_ HO_11.out) hb)
              have n2_:=Aside0.mk (Kd.Q_below (by(with_reducible repeat(first|apply Kd.Q_alloc|apply Kd.Q_drewN|apply Kd.Q_drew));exact HO_13.out) hb)
              have n3_:=Aside0.mk (Kd.S_below (Kd.su_ HO_15.out) hb)
              have n4_:=Aside0.mk (blk_below (g:=gb637) (o:= .cells #[.int .i64 a0_0,.slice A0_1 l0_1.length c0_1] 75 (0,0)) (bk_ BK637.out) hb)
              have n5_:=Aside0.mk (below_step bs_ hb)
              clear HO_8
              clear HO_11
              clear HO_13
              clear HO_15
              clear BK637
              clear HB
              have HO_8:=n0_
              have HO_11:=n1_
              have HO_13:=n2_
              have HO_15:=n3_
              have BK637:=n4_
              have HB:=n5_
              clear n0_ n1_ n2_ n3_ n4_ n5_
              clear hb
              refine hK.out _ _ trivial (fun hHeld=>?_)
              clear hK K
              refine norm_ (a':=?_) ?_ ?_
              rotate_left
              .show Act.put _ (some 154) _=_
               simp only[Act.put,List.setIfInBounds_toArray,List.set_cons_zero,List.set_cons_succ,i64_w,i32_w]
               rfl
              refine pv_ (i:=7) (N:=some 155) HT_ ?_
              refine pv_ (i:=8) (N:=some 156) HT_ ?_
              refine pw_ (i:=9) (N:=some 157) HT_ ?_
              refine pw_ (i:=10) (N:=some 158) HT_ ?_
              refine pw_ (i:=11) (N:=some 159) HT_ ?_
              refine pw_ (i:=12) (N:=some 160) HT_ ?_
              refine pw_ (i:=13) (N:=some 161) HT_ ?_
              refine pw_ (i:=14) (N:=some 162) HT_ ?_
              refine pw_ (i:=15) (N:=some 163) HT_ ?_
              refine pw_ (i:=16) (N:=some 164) HT_ ?_
              refine pw_ (i:=17) (N:=some 165) HT_ ?_
              refine pv_ (i:=18) (N:=some 166) HT_ ?_
              refine pv_ (i:=19) (N:=some 6) HT_ ?_
              refine pv_ (i:=20) (N:=some 7) HT_ ?_
              refine done_ (done_of HT_.out (by kernel_rfl)) ?_
              try go_wp2
              go_ret2
              exact⟨_,by first|rfl|(simp[eWn_,eWs_]<;>rfl)|(simp only[<- hji22];first|rfl|(simp[eWn_,eWs_]<;>rfl))|(simp[*,eWn_,eWs_]<;>rfl),by(with_reducible repeat(first|apply Kd.S_alloc|apply Kd.S_drewN|apply Kd.S_drew));exact HO_15.out,bs_⟩
             subst c79
             rw[if_pos rfl]at H
             obtain⟨ji80,hji80⟩:∃ j_:Int,(wrap64 (a1 - 1))=j_:=⟨_,rfl⟩
             replace H:(if 0<=(ji80)then(if(ji80) < (x15_4.length:Int)then(some (x15_4,(((rd_T37 x15_4 (ji80)).f0)==a0_0)))else(none))else(none))=some (r1,r2):=hj_ hji80 H
             have hji80w:(IntKind.i64.wrap (a1 - 1))=ji80:=(i64_w _).trans hji80
             by_cases c81:0<=(ji80)
             rotate_left
             .rw[if_neg c81]at H
              cases H
             rw[if_pos c81]at H
             have c81b0:=decide_eq_true c81
             clear c81
             by_cases c82:(ji80) < (x15_4.length:Int)
             rotate_left
             .rw[if_neg c82]at H
              cases H
             rw[if_pos c82]at H
             have c82b0:=decide_eq_true c82
             clear c82
             simp only[Option.some.injEq,Prod.mk.injEq]at H
             obtain⟨rfl,rfl⟩:=H
             try go_wp2
             have n0_:=Aside0.mk (Kd.rD_ HO_8.out)
             have n1_:=Aside0.mk (Kd.rD_ HO_11.out)
             have n2_:=Aside0.mk (Kd.Q_drew HO_13.out)
             have n3_:=Aside0.mk (Kd.S_drew HO_15.out)
             have n4_:=Aside0.mk (blk_drew BK637.out)
             have n5_:=Aside0.mk (pb1_ HB.out)
             clear HO_8
             clear HO_11
             clear HO_13
             clear HO_15
             clear BK637
             clear HB
             have HO_8:=n0_
             have HO_11:=n1_
             have HO_13:=n2_
             have HO_15:=n3_
             have BK637:=n4_
             have HB:=n5_
             clear n0_ n1_ n2_ n3_ n4_ n5_
             obtain⟨Ao84,co84,eo84,_⟩:=Kd.Q_slice HO_13.out
             (first|subst eo84|(injection eo84 with f1_ f2_ f3_;have f4_:=f1_.symm;have f5_:=f3_.symm;clear f1_ f2_ f3_;subst f4_;subst f5_))
             obtain⟨Ao85,co85,eo85⟩:=Kd.S_slice HO_15.out
             (first|subst eo85|(injection eo85 with f1_ f2_ f3_;have f4_:=f1_.symm;have f5_:=f3_.symm;clear f1_ f2_ f3_;subst f4_;subst f5_))
             have p656:0<=((ji80):Int):=od_
             have q656:(ji80) < (x15_4.length:Int):=od_
             obtain⟨ad656,A656_1,c656_1,e656,hx656_0,hx656_1,hl656_1,hi656_1⟩:=at_T37 (Kd.S_reads' HO_15.out).2.2 (ji80) p656 q656
             cases e656
             obtain⟨ce656,hce656,hMe656,hcc656⟩:=Kd.S_get HO_15.out z37 (ji80) p656 (by first|exact q656|exact od_|(have e_:=(Kd.S_reads' HO_15.out).1;omega))
             obtain⟨ve656_1,rfl,ge656_1⟩:=k37_openM hMe656
             have hv656_1:=hcc656 1 _ rfl
             rw[add_field _ _ 1 (by omega)]at hv656_1
             replace hv656_1:=Option.some.inj (hv656_1.symm.trans hx656_1)
             rw[hv656_1]at ge656_1
             have HL656_1:=Aside0.mk (show Kd.R (Kd.int .i64) 3 _ _ _ _ ((rd_T37 x15_4 (ji80)).f1) from ge656_1)
             clear hv656_1 ge656_1
             clear hcc656 hce656
             have HR656_1:=Aside0.mk hi656_1
             have HC656_1:=Aside0.mk hl656_1
             clear hi656_1 hl656_1
             replace p656:=eq_true p656
             replace q656:=eq_true q656
             refine start_ (n:=21) (S:=fun w'=>w'.cell? ⟨gb637,0,none⟩=some (.int .i64 a0_0)∧w'.cell? ⟨gb637,1,none⟩=some (.slice A0_1 l0_1.length c0_1)∧w'.cell? (ad656.add (((ji80)).toNat*2))=some (.int .i64 ((rd_T37 x15_4 (ji80)).f0))∧w'.cell? ⟨(ad656.add (((ji80)).toNat*2)).block,(ad656.add (((ji80)).toNat*2)).off+1,none⟩=some (.slice A656_1 ((rd_T37 x15_4 (ji80)).f1).length c656_1)) (ds:=[]) #[false,false,false,false,false,false,false,false,false,false,false,false,false,false,false,false,false,false,false,false,false] (by kernel_rfl) rfl rfl ⟨(blk_cell BK637.out 0).trans rfl,(blk_cell BK637.out 1).trans rfl,hx656_0,hx656_1⟩ (fun hHeld=>?_);refine with_tabW dragnetref13_read.tab28 dragnetref13_read.bits28 (fun HT_ HW_=>?_)
             generalize wr.drew=w83 at HO_8 HO_11 HO_13 HO_15 BK637 HB HL656_1 HR656_1 hx656_0 hx656_1 hHeld ⊢
             refine pv_ (i:=0) (N:=some 148) HT_ ?_
             refine pv_ (i:=1) (N:=some 149) HT_ ?_
             refine pv_ (i:=2) (N:=some 150) HT_ ?_
             refine pv_ (i:=3) (N:=some 151) HT_ ?_
             refine pv_ (i:=4) (N:=some 152) HT_ ?_
             refine pv_ (i:=5) (N:=some 153) HT_ ?_
             refine one_ (i:=6) (N:=some 154) #[tT,tT,tT,tT,tT,tT,tT,fF,fF,fF,fF,fF,fF,fF,fF,fF,fF,fF,fF,fF,fF] rfl rfl (one_of HT_.out (by kernel_rfl)) (by decide) (fun K hK=>?_)
             refine goes_ Try.func17 (by kernel_rfl) rfl #[.slice (some ad656) x15_4.length co85] (by rfl) rfl rfl am_ ?_
             with_reducible refine(dragnetref13_Formed.calls k4 _ _ x15_4 true _ ?side1 ?side2 A78.out).mono ?_
             (case side1=>exact Kd.cu_ (Kd.S_reads' HO_15.out).2.2)
             (case side2=>exact(Kd.S_reads' HO_15.out).2.1)
             rintro e w86 ⟨rfl,hb⟩
             have HS2_:=(hb.cell (World.block_lt_of_cell? _ _ (hHeld.2.2.1))).trans (hHeld.2.2.1)
             have HS3_:=(hb.cell (World.block_lt_of_cell? _ _ (hHeld.2.2.2))).trans (hHeld.2.2.2)
             refine⟨_,rfl,?_⟩
             have n0_:=Aside0.mk (Kd.R_below (Kd.ru_ HO_8.out) hb)
             have n1_:=Aside0.mk (Kd.R_below (Kd.ru_ HO_11.out) hb)
             have n2_:=Aside0.mk (Kd.Q_below (by(with_reducible repeat(first|apply Kd.Q_alloc|apply Kd.Q_drewN|apply Kd.Q_drew));exact HO_13.out) hb)
             have n3_:=Aside0.mk (Kd.S_below (Kd.su_ HO_15.out) hb)
             have n4_:=Aside0.mk (blk_below (g:=gb637) (o:= .cells #[.int .i64 a0_0,.slice A0_1 l0_1.length c0_1] 75 (0,0)) (bk_ BK637.out) hb)
             have n5_:=Aside0.mk (below_step bs_ hb)
             clear HO_8
             clear HO_11
             clear HO_13
             clear HO_15
             clear BK637
             clear HB
             have HO_8:=n0_
             have HO_11:=n1_
             have HO_13:=n2_
             have HO_15:=n3_
             have BK637:=n4_
             have HB:=n5_
             clear n0_ n1_ n2_ n3_ n4_ n5_
             clear hb
             refine hK.out _ _ ⟨(blk_cell BK637.out 0).trans rfl,(blk_cell BK637.out 1).trans rfl,HS2_,HS3_⟩ (fun hHeld=>?_)
             clear hK K
             refine norm_ (a':=?_) ?_ ?_
             rotate_left
             .show Act.put _ (some 154) _=_
              simp only[Act.put,List.setIfInBounds_toArray,List.set_cons_zero,List.set_cons_succ,i64_w,i32_w]
              rfl
             refine pv_ (i:=7) (N:=some 155) HT_ ?_
             refine pv_ (i:=8) (N:=some 156) HT_ ?_
             refine pv_ (i:=9) (N:=some 157) HT_ ?_
             refine pv_ (i:=10) (N:=some 158) HT_ ?_
             refine pv_ (i:=11) (N:=some 159) HT_ ?_
             refine pv_ (i:=12) (N:=some 160) HT_ ?_
             refine pv_ (i:=13) (N:=some 161) HT_ ?_
             refine pv_ (i:=15) (N:=some 163) HT_ ?_
             refine pv_ (i:=19) (N:=some 6) HT_ ?_
             refine tv_ (i:=14) (N:=some 162) HT_ HW_ hHeld ?_
             refine tv_ (i:=16) (N:=some 164) HT_ HW_ hHeld ?_
             refine pv_ (i:=17) (N:=some 165) HT_ ?_
             refine pv_ (i:=18) (N:=some 166) HT_ ?_
             refine pv_ (i:=20) (N:=some 7) HT_ ?_
             refine done_ (done_of HT_.out (by kernel_rfl)) ?_
             try go_wp2
             go_ret2
             exact⟨_,by first|rfl|(simp[eWn_,eWs_]<;>rfl)|(simp only[<- hji22,<- hji80];first|rfl|(simp[eWn_,eWs_]<;>rfl))|(simp[*,eWn_,eWs_]<;>rfl),by(with_reducible repeat(first|apply Kd.S_alloc|apply Kd.S_drewN|apply Kd.S_drew));exact HO_15.out,bs_⟩
            rw[if_pos c33]at H
            have c33b0:=decide_eq_true c33
            clear c33
            have HC34:=Aside0.mk H
            clear H
            go_upto_region 14 with (fail)
            go_cut [99] (fun v99 wc=>∃ (kq:Nat) (x99_33:Bool),v99= .bool x99_33∧Aside0 (dragnetref13_read.j4 kq a1 x2_4 t638 t644 x13_4 x15_4 x16_4 x99_33 a0_0 l0_1=some (r1,r2))∧Aside0 (kq<=k4)∧Aside0 (Kd.R (Kd.int .u64) 48 wc w.heap.size (fun k_=>some k_≠(v647:Value).ownBlock∧some k_≠(u13:Value).ownBlock) v641 t638)∧Aside0 (Kd.R (Kd.int .u64) 48 wc w.heap.size (fun k_=>some k_≠(v641:Value).ownBlock∧some k_≠(u13:Value).ownBlock) v647 t644)∧Aside0 (Kd.Q (Kd.int .u64) 48 wc w.heap.size (fun k_=>some k_≠(v641:Value).ownBlock∧some k_≠(v647:Value).ownBlock) u13 x13_4)∧Aside0 (Kd.S k37 37 wc w.heap.size (fun _=>True) u15 x15_4)∧Aside0 (wc.heap[gb637]? =some (.cells #[.int .i64 a0_0,(.slice A0_1 l0_1.length c0_1)] 75 (0,0)))∧Aside0 (Below w.heap.size w wc))
            case first=>
             have H:=HC34.out
             clear HC34
             by_cases c35:0<=x16_4
             rotate_left
             .rw[if_neg c35]at H
              cases H
             rw[if_pos c35]at H
             have c35b0:=decide_eq_true c35
             clear c35
             (first|rw[c35b0]|(simp only[i64_w,i32_w];rw[c35b0])|skip)
             by_cases c36:x16_4 < (t638.length:Int)
             rotate_left
             .rw[if_neg c36]at H
              cases H
             rw[if_pos c36]at H
             have c36b0:=decide_eq_true c36
             clear c36
             by_cases c37:(rd t638 x16_4) > 4095
             .rw[if_pos c37]at H
              have c37b0:=decide_eq_true c37
              clear c37
              have H':=Aside0.mk H
              clear H
              obtain⟨Ao38,co38,eo38⟩:=Kd.R_slice HO_8.out
              subst eo38
              have p657:0<=(x16_4:Int):=od_
              have q657:x16_4 < (t638.length:Int):=od_
              obtain⟨ad657,e657,hx657_0⟩:=Kd.at_int (Kd.R_reads' HO_8.out).2.2 x16_4 p657 q657
              cases e657
              replace p657:=eq_true p657
              replace q657:=eq_true q657
              go_wp2
              go_meet
              case rel=>exact⟨_,(true),rs_,H',⟨by have:=HJ4.out;have:=HJ14.out;have:=HJ25.out;have:=HK4.out;first|omega|exact Nat.le_refl _⟩,⟨Kd.ru_ HO_8.out⟩,⟨Kd.ru_ HO_11.out⟩,⟨by(with_reducible repeat(first|apply Kd.Q_alloc|apply Kd.Q_drewN|apply Kd.Q_drew));exact HO_13.out⟩,⟨Kd.su_ HO_15.out⟩,⟨bk_ BK637.out⟩,⟨bs_⟩⟩
             .rw[if_neg c37]at H
              have c37b0:=decide_eq_false c37
              clear c37
              by_cases c39:x16_4 < (t644.length:Int)
              rotate_left
              .rw[if_neg c39]at H
               cases H
              rw[if_pos c39]at H
              have c39b0:=decide_eq_true c39
              clear c39
              have H':=Aside0.mk H
              clear H
              obtain⟨Ao40,co40,eo40⟩:=Kd.R_slice HO_8.out
              subst eo40
              have p657:0<=(x16_4:Int):=od_
              have q657:x16_4 < (t638.length:Int):=od_
              obtain⟨ad657,e657,hx657_0⟩:=Kd.at_int (Kd.R_reads' HO_8.out).2.2 x16_4 p657 q657
              cases e657
              replace p657:=eq_true p657
              replace q657:=eq_true q657
              obtain⟨Ao41,co41,eo41⟩:=Kd.R_slice HO_11.out
              subst eo41
              have p658:0<=(x16_4:Int):=od_
              have q658:x16_4 < (t644.length:Int):=od_
              obtain⟨ad658,e658,hx658_0⟩:=Kd.at_int (Kd.R_reads' HO_11.out).2.2 x16_4 p658 q658
              cases e658
              replace p658:=eq_true p658
              replace q658:=eq_true q658
              obtain⟨Ao42,co42,eo42,_⟩:=Kd.Q_slice HO_13.out
              subst eo42
              go_wp2
              go_meet
              case rel=>exact⟨_,(decide ((rd t644 x16_4)≥(IntKind.u64.wrap ((x13_4.length:Int))))),rs_,H',⟨by have:=HJ4.out;have:=HJ14.out;have:=HJ25.out;have:=HK4.out;first|omega|exact Nat.le_refl _⟩,⟨Kd.ru_ HO_8.out⟩,⟨Kd.ru_ HO_11.out⟩,⟨by(with_reducible repeat(first|apply Kd.Q_alloc|apply Kd.Q_drewN|apply Kd.Q_drew));exact HO_13.out⟩,⟨Kd.su_ HO_15.out⟩,⟨bk_ BK637.out⟩,⟨bs_⟩⟩
            case rest=>
             clear HC34
             clear c33b0
             obtain⟨kq,x99_33,rfl,HA,HJ33,HO_8,HO_11,HO_13,HO_15,BK637,HB⟩:=hcut
             cases kq with
             |zero=>exact absurd HA.out (by simp[dragnetref13_read.j4])
             |succ kj33=>
              have H:=HA.out
              clear HA
              simp only[dragnetref13_read.j4]at H
              by_cases c43:x99_33=true
              .subst c43
               rw[if_pos rfl]at H
               simp only[Option.some.injEq,Prod.mk.injEq]at H
               obtain⟨rfl,rfl⟩:=H
               go_wp2
               go_ret2
               exact⟨_,by first|rfl|(simp[eWn_,eWs_]<;>rfl)|(simp only[<- hji22];first|rfl|(simp[eWn_,eWs_]<;>rfl))|(simp[*,eWn_,eWs_]<;>rfl),by first|exact Kd.S_nil _ _ _ _ _|exact Kd.N_nil _ _ _ _ _|exact Kd.V_nil _ _ _ _ _|exact Kd.Q_nil _ _ _ _ _|exact Kd.R_nil _ _ _ _ _,bs_⟩
              .replace c43:=Bool.eq_false_iff.mpr c43
               subst c43
               rw[if_neg (show ¬ (false=true) by decide)]at H
               by_cases c44:0<=x16_4
               rotate_left
               .rw[if_neg c44]at H
                cases H
               rw[if_pos c44]at H
               have c44b0:=decide_eq_true c44
               clear c44
               by_cases c45:x16_4 < (t638.length:Int)
               rotate_left
               .rw[if_neg c45]at H
                cases H
               rw[if_pos c45]at H
               have c45b0:=decide_eq_true c45
               clear c45
               have H':=Aside0.mk H
               clear H
               obtain⟨Ao46,co46,eo46⟩:=Kd.R_slice HO_8.out
               subst eo46
               have p659:0<=(x16_4:Int):=od_
               have q659:x16_4 < (t638.length:Int):=od_
               obtain⟨ad659,e659,hx659_0⟩:=Kd.at_int (Kd.R_reads' HO_8.out).2.2 x16_4 p659 q659
               cases e659
               replace p659:=eq_true p659
               replace q659:=eq_true q659
               go_wp2_with (first|((with_reducible refine gate_dst (N:=17) rfl ?_);(try(refine gate_guard (by rfl) ?_;dsimp only));refine box_event ?hg (N:=17) ?hd (cs:= #[.int .i64 0,.slice none 0 0]) (t:=37) ?hr ?_;(case hd=>rfl);(case hg=>rfl);(case hr=>first|(go_simp;done)|(go_simp;rfl));intro gb660 hg w47 hbox hb;have n0_:=Aside0.mk (Kd.R_below (Kd.ru_ HO_8.out) hb);have n1_:=Aside0.mk (Kd.R_below (Kd.ru_ HO_11.out) hb);have n2_:=Aside0.mk (Kd.Q_below (by(with_reducible repeat(first|apply Kd.Q_alloc|apply Kd.Q_drewN|apply Kd.Q_drew));exact HO_13.out) hb);have n3_:=Aside0.mk (Kd.S_below (Kd.S_elderB (Kd.su_ HO_15.out) gb660 (Nat.le_of_eq hg.symm)) hb);have n4_:=Aside0.mk (blk_below (g:=gb637) (o:= .cells #[.int .i64 a0_0,.slice A0_1 l0_1.length c0_1] 75 (0,0)) (bk_ BK637.out) hb);have n5_:=Aside0.mk (below_step bs_ hb);have n6_:=Aside0.mk (hbox);have n7_:=Aside0.mk ((by rw[hg];exact(pbS_ bs_):w.heap.size<=gb660));have n8_:=Aside0.mk ((by rw[hg];exact(pbS_ bs_):w.heap.size<=gb660));have n9_:=Aside0.mk ((by rw[hg];exact Nat.ne_of_lt (blk_lt (g:=gb637) (o:= .cells #[.int .i64 a0_0,.slice A0_1 l0_1.length c0_1] 75 (0,0)) (bk_ BK637.out)):gb637≠gb660));have n10_:=Aside0.mk ((by rw[hg];exact Nat.ne_of_gt (blk_lt (g:=gb637) (o:= .cells #[.int .i64 a0_0,.slice A0_1 l0_1.length c0_1] 75 (0,0)) (bk_ BK637.out)):gb660≠gb637));clear HO_8;clear HO_11;clear HO_13;clear HO_15;clear BK637;clear HB;have HO_8:=n0_;have HO_11:=n1_;have HO_13:=n2_;have HO_15:=n3_;have BK637:=n4_;have HB:=n5_;have BK660:=n6_;have GW660:=n7_;have GE660:=n8_;have NB637_660:=n9_;have NB660_637:=n10_;clear n0_ n1_ n2_ n3_ n4_ n5_ n6_ n7_ n8_ n9_ n10_;clear hb hbox hg;have hnb48:=NB660_637.out;have hnc48:=NB637_660.out;have hcz49_0:w47.cell? ⟨gb660,0,none⟩=some (.int .i64 0):=(blk_cell BK660.out 0).trans rfl;have hcz49_1:w47.cell? ⟨gb660,1,none⟩=some (.slice none 0 0):=(blk_cell BK660.out 1).trans rfl;have hfz49_0:=blk_frozen BK660.out 0;have hfz49_1:=blk_frozen BK660.out 1))
               go_loopg [18,19] kj33 (fun kq v18 v19 w'=>∃ (x18_6:Int) (x19_6:Int) (x661001_6:List Int) (u661001:Value),v18= .int .i64 x18_6∧v19= .int .u64 x19_6∧Aside0 (dragnetref13_read.l1 kq a1 (wrap64 ((wrap64 (x2_4+1))+(wrap64 (rd t638 x16_4)))) t638 t644 x13_4 x15_4 x16_4 x18_6 x19_6 a0_0 l0_1 (wrap64 ((wrap64 (x2_4+1))+(wrap64 (rd t638 x16_4)))) x661001_6=some (r1,r2))∧Aside0 (kq<=kj33)∧Aside0 (Kd.R (Kd.int .u64) 48 w' w.heap.size (fun k_=>some k_≠(v647:Value).ownBlock∧some k_≠(u13:Value).ownBlock) (.slice (some ad659) t638.length co46) t638)∧Aside0 (Kd.R (Kd.int .u64) 48 w' w.heap.size (fun k_=>some k_≠((.slice (some ad659) t638.length co46):Value).ownBlock∧some k_≠(u13:Value).ownBlock) v647 t644)∧Aside0 (Kd.Q (Kd.int .u64) 48 w' w.heap.size (fun k_=>some k_≠((.slice (some ad659) t638.length co46):Value).ownBlock∧some k_≠(v647:Value).ownBlock) u13 x13_4)∧Aside0 (Kd.S k37 37 w' w.heap.size (fun k_=>some k_≠(u661001:Value).ownBlock∧k_≠gb660) u15 x15_4)∧Aside0 (Kd.R (Kd.int .i64) 3 w' w.heap.size (fun _=>True) u661001 x661001_6)∧Aside0 (w'.heap[gb637]? =some (.cells #[.int .i64 a0_0,(.slice A0_1 l0_1.length c0_1)] 75 (0,0)))∧Aside0 (w'.heap[gb660]? =some (.cells #[.int .i64 (wrap64 ((wrap64 (x2_4+1))+(wrap64 (rd t638 x16_4)))),u661001] 37 (0,0)))∧Aside0 (Below w.heap.size w w'))
               case atStart=>exact⟨((-1)),(0),(([]:List Int)),(.slice none 0 0),rs_,rs_,H',⟨Nat.le_refl _⟩,⟨by(with_reducible repeat(first|apply Kd.rA_|apply Kd.rN_|apply Kd.rD_));exact Kd.R_mono (Kd.R_far (p:=⟨gb660,1,none⟩) (Kd.R_far (p:=⟨gb660,0,none⟩) (Kd.R_types HO_8.out BK660.out (by decide)) (fun _ hk=>hk.2) (.int .i64 (wrap64 ((wrap64 (x2_4+1))+(wrap64 (rd t638 x16_4)))))) (fun _ hk=>hk.2) (.slice none 0 0)) (fun _ hk=>⟨hk.1.1,hk.1.2⟩)⟩,⟨by(with_reducible repeat(first|apply Kd.rA_|apply Kd.rN_|apply Kd.rD_));exact Kd.R_mono (Kd.R_far (p:=⟨gb660,1,none⟩) (Kd.R_far (p:=⟨gb660,0,none⟩) (Kd.R_types HO_11.out BK660.out (by decide)) (fun _ hk=>hk.2) (.int .i64 (wrap64 ((wrap64 (x2_4+1))+(wrap64 (rd t638 x16_4)))))) (fun _ hk=>hk.2) (.slice none 0 0)) (fun _ hk=>⟨hk.1.1,hk.1.2⟩)⟩,⟨by(with_reducible repeat(first|apply Kd.Q_alloc|apply Kd.Q_drewN|apply Kd.Q_drew));exact Kd.Q_mono (Kd.Q_far (p:=⟨gb660,1,none⟩) (Kd.Q_far (p:=⟨gb660,0,none⟩) (Kd.Q_types HO_13.out BK660.out (by decide)) (fun _ hk=>hk.2) (.int .i64 (wrap64 ((wrap64 (x2_4+1))+(wrap64 (rd t638 x16_4)))))) (fun _ hk=>hk.2) (.slice none 0 0)) (fun _ hk=>⟨hk.1.1,hk.1.2⟩)⟩,⟨by(with_reducible repeat(first|apply Kd.S_alloc|apply Kd.S_drewN|apply Kd.S_drew));exact Kd.S_mono (Kd.S_far (p:=⟨gb660,1,none⟩) (Kd.S_far (p:=⟨gb660,0,none⟩) (Kd.S_mono HO_15.out (fun k_ hk=>(⟨hk,hk.2⟩:_∧k_≠gb660))) (fun _ hk=>hk.2) (.int .i64 (wrap64 ((wrap64 (x2_4+1))+(wrap64 (rd t638 x16_4)))))) (fun _ hk=>hk.2) (.slice none 0 0)) (fun _ hk=>⟨(by simp[Value.ownBlock]),hk.1.2⟩)⟩,⟨ni_⟩,⟨by(with_reducible repeat(first|refine blk_drewN ?_ _|refine blk_drew ?_|refine blk_alloc ?_ _));refine blk_far ?_ NB637_660.out _;(with_reducible repeat(first|refine blk_drewN ?_ _|refine blk_drew ?_|refine blk_alloc ?_ _));refine blk_far ?_ NB637_660.out _;(with_reducible repeat(first|refine blk_drewN ?_ _|refine blk_drew ?_|refine blk_alloc ?_ _));exact BK637.out⟩,⟨by(with_reducible repeat(first|refine blk_drewN ?_ _|refine blk_drew ?_|refine blk_alloc ?_ _));refine blk_put (cs:= #[.int .i64 (wrap64 ((wrap64 (x2_4+1))+(wrap64 (rd t638 x16_4)))),.slice none 0 0]) ?_ 1 _ rfl;(with_reducible repeat(first|refine blk_drewN ?_ _|refine blk_drew ?_|refine blk_alloc ?_ _));refine blk_put (cs:= #[.int .i64 0,.slice none 0 0]) ?_ 0 _ rfl;(with_reducible repeat(first|refine blk_drewN ?_ _|refine blk_drew ?_|refine blk_alloc ?_ _));exact BK660.out⟩,⟨bs_⟩⟩
               case round=>
                clear H'
                clear c44b0
                clear c45b0
                clear hcz49_0 hcz49_1
                clear hfz49_0 hfz49_1
                clear hx659_0
                clear p659
                clear q659
                obtain⟨x18_6,x19_6,x661001_6,u661001,rfl,rfl,HA,HK6,HO_8,HO_11,HO_13,HO_15,HO_661001,BK637,BK660,HB⟩:=hrel
                cases gk with
                |zero=>exact absurd HA.out (by simp[dragnetref13_read.l1])
                |succ k6=>
                 have H:=HA.out
                 clear HA
                 simp only[dragnetref13_read.l1]at H
                 by_cases c50:0<=x16_4
                 rotate_left
                 .rw[if_neg c50]at H
                  cases H
                 rw[if_pos c50]at H
                 have c50b0:=decide_eq_true c50
                 clear c50
                 by_cases c51:x16_4 < (t644.length:Int)
                 rotate_left
                 .rw[if_neg c51]at H
                  cases H
                 rw[if_pos c51]at H
                 have c51b0:=decide_eq_true c51
                 clear c51
                 by_cases c52:x19_6<=(rd t644 x16_4)
                 rotate_left
                 .rw[if_neg c52]at H
                  have c52b0:=decide_eq_false c52
                  clear c52
                  obtain⟨ji66,hji66⟩:∃ j_:Int,(IntKind.u64.wrap ((rd t644 x16_4)+1))=j_:=⟨_,rfl⟩
                  replace H:(if 0<=(ji66)then(if(ji66)<=(x13_4.length:Int)then(if x15_4.length < 4398046511104 then(dragnetref13_read.l0 k6 a1 (wrap64 ((wrap64 (x2_4+1))+(wrap64 (rd t638 x16_4)))) t638 t644 (x13_4.drop ((ji66):Int).toNat) (x15_4++[(⟨(wrap64 ((wrap64 (x2_4+1))+(wrap64 (rd t638 x16_4)))),x661001_6⟩:S37)]) (wrap64 (x16_4+1)) a0_0 l0_1)else(none))else(none))else(none))=some (r1,r2):=hj_ hji66 H
                  by_cases c67:0<=(ji66)
                  rotate_left
                  .rw[if_neg c67]at H
                   cases H
                  rw[if_pos c67]at H
                  have c67b0:=eq_true c67
                  have c67b1:=decide_eq_true c67
                  clear c67
                  by_cases c68:(ji66)<=(x13_4.length:Int)
                  rotate_left
                  .rw[if_neg c68]at H
                   cases H
                  rw[if_pos c68]at H
                  have c68b0:=eq_true c68
                  have c68b1:=decide_eq_true c68
                  clear c68
                  obtain⟨y668,hy668⟩:∃ y_:List Int,y_=(x13_4.drop ((ji66):Int).toNat):=⟨_,rfl⟩
                  replace H:(if x15_4.length < 4398046511104 then(dragnetref13_read.l0 k6 a1 (wrap64 ((wrap64 (x2_4+1))+(wrap64 (rd t638 x16_4)))) t638 t644 y668 (x15_4++[(⟨(wrap64 ((wrap64 (x2_4+1))+(wrap64 (rd t638 x16_4)))),x661001_6⟩:S37)]) (wrap64 (x16_4+1)) a0_0 l0_1)else(none))=some (r1,r2):=hx_ hy668 H
                  have Ny668:=Aside0.mk hy668
                  clear hy668
                  by_cases c69:x15_4.length < 4398046511104
                  rotate_left
                  .rw[if_neg c69]at H
                   cases H
                  rw[if_pos c69]at H
                  have LMc69:=Aside0.mk c69
                  clear c69
                  obtain⟨y671,hy671⟩:∃ y_:List (S37),y_=(x15_4++[(⟨(wrap64 ((wrap64 (x2_4+1))+(wrap64 (rd t638 x16_4)))),x661001_6⟩:S37)]):=⟨_,rfl⟩
                  replace H:(dragnetref13_read.l0 k6 a1 (wrap64 ((wrap64 (x2_4+1))+(wrap64 (rd t638 x16_4)))) t638 t644 y668 y671 (wrap64 (x16_4+1)) a0_0 l0_1)=some (r1,r2):=hx_ hy671 H
                  have Ny671:=Aside0.mk hy671
                  clear hy671
                  have H':=Aside0.mk H
                  clear H
                  obtain⟨Ao70,co70,eo70⟩:=Kd.R_slice HO_11.out
                  subst eo70
                  have p661:0<=(x16_4:Int):=od_
                  have q661:x16_4 < (t644.length:Int):=od_
                  obtain⟨ad661,e661,hx661_0⟩:=Kd.at_int (Kd.R_reads' HO_11.out).2.2 x16_4 p661 q661
                  cases e661
                  replace p661:=eq_true p661
                  replace q661:=eq_true q661
                  have p667:0<=(x16_4:Int):=od_
                  have q667:x16_4 < (t644.length:Int):=od_
                  obtain⟨ad667,e667,hx667_0⟩:=Kd.at_int (Kd.R_reads' HO_11.out).2.2 x16_4 p667 q667
                  obtain rfl:ad661=ad667:=(by injection e667)
                  replace p667:=eq_true p667
                  replace q667:=eq_true q667
                  obtain⟨Ao71,co71,eo71,_⟩:=Kd.Q_slice HO_13.out
                  subst eo71
                  have q72:((ji66):Int)<=((x13_4.length:Int):Int):=od_
                  obtain⟨i072,hi072,_,hsz72,_⟩:=info_parts info48
                  have hcut72:=cut_from (P:=Try.prog) 52 48 .u64 Try.underlying52 hi072 1 hsz72 Ao71 x13_4.length co71 (ji66) od_ q72
                  have hr72:=Kd.Q_drop (k:=((ji66):Int).toNat) HO_13.out (by omega)
                  obtain⟨A72,hA72⟩:∃ A1,A1=(if co71=((ji66):Int).toNat then Ao71 else(Ao71:Option Addr).map (·.add (((ji66):Int).toNat*1))):=⟨_,rfl⟩
                  obtain⟨c72,hc72⟩:∃ c1,c1=co71 - ((ji66):Int).toNat:=⟨_,rfl⟩
                  have hy72:y668.length=x13_4.length - ((ji66):Int).toNat:=(by rw[Ny668.out,List.length_drop])
                  rw[<- Ny668.out]at hr72
                  rw[<- hy72,<- hA72,<- hc72]at hcut72
                  replace hr72:Kd.Q (Kd.int .u64) 48 wr w.heap.size (fun k_=>some k_≠(.slice (some ad659) t638.length co46:Value).ownBlock∧some k_≠(.slice (some ad661) t644.length co70:Value).ownBlock) (.slice A72 y668.length c72) y668:=(by rw[hA72,hc72,hy72];exact hr72)
                  have HE72:Aside0 ((Value.slice A72 y668.length c72).ownBlock=(.slice Ao71 x13_4.length co71:Value).ownBlock):=⟨by rw[hA72];split<;>(cases(Ao71:Option Addr)<;>first|rfl|(simp only[Option.map,Value.ownBlock];exact congrArg some (add_block _ _)))⟩
                  clear hy72 hi072 hsz72 HO_13 hA72 hc72
                  have HO670:=Aside0.mk hr72
                  clear hr72
                  replace q72:=eq_true q72
                  have n_:=Aside0.mk (Kd.R_mono (ok':=fun k_=>(some k_≠(.slice (some ad661) t644.length co70:Value).ownBlock∧some k_≠(.slice A72 y668.length c72:Value).ownBlock)) HO_8.out (fun k_ hk=>⟨hk.1,(by rw[HE72.out];exact hk.2)⟩))
                  clear HO_8
                  have HO_8:=n_
                  clear n_
                  have n_:=Aside0.mk (Kd.R_mono (ok':=fun k_=>(some k_≠(.slice (some ad659) t638.length co46:Value).ownBlock∧some k_≠(.slice A72 y668.length c72:Value).ownBlock)) HO_11.out (fun k_ hk=>⟨hk.1,(by rw[HE72.out];exact hk.2)⟩))
                  clear HO_11
                  have HO_11:=n_
                  clear n_
                  have hnb73:=NB660_637.out
                  have hnc73:=NB637_660.out
                  have hcz74_0:wr.cell? ⟨gb660,0,none⟩=some (.int .i64 (wrap64 ((wrap64 (x2_4+1))+(wrap64 (rd t638 x16_4))))):=(blk_cell BK660.out 0).trans rfl
                  have hcz74_1:wr.cell? ⟨gb660,1,none⟩=some (u661001):=(blk_cell BK660.out 1).trans rfl
                  have hfz74_0:=blk_frozen BK660.out 0
                  have hfz74_1:=blk_frozen BK660.out 1
                  obtain⟨Ao76,co76,eo76⟩:=Kd.R_slice HO_661001.out
                  subst eo76
                  go_wp2_with (first|((with_reducible refine gate_builtin (b:= .append) (xs:= #[.tmp 144,.tmp 146]) rfl ?_);(try(refine gate_guard (by rfl) ?_;dsimp only));at_builtin;refine Kd.S_append k37 (w0:=w) w.heap.size rfl (.tmp 144) (.tmp 146) 23 37 (.agg #[(.int .i64 0),(.slice none 0 0)]) 32 rfl Try.underlying23 info37 rfl (by decide) (by omega) u15 x15_4 (⟨(wrap64 ((wrap64 (x2_4+1))+(wrap64 (rd t638 x16_4)))),x661001_6⟩:S37) [.int .i64 (wrap64 ((wrap64 (x2_4+1))+(wrap64 (rd t638 x16_4)))),.slice Ao76 x661001_6.length co76] (fun k_=>k_≠gb660) (fun k_=>some k_=(.slice Ao76 x661001_6.length co76:Value).ownBlock) rfl rfl ?aP (fun k_ hk_=>((Kd.R_mono (ok':=fun k_=>((fun k_=>k_≠gb660)) k_∧some k_≠(u15:Value).ownBlock) (Kd.R_types (Kd.R_apart' (HO_661001.out) (Kd.S_typed HO_15.out) (by decide)) BK660.out (by decide)) (fun k_ hk=>⟨hk.2,hk.1.2⟩))).1 k_ hk_.symm) ?aF ?aO ?aB ?aS ?aL ?_;(case aP=>exact k37_mkM _ _ _ (⟨(wrap64 ((wrap64 (x2_4+1))+(wrap64 (rd t638 x16_4)))),x661001_6⟩:S37) (Kd.R_mono (Kd.R_tight rfl (Kd.R_mono (ok':=fun k_=>((fun k_=>k_≠gb660)) k_∧some k_≠(u15:Value).ownBlock) (Kd.R_types (Kd.R_apart' (HO_661001.out) (Kd.S_typed HO_15.out) (by decide)) BK660.out (by decide)) (fun k_ hk=>⟨hk.2,hk.1.2⟩))) (fun _ h_=>h_)));(case aB=>exact bs_);(case aF=>exact(fun k_ hk=>Kd.freshB (g:=gb660) (o:= .cells #[.int .i64 (wrap64 ((wrap64 (x2_4+1))+(wrap64 (rd t638 x16_4)))),.slice Ao76 x661001_6.length co76] 37 (0,0)) (bk_ BK660.out) k_ hk));(case aO=>exact(by(with_reducible repeat(first|apply Kd.S_alloc|apply Kd.S_drewN|apply Kd.S_drew));exact Kd.S_mono HO_15.out (fun k_ hk=>⟨hk.2,fun e_=>hk.1 e_⟩)));(case aS=>exact(pbS_ bs_));(case aL=>have:=LMc69.out;omega);intro v672 w75 ho hb hg hat;rw[<- Ny671.out]at ho;have n0_:=Aside0.mk (Kd.R_over' (Kd.ru_ HO_8.out) (Kd.S_typed (Kd.su_ HO_15.out)) (by decide) hg);have n1_:=Aside0.mk (Kd.R_over' (Kd.ru_ HO_11.out) (Kd.S_typed (Kd.su_ HO_15.out)) (by decide) hg);have n2_:=Aside0.mk (Kd.Q_over' (by(with_reducible repeat(first|apply Kd.Q_alloc|apply Kd.Q_drewN|apply Kd.Q_drew));exact HO670.out) (Kd.S_typed (Kd.su_ HO_15.out)) (by decide) hg);have n3_:=Aside0.mk (blk_grown (g:=gb637) (o:= .cells #[.int .i64 a0_0,.slice A0_1 l0_1.length c0_1] 75 (0,0)) (bk_ BK637.out) hg (Kd.S_ne HO_15.out BK637.out (by decide)));have n4_:=Aside0.mk (blk_grown (g:=gb660) (o:= .cells #[.int .i64 (wrap64 ((wrap64 (x2_4+1))+(wrap64 (rd t638 x16_4)))),.slice Ao76 x661001_6.length co76] 37 (0,0)) (bk_ BK660.out) hg (Kd.S_away HO_15.out (fun _ hk=>hk.2)));have n5_:=Aside0.mk (hb);have n6_:=Aside0.mk (ho);clear HO_8;clear HO_11;clear HO670;clear BK637;clear BK660;clear HB;clear HO_15;clear HO_661001;have HO_8:=n0_;have HO_11:=n1_;have HO670:=n2_;have BK637:=n3_;have BK660:=n4_;have HB:=n5_;have HO673:=n6_;clear n0_ n1_ n2_ n3_ n4_ n5_ n6_;clear ho hb hg hat))
                  subst hji66
                  go_roundg k6
                  case measure=>have:=HJ4.out;have:=HJ14.out;have:=HJ25.out;have:=HK4.out;have:=HJ33.out;have:=HK6.out;omega
                  case rel=>exact⟨((wrap64 ((wrap64 (x2_4+1))+(wrap64 (rd t638 x16_4))))),(y668),(y671),(wrap64 (x16_4+1)),rs_,rs_,H',⟨by have:=HJ4.out;have:=HJ14.out;have:=HJ25.out;have:=HK4.out;have:=HJ33.out;have:=HK6.out;omega⟩,⟨Kd.ru_ HO_8.out⟩,⟨Kd.ru_ HO_11.out⟩,⟨by(with_reducible repeat(first|apply Kd.Q_alloc|apply Kd.Q_drewN|apply Kd.Q_drew));exact HO670.out⟩,⟨by(with_reducible repeat(first|apply Kd.S_alloc|apply Kd.S_drewN|apply Kd.S_drew));exact Kd.S_mono HO673.out (fun _ hk=>trivial)⟩,⟨bk_ BK637.out⟩,⟨bs_⟩⟩
                 rw[if_pos c52]at H
                 have c52b0:=decide_eq_true c52
                 clear c52
                 by_cases c53:0<=x19_6
                 rotate_left
                 .rw[if_neg c53]at H
                  cases H
                 rw[if_pos c53]at H
                 have c53b0:=decide_eq_true c53
                 clear c53
                 by_cases c54:x19_6 < (x13_4.length:Int)
                 rotate_left
                 .rw[if_neg c54]at H
                  cases H
                 rw[if_pos c54]at H
                 have c54b0:=decide_eq_true c54
                 clear c54
                 by_cases c55:(rd x13_4 x19_6) > 2147483647
                 .rw[if_pos c55]at H
                  have c55b0:=decide_eq_true c55
                  clear c55
                  simp only[Option.some.injEq,Prod.mk.injEq]at H
                  obtain⟨rfl,rfl⟩:=H
                  obtain⟨Ao56,co56,eo56⟩:=Kd.R_slice HO_11.out
                  subst eo56
                  have p661:0<=(x16_4:Int):=od_
                  have q661:x16_4 < (t644.length:Int):=od_
                  obtain⟨ad661,e661,hx661_0⟩:=Kd.at_int (Kd.R_reads' HO_11.out).2.2 x16_4 p661 q661
                  cases e661
                  replace p661:=eq_true p661
                  replace q661:=eq_true q661
                  obtain⟨Ao57,co57,eo57,_⟩:=Kd.Q_slice HO_13.out
                  subst eo57
                  have p662:0<=(x19_6:Int):=od_
                  have q662:x19_6 < (x13_4.length:Int):=od_
                  obtain⟨ad662,e662,hx662_0⟩:=Kd.at_int (Kd.Q_reads' HO_13.out).2.2 x19_6 p662 q662
                  cases e662
                  replace p662:=eq_true p662
                  replace q662:=eq_true q662
                  go_wp2
                  go_ret2
                  exact⟨_,by first|rfl|(simp[eWn_,eWs_]<;>rfl)|(simp only[<- hji22];first|rfl|(simp[eWn_,eWs_]<;>rfl))|(simp[*,eWn_,eWs_]<;>rfl),by first|exact Kd.S_nil _ _ _ _ _|exact Kd.N_nil _ _ _ _ _|exact Kd.V_nil _ _ _ _ _|exact Kd.Q_nil _ _ _ _ _|exact Kd.R_nil _ _ _ _ _,bs_⟩
                 .rw[if_neg c55]at H
                  have c55b0:=decide_eq_false c55
                  clear c55
                  by_cases c58:x661001_6.length < 17592186044416
                  rotate_left
                  .rw[if_neg c58]at H
                   cases H
                  rw[if_pos c58]at H
                  have LMc58:=Aside0.mk c58
                  clear c58
                  obtain⟨y664,hy664⟩:∃ y_:List Int,y_=(x661001_6++[wrap64 ((wrap64 (x18_6+1))+(wrap64 (rd x13_4 x19_6)))]):=⟨_,rfl⟩
                  replace H:(dragnetref13_read.l1 k6 a1 (wrap64 ((wrap64 (x2_4+1))+(wrap64 (rd t638 x16_4)))) t638 t644 x13_4 x15_4 x16_4 (wrap64 ((wrap64 (x18_6+1))+(wrap64 (rd x13_4 x19_6)))) (IntKind.u64.wrap (x19_6+1)) a0_0 l0_1 (wrap64 ((wrap64 (x2_4+1))+(wrap64 (rd t638 x16_4)))) y664)=some (r1,r2):=hx_ hy664 H
                  have Ny664:=Aside0.mk hy664
                  clear hy664
                  have H':=Aside0.mk H
                  clear H
                  obtain⟨Ao59,co59,eo59⟩:=Kd.R_slice HO_11.out
                  subst eo59
                  have p661:0<=(x16_4:Int):=od_
                  have q661:x16_4 < (t644.length:Int):=od_
                  obtain⟨ad661,e661,hx661_0⟩:=Kd.at_int (Kd.R_reads' HO_11.out).2.2 x16_4 p661 q661
                  cases e661
                  replace p661:=eq_true p661
                  replace q661:=eq_true q661
                  obtain⟨Ao60,co60,eo60,_⟩:=Kd.Q_slice HO_13.out
                  subst eo60
                  have p662:0<=(x19_6:Int):=od_
                  have q662:x19_6 < (x13_4.length:Int):=od_
                  obtain⟨ad662,e662,hx662_0⟩:=Kd.at_int (Kd.Q_reads' HO_13.out).2.2 x19_6 p662 q662
                  cases e662
                  replace p662:=eq_true p662
                  replace q662:=eq_true q662
                  have p663:0<=(x19_6:Int):=od_
                  have q663:x19_6 < (x13_4.length:Int):=od_
                  obtain⟨ad663,e663,hx663_0⟩:=Kd.at_int (Kd.Q_reads' HO_13.out).2.2 x19_6 p663 q663
                  obtain rfl:ad662=ad663:=(by injection e663)
                  replace p663:=eq_true p663
                  replace q663:=eq_true q663
                  have hnb61:=NB660_637.out
                  have hnc61:=NB637_660.out
                  have hcz62_0:wr.cell? ⟨gb660,0,none⟩=some (.int .i64 (wrap64 ((wrap64 (x2_4+1))+(wrap64 (rd t638 x16_4))))):=(blk_cell BK660.out 0).trans rfl
                  have hcz62_1:wr.cell? ⟨gb660,1,none⟩=some (u661001):=(blk_cell BK660.out 1).trans rfl
                  have hfz62_0:=blk_frozen BK660.out 0
                  have hfz62_1:=blk_frozen BK660.out 1
                  go_wp2_with (first|((with_reducible refine gate_builtin (b:= .append) (xs:= #[.tmp 132,.tmp 134]) rfl ?_);(try(refine gate_guard (by rfl) ?_;dsimp only));at_builtin;refine Kd.R_append (Kd.int .i64) (w0:=w) w.heap.size rfl (.tmp 132) (.tmp 134) 35 3 (.int .i64 0) 8 rfl Try.underlying35 info3 rfl (by decide) (by omega) u661001 x661001_6 (wrap64 ((wrap64 (x18_6+1))+(wrap64 (rd x13_4 x19_6)))) [.int .i64 (wrap64 ((wrap64 (x18_6+1))+(wrap64 (rd x13_4 x19_6))))] (fun _=>True) (fun _=>False) rfl rfl ?aP (fun _ hk=>hk.elim) ?aF ?aO ?aB ?aS ?aL ?_;(case aP=>exact rfl);(case aB=>exact bs_);(case aF=>exact(fun _ _=>trivial));(case aO=>exact(Kd.ru_ HO_661001.out));(case aS=>exact(pbS_ bs_));(case aL=>have:=LMc58.out;omega);intro v665 w63 ho hb hg hat;rw[<- Ny664.out]at ho;have n0_:=Aside0.mk (Kd.R_over' (Kd.ru_ HO_8.out) (Kd.R_typed (Kd.ru_ HO_661001.out)) (by decide) hg);have n1_:=Aside0.mk (Kd.R_over' (Kd.ru_ HO_11.out) (Kd.R_typed (Kd.ru_ HO_661001.out)) (by decide) hg);have n2_:=Aside0.mk (Kd.Q_over' (by(with_reducible repeat(first|apply Kd.Q_alloc|apply Kd.Q_drewN|apply Kd.Q_drew));exact HO_13.out) (Kd.R_typed (Kd.ru_ HO_661001.out)) (by decide) hg);have n3_:=Aside0.mk (Kd.S_after (ok:=(fun k_=>k_≠gb660)) (by(with_reducible repeat(first|apply Kd.S_alloc|apply Kd.S_drewN|apply Kd.S_drew));exact Kd.S_mono HO_15.out (fun _ hk=>⟨hk.2,hk.1⟩)) hg hat);have n4_:=Aside0.mk (blk_grown (g:=gb637) (o:= .cells #[.int .i64 a0_0,.slice A0_1 l0_1.length c0_1] 75 (0,0)) (bk_ BK637.out) hg (Kd.R_ne HO_661001.out BK637.out (by decide)));have n5_:=Aside0.mk (blk_grown (g:=gb660) (o:= .cells #[.int .i64 (wrap64 ((wrap64 (x2_4+1))+(wrap64 (rd t638 x16_4)))),u661001] 37 (0,0)) (bk_ BK660.out) hg (Kd.R_ne HO_661001.out BK660.out (by decide)));have n6_:=Aside0.mk (hb);have n7_:=Aside0.mk (ho);clear HO_8;clear HO_11;clear HO_13;clear HO_15;clear BK637;clear BK660;clear HB;clear HO_661001;have HO_8:=n0_;have HO_11:=n1_;have HO_13:=n2_;have HO_15:=n3_;have BK637:=n4_;have BK660:=n5_;have HB:=n6_;have HO666:=n7_;clear n0_ n1_ n2_ n3_ n4_ n5_ n6_ n7_;clear ho hb hg hat;obtain⟨Ao64,co64,eo64⟩:=Kd.R_slice HO666.out;subst eo64;have hcz65_0:w63.cell? ⟨gb660,0,none⟩=some (.int .i64 (wrap64 ((wrap64 (x2_4+1))+(wrap64 (rd t638 x16_4))))):=(blk_cell BK660.out 0).trans rfl;have hcz65_1:w63.cell? ⟨gb660,1,none⟩=some (u661001):=(blk_cell BK660.out 1).trans rfl;have hfz65_0:=blk_frozen BK660.out 0;have hfz65_1:=blk_frozen BK660.out 1))
                  go_roundg k6
                  case measure=>have:=HJ4.out;have:=HJ14.out;have:=HJ25.out;have:=HK4.out;have:=HJ33.out;have:=HK6.out;omega
                  case rel=>exact⟨(wrap64 ((wrap64 (x18_6+1))+(wrap64 (rd x13_4 x19_6)))),(IntKind.u64.wrap (x19_6+1)),(y664),(.slice Ao64 y664.length co64),rs_,rs_,H',⟨by have:=HJ4.out;have:=HJ14.out;have:=HJ25.out;have:=HK4.out;have:=HJ33.out;have:=HK6.out;omega⟩,⟨by(with_reducible repeat(first|apply Kd.rA_|apply Kd.rN_|apply Kd.rD_));exact Kd.R_mono (Kd.R_far (p:=⟨gb660,1,none⟩) (Kd.R_types HO_8.out BK660.out (by decide)) (fun _ hk=>hk.2) (.slice Ao64 y664.length co64)) (fun _ hk=>⟨hk.1.1,hk.1.2⟩)⟩,⟨by(with_reducible repeat(first|apply Kd.rA_|apply Kd.rN_|apply Kd.rD_));exact Kd.R_mono (Kd.R_far (p:=⟨gb660,1,none⟩) (Kd.R_types HO_11.out BK660.out (by decide)) (fun _ hk=>hk.2) (.slice Ao64 y664.length co64)) (fun _ hk=>⟨hk.1.1,hk.1.2⟩)⟩,⟨by(with_reducible repeat(first|apply Kd.Q_alloc|apply Kd.Q_drewN|apply Kd.Q_drew));exact Kd.Q_mono (Kd.Q_far (p:=⟨gb660,1,none⟩) (Kd.Q_types HO_13.out BK660.out (by decide)) (fun _ hk=>hk.2) (.slice Ao64 y664.length co64)) (fun _ hk=>⟨hk.1.1,hk.1.2⟩)⟩,⟨by(with_reducible repeat(first|apply Kd.S_alloc|apply Kd.S_drewN|apply Kd.S_drew));exact Kd.S_mono (Kd.S_far (p:=⟨gb660,1,none⟩) (Kd.S_mono HO_15.out (fun k_ hk=>(⟨hk,hk.1⟩:_∧k_≠gb660))) (fun _ hk=>hk.2) (.slice Ao64 y664.length co64)) (fun _ hk=>⟨hk.1.2,hk.1.1⟩)⟩,⟨by(with_reducible repeat(first|apply Kd.rA_|apply Kd.rN_|apply Kd.rD_));exact Kd.R_mono (Kd.R_far (p:=⟨gb660,1,none⟩) (Kd.R_types HO666.out BK660.out (by decide)) (fun _ hk=>hk.2) (.slice Ao64 y664.length co64)) (fun _ hk=>trivial)⟩,⟨by(with_reducible repeat(first|refine blk_drewN ?_ _|refine blk_drew ?_|refine blk_alloc ?_ _));refine blk_far ?_ NB637_660.out _;(with_reducible repeat(first|refine blk_drewN ?_ _|refine blk_drew ?_|refine blk_alloc ?_ _));exact BK637.out⟩,⟨by(with_reducible repeat(first|refine blk_drewN ?_ _|refine blk_drew ?_|refine blk_alloc ?_ _));refine blk_put (cs:= #[.int .i64 (wrap64 ((wrap64 (x2_4+1))+(wrap64 (rd t638 x16_4)))),u661001]) ?_ 1 _ rfl;(with_reducible repeat(first|refine blk_drewN ?_ _|refine blk_drew ?_|refine blk_alloc ?_ _));exact BK660.out⟩,⟨bs_⟩⟩
end Go.Proofs.Ytooeclfeallkkaa.P
end
