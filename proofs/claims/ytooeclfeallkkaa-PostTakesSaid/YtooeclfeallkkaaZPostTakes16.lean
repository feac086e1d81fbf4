/- Words and proofs that PostTakes leans on; put together by wip/tools/shake.py. -/
import Derived.Test.YtooeclfeallkkaaZPostTakes7
import Derived.Test.YtooeclfeallkkaaZPostTakes13
import Derived.Test.YtooeclfeallkkaaZPostTakes15
section
namespace Go.Proofs.Ytooeclfeallkkaa.P
open Go.RowKit Go.Proofs.YtooeclfeallkkaaW.PrintWords Go.Proofs.YtooeclfeallkkaaW.PrintLast Go.Proofs.YtooeclfeallkkaaW.PrintMore
attribute [local go_sem] max2_int min2_int max_two min_two max_three min_three max_four min_four
set_option linter.unusedVariables false
set_option linter.unusedSimpArgs false
def dragnetref13_Same.l0:Nat->List (S37)->List (S37)->Int->Option (Bool)
 |0,_,_,_=>none
 |k+1,x0,x1,x5=>if x5 < (x0.length:Int)then(if 0<=x5 then(if x5 < (x1.length:Int)then((dragnetref13_SamePost.f k ((rd_T37 x0 x5).f0) ((rd_T37 x0 x5).f1) ((rd_T37 x1 x5).f0) ((rd_T37 x1 x5).f1)).bind fun t361=>(if t361=true then(dragnetref13_Same.l0 k x0 x1 (wrap64 (x5+1)))else(some false)))else(none))else(none))else(some true)
def dragnetref13_Same.f (k:Nat) (l0:List (S37)) (l1:List (S37)):Option (Bool):=if(l0.length:Int)=(l1.length:Int)then(dragnetref13_Same.l0 k l0 l1 0)else(some false)
theorem dragnetref13_Same.mono_l:∀ k,(∀ y0 y1 y2,LeO (dragnetref13_Same.l0 k y0 y1 y2) (dragnetref13_Same.l0 (k+1) y0 y1 y2))
 |0=>fun _ _ _ r h=>by simp[dragnetref13_Same.l0]at h
 |k+1=>by
  have ih0:=dragnetref13_Same.mono_l k
  .intro y0 y1 y2
   unfold dragnetref13_Same.l0
   repeat' first
   |(with_reducible exact ih0 _ _ _)
   |(with_reducible exact dragnetref13_SamePost.mono _ _ _ _ _)
   |(with_reducible exact LeO.refl _)
   |(with_reducible exact LeO.none _)
   |(with_reducible refine LeO.ite ?_ ?_)
   |(with_reducible refine LeO.bind ?_ (fun _=>?_))
theorem dragnetref13_Same.mono:∀ a0 a1 k,LeO (dragnetref13_Same.f k a0 a1) (dragnetref13_Same.f (k+1) a0 a1):=by
 intro a0 a1 k
 have ih0:=dragnetref13_Same.mono_l k
 unfold dragnetref13_Same.f
 repeat' first
   |(with_reducible exact ih0 _ _ _)
   |(with_reducible exact dragnetref13_SamePost.mono _ _ _ _ _)
   |(with_reducible exact LeO.refl _)
   |(with_reducible exact LeO.none _)
   |(with_reducible refine LeO.ite ?_ ?_)
   |(with_reducible refine LeO.bind ?_ (fun _=>?_))
def dragnetref13_Same.T6:Bool×List (List Nat×List Nat):=(true,[([],[]),([],[]),([0,1],[0,1]),([2],[2]),([],[]),([],[]),([4,5],[4,5]),([6],[6]),([3,7],[3,7]),([8],[8])])
def dragnetref13_Same.B6:List Nat:=[0,0,3,7,0,0,48,112,255,511]
theorem dragnetref13_Same.tab6:rtab .any (opsOf Try.f15 6)=dragnetref13_Same.T6:=by kernel_rfl
theorem dragnetref13_Same.bits6:waitsOk dragnetref13_Same.T6.2 dragnetref13_Same.B6=true:=by kernel_rfl
set_option maxHeartbeats 8000000 in
set_option maxRecDepth 100000 in
theorem dragnetref13_Same.calls (k:Nat) (A0:Option Addr) (c0:Nat) (l0:List (S37)) (A1:Option Addr) (c1:Nat) (l1:List (S37)) (r:Bool) (w:World) (hr0:Kd.C k37 w A0 l0.length l0) (hc0:l0.length<=c0) (hr1:Kd.C k37 w A1 l1.length l1) (hc1:l1.length<=c1) (h:dragnetref13_Same.f k l0 l1=some r):
  Calls Try.prog 15 #[.slice A0 l0.length c0,.slice A1 l1.length c1] w fun e w'=>e= .returned (.bool r)∧Below w.heap.size w w':=by
 have hu37:=Try.underlying37
 have HR0:=Aside0.mk hr0
 have HC0:=Aside0.mk hc0
 clear hr0 hc0
 have HR1:=Aside0.mk hr1
 have HC1:=Aside0.mk hc1
 clear hr1 hc1
 have HB:=Aside0.mk (Below.refl w.heap.size w)
 have H:(if(l0.length:Int)=(l1.length:Int)then(dragnetref13_Same.l0 k l0 l1 0)else(some false))=some r:=h
 clear h
 by_cases c3:(l0.length:Int)=(l1.length:Int)
 rotate_left
 .rw[if_neg c3]at H
  have c3b0:=beq_eq_false_iff_ne.mpr c3
  have c3b1:=bne_iff_ne.mpr c3
  have c3b2:(l0.length==l1.length)=false:=by first|simpa using c3|(simp at c3 ⊢;omega)
  obtain rfl:=Option.some.inj H
  go_enter Try.func15,Try.ntmps15
  go_wp2
  go_ret
  exact⟨rf_,bw_⟩
 rw[if_pos c3]at H
 have c3b0:=beq_iff_eq.mpr c3
 have c3b1:=bne_eq_false_iff_eq.mpr c3
 have c3b2:(l0.length==l1.length)=true:=by first|simpa using c3|(simp at c3 ⊢;omega)
 clear c3
 have H':=Aside0.mk H
 clear H
 go_enter Try.func15,Try.ntmps15
 go_wp2
 go_loopg [5] k (fun kq v5 w'=>∃ (x5_1:Int),v5= .int .i64 x5_1∧Aside0 (dragnetref13_Same.l0 kq l0 l1 x5_1=some r)∧Aside0 (kq<=k)∧Aside0 (Below w.heap.size w w'))
 case atStart=>exact⟨(0),rs_,H',⟨Nat.le_refl _⟩,⟨bw_⟩⟩
 case round=>
  clear H'
  clear c3b0 c3b1 c3b2
  obtain⟨x5_1,rfl,HA,HK1,HB⟩:=hrel
  cases gk with
  |zero=>exact absurd HA.out (by simp[dragnetref13_Same.l0])
  |succ k1=>
   have H:=HA.out
   clear HA
   simp only[dragnetref13_Same.l0]at H
   by_cases c4:x5_1 < (l0.length:Int)
   rotate_left
   .rw[if_neg c4]at H
    have c4b0:=decide_eq_false c4
    clear c4
    obtain rfl:=Option.some.inj H
    go_wp2
    go_ret
    exact⟨rf_,bw_⟩
   rw[if_pos c4]at H
   have c4b0:=decide_eq_true c4
   clear c4
   by_cases c5:0<=x5_1
   rotate_left
   .rw[if_neg c5]at H
    cases H
   rw[if_pos c5]at H
   have c5b0:=decide_eq_true c5
   clear c5
   by_cases c6:x5_1 < (l1.length:Int)
   rotate_left
   .rw[if_neg c6]at H
    cases H
   rw[if_pos c6]at H
   have c6b0:=decide_eq_true c6
   clear c6
   replace H:=Option.bind_eq_some_iff.mp H
   obtain⟨t361,A70,H⟩:=H
   try dsimp only at H
   have A7:=Aside0.mk A70
   clear A70
   by_cases c8:t361=true
   rotate_left
   .replace c8:=Bool.eq_false_iff.mpr c8
    subst c8
    rw[if_neg (show ¬ (false=true) by decide)]at H
    obtain rfl:=Option.some.inj H
    try go_wp2
    have n0_:=Aside0.mk (pb1_ HB.out)
    clear HB
    have HB:=n0_
    clear n0_
    have p359:0<=(x5_1:Int):=od_
    have q359:x5_1 < (l0.length:Int):=od_
    obtain⟨ad359,A359_1,c359_1,e359,hx359_0,hx359_1,hl359_1,hi359_1⟩:=at_T37 HR0.out x5_1 p359 q359
    have hw359_1:=hx359_1
    have hw359_0:=hx359_0
    cases e359
    replace hx359_0:=cx_ HB.out rfl hx359_0
    replace hx359_1:=cx_ HB.out rfl hx359_1
    have HR359_1:=Aside0.mk hi359_1
    have HC359_1:=Aside0.mk hl359_1
    clear hi359_1 hl359_1
    replace p359:=eq_true p359
    replace q359:=eq_true q359
    have p360:0<=(x5_1:Int):=od_
    have q360:x5_1 < (l1.length:Int):=od_
    obtain⟨ad360,A360_1,c360_1,e360,hx360_0,hx360_1,hl360_1,hi360_1⟩:=at_T37 HR1.out x5_1 p360 q360
    have hw360_1:=hx360_1
    have hw360_0:=hx360_0
    cases e360
    replace hx360_0:=cx_ HB.out rfl hx360_0
    replace hx360_1:=cx_ HB.out rfl hx360_1
    have HR360_1:=Aside0.mk hi360_1
    have HC360_1:=Aside0.mk hl360_1
    clear hi360_1 hl360_1
    replace p360:=eq_true p360
    replace q360:=eq_true q360
    refine start_ (n:=10) (S:=fun w'=>w'.cell? (ad359.add ((x5_1).toNat*2))=some (.int .i64 ((rd_T37 l0 x5_1).f0))∧w'.cell? ⟨(ad359.add ((x5_1).toNat*2)).block,(ad359.add ((x5_1).toNat*2)).off+1,none⟩=some (.slice A359_1 ((rd_T37 l0 x5_1).f1).length c359_1)∧w'.cell? (ad360.add ((x5_1).toNat*2))=some (.int .i64 ((rd_T37 l1 x5_1).f0))∧w'.cell? ⟨(ad360.add ((x5_1).toNat*2)).block,(ad360.add ((x5_1).toNat*2)).off+1,none⟩=some (.slice A360_1 ((rd_T37 l1 x5_1).f1).length c360_1)) (ds:=[]) #[false,false,false,false,false,false,false,false,false,false] (by kernel_rfl) rfl rfl ⟨(cx_ HB.out rfl hw359_0),(cx_ HB.out rfl hw359_1),(cx_ HB.out rfl hw360_0),(cx_ HB.out rfl hw360_1)⟩ (fun hHeld=>?_);refine with_tabW dragnetref13_Same.tab6 dragnetref13_Same.bits6 (fun HT_ HW_=>?_)
    generalize wr.drew=w11 at HB HR359_1 HR360_1 hx359_0 hx359_1 hx360_0 hx360_1 hHeld ⊢
    refine pv_ (i:=0) (N:=some 17) HT_ ?_
    refine pv_ (i:=1) (N:=some 18) HT_ ?_
    refine pv_ (i:=2) (N:=some 19) HT_ ?_
    refine pv_ (i:=4) (N:=some 21) HT_ ?_
    refine pv_ (i:=5) (N:=some 22) HT_ ?_
    refine pv_ (i:=6) (N:=some 23) HT_ ?_
    refine tv_ (i:=3) (N:=some 20) HT_ HW_ hHeld ?_
    refine tv_ (i:=7) (N:=some 24) HT_ HW_ hHeld ?_
    refine one_ (i:=8) (N:=some 25) #[tT,tT,tT,tT,tT,tT,tT,tT,tT,fF] rfl rfl (one_of HT_.out (by kernel_rfl)) (by decide) (fun K hK=>?_)
    refine goes_ Try.func21 (by kernel_rfl) rfl #[.agg #[.int .i64 ((rd_T37 l0 x5_1).f0),.slice A359_1 ((rd_T37 l0 x5_1).f1).length c359_1],.agg #[.int .i64 ((rd_T37 l1 x5_1).f0),.slice A360_1 ((rd_T37 l1 x5_1).f1).length c360_1]] (by rfl) rfl rfl am_ ?_
    with_reducible refine(dragnetref13_SamePost.calls k1 ((rd_T37 l0 x5_1).f0) _ _ ((rd_T37 l0 x5_1).f1) ((rd_T37 l1 x5_1).f0) _ _ ((rd_T37 l1 x5_1).f1) false _ ?side1 ?side2 ?side3 ?side4 A7.out).mono ?_
    (case side1=>exact Kd.cu_ (Kd.C_below HR359_1.out HB.out))
    (case side2=>exact HC359_1.out)
    (case side3=>exact Kd.cu_ (Kd.C_below HR360_1.out HB.out))
    (case side4=>exact HC360_1.out)
    rintro e w12 ⟨rfl,hb⟩
    refine⟨_,rfl,?_⟩
    have n0_:=Aside0.mk (below_step bw_ hb)
    clear HB
    have HB:=n0_
    clear n0_
    clear hb
    refine hK.out _ _ ⟨(cx_ HB.out rfl hw359_0),(cx_ HB.out rfl hw359_1),(cx_ HB.out rfl hw360_0),(cx_ HB.out rfl hw360_1)⟩ (fun hHeld=>?_)
    clear hK K
    refine norm_ (a':=?_) ?_ ?_
    rotate_left
    .show Act.put _ (some 25) _=_
     simp only[Act.put,List.setIfInBounds_toArray,List.set_cons_zero,List.set_cons_succ,i64_w,i32_w]
     rfl
    refine pv_ (i:=9) (N:=some 26) HT_ ?_
    refine done_ (done_of HT_.out (by kernel_rfl)) ?_
    try go_wp2
    go_ret
    exact⟨rf_,bw_⟩
   subst c8
   rw[if_pos rfl]at H
   have H':=Aside0.mk H
   clear H
   try go_wp2
   have n0_:=Aside0.mk (pb1_ HB.out)
   clear HB
   have HB:=n0_
   clear n0_
   have p359:0<=(x5_1:Int):=od_
   have q359:x5_1 < (l0.length:Int):=od_
   obtain⟨ad359,A359_1,c359_1,e359,hx359_0,hx359_1,hl359_1,hi359_1⟩:=at_T37 HR0.out x5_1 p359 q359
   have hw359_1:=hx359_1
   have hw359_0:=hx359_0
   cases e359
   replace hx359_0:=cx_ HB.out rfl hx359_0
   replace hx359_1:=cx_ HB.out rfl hx359_1
   have HR359_1:=Aside0.mk hi359_1
   have HC359_1:=Aside0.mk hl359_1
   clear hi359_1 hl359_1
   replace p359:=eq_true p359
   replace q359:=eq_true q359
   have p360:0<=(x5_1:Int):=od_
   have q360:x5_1 < (l1.length:Int):=od_
   obtain⟨ad360,A360_1,c360_1,e360,hx360_0,hx360_1,hl360_1,hi360_1⟩:=at_T37 HR1.out x5_1 p360 q360
   have hw360_1:=hx360_1
   have hw360_0:=hx360_0
   cases e360
   replace hx360_0:=cx_ HB.out rfl hx360_0
   replace hx360_1:=cx_ HB.out rfl hx360_1
   have HR360_1:=Aside0.mk hi360_1
   have HC360_1:=Aside0.mk hl360_1
   clear hi360_1 hl360_1
   replace p360:=eq_true p360
   replace q360:=eq_true q360
   refine start_ (n:=10) (S:=fun w'=>w'.cell? (ad359.add ((x5_1).toNat*2))=some (.int .i64 ((rd_T37 l0 x5_1).f0))∧w'.cell? ⟨(ad359.add ((x5_1).toNat*2)).block,(ad359.add ((x5_1).toNat*2)).off+1,none⟩=some (.slice A359_1 ((rd_T37 l0 x5_1).f1).length c359_1)∧w'.cell? (ad360.add ((x5_1).toNat*2))=some (.int .i64 ((rd_T37 l1 x5_1).f0))∧w'.cell? ⟨(ad360.add ((x5_1).toNat*2)).block,(ad360.add ((x5_1).toNat*2)).off+1,none⟩=some (.slice A360_1 ((rd_T37 l1 x5_1).f1).length c360_1)) (ds:=[]) #[false,false,false,false,false,false,false,false,false,false] (by kernel_rfl) rfl rfl ⟨(cx_ HB.out rfl hw359_0),(cx_ HB.out rfl hw359_1),(cx_ HB.out rfl hw360_0),(cx_ HB.out rfl hw360_1)⟩ (fun hHeld=>?_);refine with_tabW dragnetref13_Same.tab6 dragnetref13_Same.bits6 (fun HT_ HW_=>?_)
   generalize wr.drew=w9 at HB HR359_1 HR360_1 hx359_0 hx359_1 hx360_0 hx360_1 hHeld ⊢
   refine pv_ (i:=0) (N:=some 17) HT_ ?_
   refine pv_ (i:=1) (N:=some 18) HT_ ?_
   refine pv_ (i:=2) (N:=some 19) HT_ ?_
   refine pv_ (i:=4) (N:=some 21) HT_ ?_
   refine pv_ (i:=5) (N:=some 22) HT_ ?_
   refine pv_ (i:=6) (N:=some 23) HT_ ?_
   refine tv_ (i:=3) (N:=some 20) HT_ HW_ hHeld ?_
   refine tv_ (i:=7) (N:=some 24) HT_ HW_ hHeld ?_
   refine one_ (i:=8) (N:=some 25) #[tT,tT,tT,tT,tT,tT,tT,tT,tT,fF] rfl rfl (one_of HT_.out (by kernel_rfl)) (by decide) (fun K hK=>?_)
   refine goes_ Try.func21 (by kernel_rfl) rfl #[.agg #[.int .i64 ((rd_T37 l0 x5_1).f0),.slice A359_1 ((rd_T37 l0 x5_1).f1).length c359_1],.agg #[.int .i64 ((rd_T37 l1 x5_1).f0),.slice A360_1 ((rd_T37 l1 x5_1).f1).length c360_1]] (by rfl) rfl rfl am_ ?_
   with_reducible refine(dragnetref13_SamePost.calls k1 ((rd_T37 l0 x5_1).f0) _ _ ((rd_T37 l0 x5_1).f1) ((rd_T37 l1 x5_1).f0) _ _ ((rd_T37 l1 x5_1).f1) true _ ?side1 ?side2 ?side3 ?side4 A7.out).mono ?_
   (case side1=>exact Kd.cu_ (Kd.C_below HR359_1.out HB.out))
   (case side2=>exact HC359_1.out)
   (case side3=>exact Kd.cu_ (Kd.C_below HR360_1.out HB.out))
   (case side4=>exact HC360_1.out)
   rintro e w10 ⟨rfl,hb⟩
   refine⟨_,rfl,?_⟩
   have n0_:=Aside0.mk (below_step bw_ hb)
   clear HB
   have HB:=n0_
   clear n0_
   clear hb
   refine hK.out _ _ ⟨(cx_ HB.out rfl hw359_0),(cx_ HB.out rfl hw359_1),(cx_ HB.out rfl hw360_0),(cx_ HB.out rfl hw360_1)⟩ (fun hHeld=>?_)
   clear hK K
   refine norm_ (a':=?_) ?_ ?_
   rotate_left
   .show Act.put _ (some 25) _=_
    simp only[Act.put,List.setIfInBounds_toArray,List.set_cons_zero,List.set_cons_succ,i64_w,i32_w]
    rfl
   refine pv_ (i:=9) (N:=some 26) HT_ ?_
   refine done_ (done_of HT_.out (by kernel_rfl)) ?_
   try go_wp2
   go_roundg k1
   case measure=>have:=HK1.out;omega
   case rel=>exact⟨(wrap64 (x5_1+1)),rs_,H',⟨by have:=HK1.out;omega⟩,⟨bw_⟩⟩
def dragnetref13_rises.l0:Nat->List Int->Int->Int->Option (Bool)
 |0,_,_,_=>none
 |k+1,x0,x1,x5=>if x5 < (x0.length:Int)then(if 0<=x5 then(if(rd x0 x5) < 0 then(some false)else(if(rd x0 x5) > x1 then(some false)else(if x5 > 0 then(if 0<=(wrap64 (x5 - 1))then(if(wrap64 (x5 - 1)) < (x0.length:Int)then(if(rd x0 (wrap64 (x5 - 1)))≥(rd x0 x5)then(some false)else(dragnetref13_rises.l0 k x0 x1 (wrap64 (x5+1))))else(none))else(none))else(dragnetref13_rises.l0 k x0 x1 (wrap64 (x5+1))))))else(none))else(some true)
def dragnetref13_rises.f (k:Nat) (l0:List Int) (a1:Int):Option (Bool):=dragnetref13_rises.l0 k l0 a1 0
theorem dragnetref13_rises.mono_l:∀ k,(∀ y0 y1 y2,LeO (dragnetref13_rises.l0 k y0 y1 y2) (dragnetref13_rises.l0 (k+1) y0 y1 y2))
 |0=>fun _ _ _ r h=>by simp[dragnetref13_rises.l0]at h
 |k+1=>by
  have ih0:=dragnetref13_rises.mono_l k
  .intro y0 y1 y2
   unfold dragnetref13_rises.l0
   repeat' first
   |(with_reducible exact ih0 _ _ _)
   |(with_reducible exact LeO.refl _)
   |(with_reducible exact LeO.none _)
   |(with_reducible refine LeO.ite ?_ ?_)
   |(with_reducible refine LeO.bind ?_ (fun _=>?_))
theorem dragnetref13_rises.mono:∀ a0 a1 k,LeO (dragnetref13_rises.f k a0 a1) (dragnetref13_rises.f (k+1) a0 a1):=by
 intro a0 a1 k
 have ih0:=dragnetref13_rises.mono_l k
 unfold dragnetref13_rises.f
 repeat' first
   |(with_reducible exact ih0 _ _ _)
   |(with_reducible exact LeO.refl _)
   |(with_reducible exact LeO.none _)
   |(with_reducible refine LeO.ite ?_ ?_)
   |(with_reducible refine LeO.bind ?_ (fun _=>?_))
set_option maxHeartbeats 8000000 in
set_option maxRecDepth 100000 in
theorem dragnetref13_rises.calls (k:Nat) (A0:Option Addr) (c0:Nat) (l0:List Int) (a1:Int) (r:Bool) (w:World) (hr0:Kd.C (Kd.int .i64) w A0 l0.length l0) (hc0:l0.length<=c0) (h:dragnetref13_rises.f k l0 a1=some r):
  Calls Try.prog 29 #[.slice A0 l0.length c0,.int .i64 a1] w fun e w'=>e= .returned (.bool r)∧Drawn0 w w':=by
 have HR0:=Aside0.mk hr0
 have HC0:=Aside0.mk hc0
 clear hr0 hc0
 have H:(dragnetref13_rises.l0 k l0 a1 0)=some r:=h
 clear h
 have H':=Aside0.mk H
 clear H
 go_enter Try.func29,Try.ntmps29
 go_wp2
 go_loopg [5] k (fun kq v5 w'=>∃ (x5_1:Int),v5= .int .i64 x5_1∧Aside0 (dragnetref13_rises.l0 kq l0 a1 x5_1=some r)∧Aside0 (kq<=k)∧Drawn0 w w')
 case atStart=>exact⟨(0),rs_,H',⟨Nat.le_refl _⟩,by repeat(first|exact Drawn0.refl _|apply Drawn0.step)⟩
 case round=>
  clear H'
  obtain⟨x5_1,rfl,HA,HK1,⟨m1,rfl⟩⟩:=hrel
  cases gk with
  |zero=>exact absurd HA.out (by simp[dragnetref13_rises.l0])
  |succ k1=>
   have H:=HA.out
   clear HA
   simp only[dragnetref13_rises.l0]at H
   by_cases c3:x5_1 < (l0.length:Int)
   rotate_left
   .rw[if_neg c3]at H
    have c3b0:=decide_eq_false c3
    clear c3
    obtain rfl:=Option.some.inj H
    go_wp2
    go_ret
    exact⟨by first|rfl|(simp;done)|(simp[*];done),by repeat(first|exact Drawn0.refl _|apply Drawn0.step)⟩
   rw[if_pos c3]at H
   have c3b0:=decide_eq_true c3
   clear c3
   by_cases c4:0<=x5_1
   rotate_left
   .rw[if_neg c4]at H
    cases H
   rw[if_pos c4]at H
   have c4b0:=decide_eq_true c4
   clear c4
   by_cases c5:(rd l0 x5_1) < 0
   .rw[if_pos c5]at H
    have c5b0:=decide_eq_true c5
    clear c5
    obtain rfl:=Option.some.inj H
    have p362:0<=(x5_1:Int):=od_
    have q362:x5_1 < (l0.length:Int):=od_
    obtain⟨ad362,e362,hx362_0⟩:=Kd.at_int HR0.out x5_1 p362 q362
    cases e362
    replace p362:=eq_true p362
    replace q362:=eq_true q362
    go_wp2
    repeat(go_quiet (fail);try go_wp2)
    go_ret
    exact⟨by first|rfl|(simp;done)|(simp[*];done),by repeat(first|exact Drawn0.refl _|apply Drawn0.step)⟩
   .rw[if_neg c5]at H
    have c5b0:=decide_eq_false c5
    clear c5
    by_cases c6:(rd l0 x5_1) > a1
    .rw[if_pos c6]at H
     have c6b0:=decide_eq_true c6
     clear c6
     obtain rfl:=Option.some.inj H
     have p362:0<=(x5_1:Int):=od_
     have q362:x5_1 < (l0.length:Int):=od_
     obtain⟨ad362,e362,hx362_0⟩:=Kd.at_int HR0.out x5_1 p362 q362
     cases e362
     replace p362:=eq_true p362
     replace q362:=eq_true q362
     have p363:0<=(x5_1:Int):=od_
     have q363:x5_1 < (l0.length:Int):=od_
     obtain⟨ad363,e363,hx363_0⟩:=Kd.at_int HR0.out x5_1 p363 q363
     obtain rfl:ad362=ad363:=(by injection e363)
     replace p363:=eq_true p363
     replace q363:=eq_true q363
     go_wp2
     repeat(go_quiet (fail);try go_wp2)
     go_ret
     exact⟨by first|rfl|(simp;done)|(simp[*];done),by repeat(first|exact Drawn0.refl _|apply Drawn0.step)⟩
    .rw[if_neg c6]at H
     have c6b0:=decide_eq_false c6
     clear c6
     by_cases c7:x5_1 > 0
     rotate_left
     .rw[if_neg c7]at H
      have c7b0:=decide_eq_false c7
      clear c7
      have H':=Aside0.mk H
      clear H
      have p362:0<=(x5_1:Int):=od_
      have q362:x5_1 < (l0.length:Int):=od_
      obtain⟨ad362,e362,hx362_0⟩:=Kd.at_int HR0.out x5_1 p362 q362
      cases e362
      replace p362:=eq_true p362
      replace q362:=eq_true q362
      have p363:0<=(x5_1:Int):=od_
      have q363:x5_1 < (l0.length:Int):=od_
      obtain⟨ad363,e363,hx363_0⟩:=Kd.at_int HR0.out x5_1 p363 q363
      obtain rfl:ad362=ad363:=(by injection e363)
      replace p363:=eq_true p363
      replace q363:=eq_true q363
      go_wp2
      repeat(go_quiet (fail);try go_wp2)
      go_roundg k1
      case measure=>have:=HK1.out;omega
      case rel=>exact⟨(wrap64 (x5_1+1)),rs_,H',⟨by have:=HK1.out;omega⟩,by repeat(first|exact Drawn0.refl _|apply Drawn0.step)⟩
     rw[if_pos c7]at H
     have c7b0:=decide_eq_true c7
     clear c7
     obtain⟨ji8,hji8⟩:∃ j_:Int,(wrap64 (x5_1 - 1))=j_:=⟨_,rfl⟩
     replace H:(if 0<=(ji8)then(if(ji8) < (l0.length:Int)then(if(rd l0 (ji8))≥(rd l0 x5_1)then(some false)else(dragnetref13_rises.l0 k1 l0 a1 (wrap64 (x5_1+1))))else(none))else(none))=some r:=hj_ hji8 H
     have hji8w:(IntKind.i64.wrap (x5_1 - 1))=ji8:=(i64_w _).trans hji8
     by_cases c9:0<=(ji8)
     rotate_left
     .rw[if_neg c9]at H
      cases H
     rw[if_pos c9]at H
     have c9b0:=decide_eq_true c9
     clear c9
     by_cases c10:(ji8) < (l0.length:Int)
     rotate_left
     .rw[if_neg c10]at H
      cases H
     rw[if_pos c10]at H
     have c10b0:=decide_eq_true c10
     clear c10
     by_cases c11:(rd l0 (ji8))≥(rd l0 x5_1)
     .rw[if_pos c11]at H
      have c11b0:=decide_eq_true c11
      clear c11
      obtain rfl:=Option.some.inj H
      have p362:0<=(x5_1:Int):=od_
      have q362:x5_1 < (l0.length:Int):=od_
      obtain⟨ad362,e362,hx362_0⟩:=Kd.at_int HR0.out x5_1 p362 q362
      cases e362
      replace p362:=eq_true p362
      replace q362:=eq_true q362
      have p363:0<=(x5_1:Int):=od_
      have q363:x5_1 < (l0.length:Int):=od_
      obtain⟨ad363,e363,hx363_0⟩:=Kd.at_int HR0.out x5_1 p363 q363
      obtain rfl:ad362=ad363:=(by injection e363)
      replace p363:=eq_true p363
      replace q363:=eq_true q363
      have p364:0<=((ji8):Int):=od_
      have q364:(ji8) < (l0.length:Int):=od_
      obtain⟨ad364,e364,hx364_0⟩:=Kd.at_int HR0.out (ji8) p364 q364
      obtain rfl:ad362=ad364:=(by injection e364)
      replace p364:=eq_true p364
      replace q364:=eq_true q364
      have p365:0<=(x5_1:Int):=od_
      have q365:x5_1 < (l0.length:Int):=od_
      obtain⟨ad365,e365,hx365_0⟩:=Kd.at_int HR0.out x5_1 p365 q365
      obtain rfl:ad362=ad365:=(by injection e365)
      replace p365:=eq_true p365
      replace q365:=eq_true q365
      go_wp2
      repeat(go_quiet (fail);try go_wp2)
      go_ret
      exact⟨by first|rfl|(simp;done)|(simp only[<- hji8]<;>(first|rfl|simp))|(simp[*];done),by repeat(first|exact Drawn0.refl _|apply Drawn0.step)⟩
     .rw[if_neg c11]at H
      have c11b0:=decide_eq_false c11
      clear c11
      have H':=Aside0.mk H
      clear H
      have p362:0<=(x5_1:Int):=od_
      have q362:x5_1 < (l0.length:Int):=od_
      obtain⟨ad362,e362,hx362_0⟩:=Kd.at_int HR0.out x5_1 p362 q362
      cases e362
      replace p362:=eq_true p362
      replace q362:=eq_true q362
      have p363:0<=(x5_1:Int):=od_
      have q363:x5_1 < (l0.length:Int):=od_
      obtain⟨ad363,e363,hx363_0⟩:=Kd.at_int HR0.out x5_1 p363 q363
      obtain rfl:ad362=ad363:=(by injection e363)
      replace p363:=eq_true p363
      replace q363:=eq_true q363
      have p364:0<=((ji8):Int):=od_
      have q364:(ji8) < (l0.length:Int):=od_
      obtain⟨ad364,e364,hx364_0⟩:=Kd.at_int HR0.out (ji8) p364 q364
      obtain rfl:ad362=ad364:=(by injection e364)
      replace p364:=eq_true p364
      replace q364:=eq_true q364
      have p365:0<=(x5_1:Int):=od_
      have q365:x5_1 < (l0.length:Int):=od_
      obtain⟨ad365,e365,hx365_0⟩:=Kd.at_int HR0.out x5_1 p365 q365
      obtain rfl:ad362=ad365:=(by injection e365)
      replace p365:=eq_true p365
      replace q365:=eq_true q365
      go_wp2
      repeat(go_quiet (fail);try go_wp2)
      subst hji8
      go_roundg k1
      case measure=>have:=HK1.out;omega
      case rel=>exact⟨(wrap64 (x5_1+1)),rs_,H',⟨by have:=HK1.out;omega⟩,by repeat(first|exact Drawn0.refl _|apply Drawn0.step)⟩
def dragnetref13_Docs.l0:Nat->List (S37)->List Int->Int->Option (List Int)
 |0,_,_,_=>none
 |k+1,x0,x3,x4=>if x4 < (x0.length:Int)then(if 0<=x4 then(if x3.length < 17592186044416 then(dragnetref13_Docs.l0 k x0 (x3++[(rd_T37 x0 x4).f0]) (wrap64 (x4+1)))else(none))else(none))else(some x3)
def dragnetref13_Docs.f (k:Nat) (l0:List (S37)):Option (List Int):=dragnetref13_Docs.l0 k l0 ([]:List Int) 0
theorem dragnetref13_Docs.mono_l:∀ k,(∀ y0 y1 y2,LeO (dragnetref13_Docs.l0 k y0 y1 y2) (dragnetref13_Docs.l0 (k+1) y0 y1 y2))
 |0=>fun _ _ _ r h=>by simp[dragnetref13_Docs.l0]at h
 |k+1=>by
  have ih0:=dragnetref13_Docs.mono_l k
  .intro y0 y1 y2
   unfold dragnetref13_Docs.l0
   repeat' first
   |(with_reducible exact ih0 _ _ _)
   |(with_reducible exact LeO.refl _)
   |(with_reducible exact LeO.none _)
   |(with_reducible refine LeO.ite ?_ ?_)
   |(with_reducible refine LeO.bind ?_ (fun _=>?_))
theorem dragnetref13_Docs.mono:∀ a0 k,LeO (dragnetref13_Docs.f k a0) (dragnetref13_Docs.f (k+1) a0):=by
 intro a0 k
 have ih0:=dragnetref13_Docs.mono_l k
 unfold dragnetref13_Docs.f
 repeat' first
   |(with_reducible exact ih0 _ _ _)
   |(with_reducible exact LeO.refl _)
   |(with_reducible exact LeO.none _)
   |(with_reducible refine LeO.ite ?_ ?_)
   |(with_reducible refine LeO.bind ?_ (fun _=>?_))
set_option maxHeartbeats 8000000 in
set_option maxRecDepth 100000 in
theorem dragnetref13_Docs.calls (k:Nat) (A0:Option Addr) (c0:Nat) (l0:List (S37)) (r:List Int) (w:World) (hr0:Kd.C k37 w A0 l0.length l0) (hc0:l0.length<=c0) (h:dragnetref13_Docs.f k l0=some r):
  Calls Try.prog 30 #[.slice A0 l0.length c0] w fun e w'=>∃ v0_:Value,e= .returned (v0_)∧Kd.R (Kd.int .i64) 3 w' w.heap.size (fun _=>True) v0_ r∧Below w.heap.size w w':=by
 have HR0:=Aside0.mk hr0
 have HC0:=Aside0.mk hc0
 clear hr0 hc0
 have HB:=Aside0.mk (Below.refl w.heap.size w)
 have H:(dragnetref13_Docs.l0 k l0 ([]:List Int) 0)=some r:=h
 clear h
 have H':=Aside0.mk H
 clear H
 go_enter Try.func30,Try.ntmps30
 go_wp2
 go_loopg [3,4] k (fun kq v3 v4 w'=>∃ (x3_1:List Int) (x4_1:Int),v4= .int .i64 x4_1∧Aside0 (dragnetref13_Docs.l0 kq l0 x3_1 x4_1=some r)∧Aside0 (kq<=k)∧Aside0 (Kd.R (Kd.int .i64) 3 w' w.heap.size (fun _=>True) v3 x3_1)∧Aside0 (Below w.heap.size w w'))
 case atStart=>exact⟨(([]:List Int)),(0),rs_,H',⟨Nat.le_refl _⟩,⟨ni_⟩,⟨bw_⟩⟩
 case round=>
  clear H'
  obtain⟨x3_1,x4_1,rfl,HA,HK1,HO_3,HB⟩:=hrel
  cases gk with
  |zero=>exact absurd HA.out (by simp[dragnetref13_Docs.l0])
  |succ k1=>
   have H:=HA.out
   clear HA
   simp only[dragnetref13_Docs.l0]at H
   by_cases c2:x4_1 < (l0.length:Int)
   rotate_left
   .rw[if_neg c2]at H
    have c2b0:=decide_eq_false c2
    clear c2
    obtain rfl:=Option.some.inj H
    go_wp2
    go_ret
    exact⟨_,rf_,by(with_reducible repeat(first|apply Kd.rA_|apply Kd.rN_|apply Kd.rD_));exact HO_3.out,bw_⟩
   rw[if_pos c2]at H
   have c2b0:=decide_eq_true c2
   clear c2
   by_cases c3:0<=x4_1
   rotate_left
   .rw[if_neg c3]at H
    cases H
   rw[if_pos c3]at H
   have c3b0:=decide_eq_true c3
   clear c3
   by_cases c4:x3_1.length < 17592186044416
   rotate_left
   .rw[if_neg c4]at H
    cases H
   rw[if_pos c4]at H
   have LMc4:=Aside0.mk c4
   clear c4
   obtain⟨y367,hy367⟩:∃ y_:List Int,y_=(x3_1++[(rd_T37 l0 x4_1).f0]):=⟨_,rfl⟩
   replace H:(dragnetref13_Docs.l0 k1 l0 y367 (wrap64 (x4_1+1)))=some r:=hx_ hy367 H
   have Ny367:=Aside0.mk hy367
   clear hy367
   have H':=Aside0.mk H
   clear H
   have p366:0<=(x4_1:Int):=od_
   have q366:x4_1 < (l0.length:Int):=od_
   obtain⟨ad366,A366_1,c366_1,e366,hx366_0,hx366_1,hl366_1,hi366_1⟩:=at_T37 HR0.out x4_1 p366 q366
   cases e366
   replace hx366_0:=cx_ HB.out rfl hx366_0
   replace hx366_1:=cx_ HB.out rfl hx366_1
   have HR366_1:=Aside0.mk hi366_1
   have HC366_1:=Aside0.mk hl366_1
   clear hi366_1 hl366_1
   replace p366:=eq_true p366
   replace q366:=eq_true q366
   go_wp2_with (first|((with_reducible refine gate_builtin (b:= .append) (xs:= #[.tmp 11,.tmp 17]) rfl ?_);at_builtin;refine Kd.R_append (Kd.int .i64) (w0:=w) w.heap.size rfl (.tmp 11) (.tmp 17) 35 3 (.int .i64 0) 8 rfl Try.underlying35 info3 rfl (by decide) (by omega) u3 x3_1 ((rd_T37 l0 x4_1).f0) [.int .i64 ((rd_T37 l0 x4_1).f0)] (fun _=>True) (fun _=>False) rfl rfl ?aP (fun _ hk=>hk.elim) ?aF ?aO ?aB ?aS ?aL ?_;(case aP=>exact rfl);(case aB=>exact bw_);(case aF=>exact(fun _ _=>trivial));(case aO=>exact(Kd.ru_ HO_3.out));(case aS=>exact(pbS_ bw_));(case aL=>have:=LMc4.out;omega);intro v368 w5 ho hb hg hat;rw[<- Ny367.out]at ho;have n0_:=Aside0.mk (hb);have n1_:=Aside0.mk (ho);clear HB;clear HO_3;have HB:=n0_;have HO369:=n1_;clear n0_ n1_;clear ho hb hg hat))
   go_roundg k1
   case measure=>have:=HK1.out;omega
   case rel=>exact⟨(y367),(wrap64 (x4_1+1)),rs_,H',⟨by have:=HK1.out;omega⟩,⟨Kd.ru_ HO369.out⟩,⟨bw_⟩⟩
def dragnetref13_Formed.l0:Nat->List (S37)->Int->Option (Bool)
 |0,_,_=>none
 |k+1,x0,x3=>if x3 < (x0.length:Int)then(if 0<=x3 then(if(((rd_T37 x0 x3).f1).length:Int)=0 then(some false)else((dragnetref13_rises.f k ((rd_T37 x0 x3).f1) 2147483647).bind fun t372=>(if t372=true then(dragnetref13_Formed.l0 k x0 (wrap64 (x3+1)))else(some false))))else(none))else((dragnetref13_Docs.f k x0).bind fun t373=>((dragnetref13_rises.f k t373 4095).bind fun t376=>(some t376)))
def dragnetref13_Formed.f (k:Nat) (l0:List (S37)):Option (Bool):=dragnetref13_Formed.l0 k l0 0
theorem dragnetref13_Formed.mono_l:∀ k,(∀ y0 y1,LeO (dragnetref13_Formed.l0 k y0 y1) (dragnetref13_Formed.l0 (k+1) y0 y1))
 |0=>fun _ _ r h=>by simp[dragnetref13_Formed.l0]at h
 |k+1=>by
  have ih0:=dragnetref13_Formed.mono_l k
  .intro y0 y1
   unfold dragnetref13_Formed.l0
   repeat' first
   |(with_reducible exact ih0 _ _)
   |(with_reducible exact dragnetref13_Docs.mono _ _)
   |(with_reducible exact dragnetref13_rises.mono _ _ _)
   |(with_reducible exact LeO.refl _)
   |(with_reducible exact LeO.none _)
   |(with_reducible refine LeO.ite ?_ ?_)
   |(with_reducible refine LeO.bind ?_ (fun _=>?_))
theorem dragnetref13_Formed.mono:∀ a0 k,LeO (dragnetref13_Formed.f k a0) (dragnetref13_Formed.f (k+1) a0):=by
 intro a0 k
 have ih0:=dragnetref13_Formed.mono_l k
 unfold dragnetref13_Formed.f
 repeat' first
   |(with_reducible exact ih0 _ _)
   |(with_reducible exact dragnetref13_Docs.mono _ _)
   |(with_reducible exact dragnetref13_rises.mono _ _ _)
   |(with_reducible exact LeO.refl _)
   |(with_reducible exact LeO.none _)
   |(with_reducible refine LeO.ite ?_ ?_)
   |(with_reducible refine LeO.bind ?_ (fun _=>?_))
set_option maxHeartbeats 8000000 in
set_option maxRecDepth 100000 in
theorem dragnetref13_Formed.calls (k:Nat) (A0:Option Addr) (c0:Nat) (l0:List (S37)) (r:Bool) (w:World) (hr0:Kd.C k37 w A0 l0.length l0) (hc0:l0.length<=c0) (h:dragnetref13_Formed.f k l0=some r):
  Calls Try.prog 17 #[.slice A0 l0.length c0] w fun e w'=>e= .returned (.bool r)∧Below w.heap.size w w':=by
 have HR0:=Aside0.mk hr0
 have HC0:=Aside0.mk hc0
 clear hr0 hc0
 have HB:=Aside0.mk (Below.refl w.heap.size w)
 have H:(dragnetref13_Formed.l0 k l0 0)=some r:=h
 clear h
 have H':=Aside0.mk H
 clear H
 go_enter Try.func17,Try.ntmps17
 go_wp2
 go_loopg [3] k (fun kq v3 w'=>∃ (x3_1:Int),v3= .int .i64 x3_1∧Aside0 (dragnetref13_Formed.l0 kq l0 x3_1=some r)∧Aside0 (kq<=k)∧Aside0 (Below w.heap.size w w'))
 case atStart=>exact⟨(0),rs_,H',⟨Nat.le_refl _⟩,⟨bw_⟩⟩
 case round=>
  clear H'
  obtain⟨x3_1,rfl,HA,HK1,HB⟩:=hrel
  cases gk with
  |zero=>exact absurd HA.out (by simp[dragnetref13_Formed.l0])
  |succ k1=>
   have H:=HA.out
   clear HA
   simp only[dragnetref13_Formed.l0]at H
   by_cases c2:x3_1 < (l0.length:Int)
   rotate_left
   .rw[if_neg c2]at H
    have c2b0:=decide_eq_false c2
    clear c2
    replace H:=Option.bind_eq_some_iff.mp H
    obtain⟨t373,A70,H⟩:=H
    try dsimp only at H
    have A7:=Aside0.mk A70
    clear A70
    replace H:=Option.bind_eq_some_iff.mp H
    obtain⟨t376,A80,H⟩:=H
    try dsimp only at H
    have A8:=Aside0.mk A80
    clear A80
    obtain rfl:=Option.some.inj H
    go_wp2_with (first|((with_reducible refine gaC_ (f:=30) rfl ?_);refine goesL_ (some 27) rfl rfl Try.func30 (by kernel_rfl) rfl #[.slice A0 l0.length c0] rfl am_ ?_;(with_reducible refine(dragnetref13_Docs.calls k1 _ _ l0 t373 _ ?side1 ?side2 A7.out).mono ?_);(case side1=>exact Kd.cu_ (Kd.C_below HR0.out HB.out));(case side2=>exact HC0.out);rintro e w9 ⟨v374,rfl,ho0,hb⟩;refine⟨_,rfl,?_⟩;have HO375:=Aside0.mk (Kd.R_lower ho0 (pbS_ bw_));replace HB:=Aside0.mk (below_step bw_ hb);obtain⟨Ao10,co10,eo10⟩:=Kd.R_slice HO375.out;subst eo10)|((with_reducible refine gaC_ (f:=29) rfl ?_);refine goesL_ (some 28) rfl rfl Try.func29 (by kernel_rfl) rfl #[.slice Ao10 t373.length co10,.int .i64 4095] rfl am_ ?_;(with_reducible refine(dragnetref13_rises.calls k1 _ _ t373 4095 t376 _ ?side1 ?side2 A8.out).mono ?_);(case side1=>exact Kd.cu_ (Kd.R_reads' HO375.out).2.2);(case side2=>exact(Kd.R_reads' HO375.out).2.1);rintro e w' ⟨rfl,⟨nd,rfl⟩⟩;refine⟨_,rfl,?_⟩))
    go_ret
    exact⟨rf_,bw_⟩
   rw[if_pos c2]at H
   have c2b0:=decide_eq_true c2
   clear c2
   by_cases c3:0<=x3_1
   rotate_left
   .rw[if_neg c3]at H
    cases H
   rw[if_pos c3]at H
   have c3b0:=decide_eq_true c3
   clear c3
   by_cases c4:(((rd_T37 l0 x3_1).f1).length:Int)=0
   .rw[if_pos c4]at H
    have c4b0:=beq_iff_eq.mpr c4
    have c4b1:=bne_eq_false_iff_eq.mpr c4
    clear c4
    obtain rfl:=Option.some.inj H
    have p370:0<=(x3_1:Int):=od_
    have q370:x3_1 < (l0.length:Int):=od_
    obtain⟨ad370,A370_1,c370_1,e370,hx370_0,hx370_1,hl370_1,hi370_1⟩:=at_T37 HR0.out x3_1 p370 q370
    cases e370
    replace hx370_0:=cx_ HB.out rfl hx370_0
    replace hx370_1:=cx_ HB.out rfl hx370_1
    have HR370_1:=Aside0.mk hi370_1
    have HC370_1:=Aside0.mk hl370_1
    clear hi370_1 hl370_1
    replace p370:=eq_true p370
    replace q370:=eq_true q370
    go_wp2
    go_ret
    exact⟨rf_,bw_⟩
   .rw[if_neg c4]at H
    have c4b0:=beq_eq_false_iff_ne.mpr c4
    have c4b1:=bne_iff_ne.mpr c4
    have c4b2: ¬ (((rd_T37 l0 x3_1).f1)=[]):=fun h_=>c4 (by rw[h_];rfl)
    replace H:=Option.bind_eq_some_iff.mp H
    obtain⟨t372,A50,H⟩:=H
    try dsimp only at H
    have A5:=Aside0.mk A50
    clear A50
    by_cases c6:t372=true
    rotate_left
    .replace c6:=Bool.eq_false_iff.mpr c6
     subst c6
     rw[if_neg (show ¬ (false=true) by decide)]at H
     obtain rfl:=Option.some.inj H
     have p370:0<=(x3_1:Int):=od_
     have q370:x3_1 < (l0.length:Int):=od_
     obtain⟨ad370,A370_1,c370_1,e370,hx370_0,hx370_1,hl370_1,hi370_1⟩:=at_T37 HR0.out x3_1 p370 q370
     cases e370
     replace hx370_0:=cx_ HB.out rfl hx370_0
     replace hx370_1:=cx_ HB.out rfl hx370_1
     have HR370_1:=Aside0.mk hi370_1
     have HC370_1:=Aside0.mk hl370_1
     clear hi370_1 hl370_1
     replace p370:=eq_true p370
     replace q370:=eq_true q370
     have p371:0<=(x3_1:Int):=od_
     have q371:x3_1 < (l0.length:Int):=od_
     obtain⟨ad371,A371_1,c371_1,e371,hx371_0,hx371_1,hl371_1,hi371_1⟩:=at_T37 HR0.out x3_1 p371 q371
     obtain rfl:ad370=ad371:=(by injection e371)
     replace hx371_0:=cx_ HB.out rfl hx371_0
     replace hx371_1:=cx_ HB.out rfl hx371_1
     have HR371_1:=Aside0.mk hi371_1
     have HC371_1:=Aside0.mk hl371_1
     clear hi371_1 hl371_1
     replace p371:=eq_true p371
     replace q371:=eq_true q371
     have ea_:=Option.some.inj (hx370_1.symm.trans hx371_1)
     injection ea_ with ea_ en_ ec_
     subst ea_
     subst ec_
     clear en_
     go_wp2_with (first|(go_at_call 29;(with_reducible refine(dragnetref13_rises.calls k1 _ _ ((rd_T37 l0 x3_1).f1) 2147483647 false _ ?side1 ?side2 A5.out).mono ?_);(case side1=>exact Kd.cu_ (Kd.C_below HR371_1.out HB.out));(case side2=>exact HC371_1.out);rintro e w' ⟨rfl,⟨nd,rfl⟩⟩))
     go_ret
     exact⟨rf_,bw_⟩
    subst c6
    rw[if_pos rfl]at H
    have H':=Aside0.mk H
    clear H
    have p370:0<=(x3_1:Int):=od_
    have q370:x3_1 < (l0.length:Int):=od_
    obtain⟨ad370,A370_1,c370_1,e370,hx370_0,hx370_1,hl370_1,hi370_1⟩:=at_T37 HR0.out x3_1 p370 q370
    cases e370
    replace hx370_0:=cx_ HB.out rfl hx370_0
    replace hx370_1:=cx_ HB.out rfl hx370_1
    have HR370_1:=Aside0.mk hi370_1
    have HC370_1:=Aside0.mk hl370_1
    clear hi370_1 hl370_1
    replace p370:=eq_true p370
    replace q370:=eq_true q370
    have p371:0<=(x3_1:Int):=od_
    have q371:x3_1 < (l0.length:Int):=od_
    obtain⟨ad371,A371_1,c371_1,e371,hx371_0,hx371_1,hl371_1,hi371_1⟩:=at_T37 HR0.out x3_1 p371 q371
    obtain rfl:ad370=ad371:=(by injection e371)
    replace hx371_0:=cx_ HB.out rfl hx371_0
    replace hx371_1:=cx_ HB.out rfl hx371_1
    have HR371_1:=Aside0.mk hi371_1
    have HC371_1:=Aside0.mk hl371_1
    clear hi371_1 hl371_1
    replace p371:=eq_true p371
    replace q371:=eq_true q371
    have ea_:=Option.some.inj (hx370_1.symm.trans hx371_1)
    injection ea_ with ea_ en_ ec_
    subst ea_
    subst ec_
    clear en_
    go_wp2_with (first|(go_at_call 29;(with_reducible refine(dragnetref13_rises.calls k1 _ _ ((rd_T37 l0 x3_1).f1) 2147483647 true _ ?side1 ?side2 A5.out).mono ?_);(case side1=>exact Kd.cu_ (Kd.C_below HR371_1.out HB.out));(case side2=>exact HC371_1.out);rintro e w' ⟨rfl,⟨nd,rfl⟩⟩))
    go_roundg k1
    case measure=>have:=HK1.out;omega
    case rel=>exact⟨(wrap64 (x3_1+1)),rs_,H',⟨by have:=HK1.out;omega⟩,⟨bw_⟩⟩
def dragnetref02_Bytes.l0:Nat->Int->List Int->Option (List Int)
 |0,_,_=>none
 |k+1,x0,x3=>if x0 > 0 then(if x3.length < 140737488355328 then((some (x3++[(Int.tmod x0 256) % 256]:List Int)).bind fun y383=>(if 0 < (y383.length:Int)then(dragnetref02_Bytes.l0 k (IntKind.u64.wrap (Int.tdiv x0 256)) (y383.set (0:Int).toNat (((rd y383 0)+1) % 256)))else(none)))else(none))else(some x3)
def dragnetref02_Bytes.f (k:Nat) (a0:Int):Option (List Int):=if a0<=247 then(some (([(a0) % 256]:List Int)))else(dragnetref02_Bytes.l0 k a0 (([247]:List Int)))
theorem dragnetref02_Bytes.mono_l:∀ k,(∀ y0 y1,LeO (dragnetref02_Bytes.l0 k y0 y1) (dragnetref02_Bytes.l0 (k+1) y0 y1))
 |0=>fun _ _ r h=>by simp[dragnetref02_Bytes.l0]at h
 |k+1=>by
  have ih0:=dragnetref02_Bytes.mono_l k
  .intro y0 y1
   unfold dragnetref02_Bytes.l0
   repeat' first
   |(with_reducible exact ih0 _ _)
   |(with_reducible exact LeO.refl _)
   |(with_reducible exact LeO.none _)
   |(with_reducible refine LeO.ite ?_ ?_)
   |(with_reducible refine LeO.bind ?_ (fun _=>?_))
theorem dragnetref02_Bytes.mono:∀ a0 k,LeO (dragnetref02_Bytes.f k a0) (dragnetref02_Bytes.f (k+1) a0):=by
 intro a0 k
 have ih0:=dragnetref02_Bytes.mono_l k
 unfold dragnetref02_Bytes.f
 repeat' first
   |(with_reducible exact ih0 _ _)
   |(with_reducible exact LeO.refl _)
   |(with_reducible exact LeO.none _)
   |(with_reducible refine LeO.ite ?_ ?_)
   |(with_reducible refine LeO.bind ?_ (fun _=>?_))
set_option maxHeartbeats 8000000 in
set_option maxRecDepth 100000 in
theorem dragnetref02_Bytes.calls (k:Nat) (a0:Int) (r:List Int) (w:World) (h:dragnetref02_Bytes.f k a0=some r):
  Calls Try.prog 31 #[.int .u64 a0] w fun e w'=>∃ v0_:Value,e= .returned (v0_)∧Kd.R (Kd.int .u8) 5 w' w.heap.size (fun _=>True) v0_ r∧Below w.heap.size w w':=by
 have HB:=Aside0.mk (Below.refl w.heap.size w)
 have H:(if a0<=247 then(some (([(a0) % 256]:List Int)))else(dragnetref02_Bytes.l0 k a0 (([247]:List Int))))=some r:=h
 clear h
 by_cases c2:a0<=247
 .rw[if_pos c2]at H
  have c2b0:=decide_eq_true c2
  clear c2
  obtain⟨y377,hy377⟩:∃ y_:List Int,y_=(([(a0) % 256]:List Int)):=⟨_,rfl⟩
  replace H:(some y377)=some r:=hx_ hy377 H
  have Ny377:=Aside0.mk hy377
  clear hy377
  obtain rfl:=Option.some.inj H
  go_enter Try.func31,Try.ntmps31
  go_wp2_with (first|((with_reducible refine gate_dst (N:=8) rfl ?_);refine Kd.R_lit (Kd.int .u8) _ 5 ?hg (N:=8) ?hd (xs:=([(a0) % 256]:List Int)) (inner:=[.int .u8 ((a0) % 256)]) (ok:=fun _=>True) (okp:=fun _=>True) ?hr ?hp (fun _ hk=>hk) trivial (Below.refl _ _) (Nat.le_refl _) (by simp) ?_;(case hd=>rfl);(case hg=>rfl);(case hr=>first|(go_simp;done)|(go_simp;rfl));(case hp=>exact(Reps.one (show Kd.M (Kd.int .u8) _ _ _ ((a0) % 256) [.int .u8 ((a0) % 256)] from rfl) (Reps.none _ _)));intro v378 w3 ho4 hb hg_ hnew_;clear hg_ hnew_;(first|rw[<- Ny377.out]at ho4|(simp only[Int.reduceToNat]at ho4;rw[<- Ny377.out]at ho4));have HO379:=Aside0.mk (Kd.R_lower ho4 (pbS_ bw_));replace HB:=Aside0.mk (below_step bw_ hb);clear hb ho4))
  go_ret
  exact⟨_,rf_,by(with_reducible repeat(first|apply Kd.rA_|apply Kd.rN_|apply Kd.rD_));exact HO379.out,bw_⟩
 .rw[if_neg c2]at H
  have c2b0:=decide_eq_false c2
  clear c2
  obtain⟨y380,hy380⟩:∃ y_:List Int,y_=(([247]:List Int)):=⟨_,rfl⟩
  replace H:(dragnetref02_Bytes.l0 k a0 y380)=some r:=hx_ hy380 H
  have Ny380:=Aside0.mk hy380
  clear hy380
  have H':=Aside0.mk H
  clear H
  go_enter Try.func31,Try.ntmps31
  go_wp2_with (first|((with_reducible refine gate_dst (N:=9) rfl ?_);refine Kd.R_lit (Kd.int .u8) _ 5 ?hg (N:=9) ?hd (xs:=([247]:List Int)) (inner:=[.int .u8 247]) (ok:=fun _=>True) (okp:=fun _=>True) ?hr ?hp (fun _ hk=>hk) trivial (Below.refl _ _) (Nat.le_refl _) (by simp) ?_;(case hd=>rfl);(case hg=>rfl);(case hr=>first|(go_simp;done)|(go_simp;rfl));(case hp=>exact(Reps.one (show Kd.M (Kd.int .u8) _ _ _ 247 [.int .u8 247] from rfl) (Reps.none _ _)));intro v381 w5 ho6 hb hg_ hnew_;clear hg_ hnew_;(first|rw[<- Ny380.out]at ho6|(simp only[Int.reduceToNat]at ho6;rw[<- Ny380.out]at ho6));have HO382:=Aside0.mk (Kd.R_lower ho6 (pbS_ bw_));replace HB:=Aside0.mk (below_step bw_ hb);clear hb ho6))
  go_loopg [0,3] k (fun kq v0 v3 w'=>∃ (x0_1:Int) (x3_1:List Int),v0= .int .u64 x0_1∧Aside0 (dragnetref02_Bytes.l0 kq x0_1 x3_1=some r)∧Aside0 (kq<=k)∧Aside0 (Kd.R (Kd.int .u8) 5 w' w.heap.size (fun _=>True) v3 x3_1)∧Aside0 (Below w.heap.size w w'))
  case atStart=>exact⟨(a0),(y380),rs_,H',⟨Nat.le_refl _⟩,⟨Kd.ru_ HO382.out⟩,⟨bw_⟩⟩
  case round=>
   clear H'
   clear c2b0
   obtain⟨x0_1,x3_1,rfl,HA,HK1,HO_3,HB⟩:=hrel
   cases gk with
   |zero=>exact absurd HA.out (by simp[dragnetref02_Bytes.l0])
   |succ k1=>
    have H:=HA.out
    clear HA
    simp only[dragnetref02_Bytes.l0]at H
    by_cases c7:x0_1 > 0
    rotate_left
    .rw[if_neg c7]at H
     have c7b0:=decide_eq_false c7
     clear c7
     obtain rfl:=Option.some.inj H
     go_wp2
     go_ret
     exact⟨_,rf_,by(with_reducible repeat(first|apply Kd.rA_|apply Kd.rN_|apply Kd.rD_));exact HO_3.out,bw_⟩
    rw[if_pos c7]at H
    have c7b0:=decide_eq_true c7
    clear c7
    by_cases c8:x3_1.length < 140737488355328
    rotate_left
    .rw[if_neg c8]at H
     cases H
    rw[if_pos c8]at H
    have LMc8:=Aside0.mk c8
    clear c8
    obtain⟨y383,hy383⟩:∃ y_:List Int,y_=(x3_1++[(Int.tmod x0_1 256) % 256]):=⟨_,rfl⟩
    replace H:(if 0 < (y383.length:Int)then(dragnetref02_Bytes.l0 k1 (IntKind.u64.wrap (Int.tdiv x0_1 256)) (y383.set (0:Int).toNat (((rd y383 0)+1) % 256)))else(none))=some r:=hx_ hy383 H
    have Ny383:=Aside0.mk hy383
    clear hy383
    by_cases c9:0 < (y383.length:Int)
    rotate_left
    .rw[if_neg c9]at H
     cases H
    rw[if_pos c9]at H
    have c9b0:=decide_eq_true c9
    have c9b1:decide (0 < y383.length)=true:=decide_eq_true (by omega)
    clear c9
    obtain⟨y387,hy387⟩:∃ y_:List Int,y_=(y383.set (0:Int).toNat (((rd y383 0)+1) % 256)):=⟨_,rfl⟩
    replace H:(dragnetref02_Bytes.l0 k1 (IntKind.u64.wrap (Int.tdiv x0_1 256)) y387)=some r:=hx_ hy387 H
    have Ny387:=Aside0.mk hy387
    clear hy387
    have H':=Aside0.mk H
    clear H
    go_wp2_with (first|((with_reducible refine gate_builtin (b:= .append) (xs:= #[.tmp 12,.tmp 16]) rfl ?_);at_builtin;refine Kd.R_append (Kd.int .u8) (w0:=w) w.heap.size rfl (.tmp 12) (.tmp 16) 22 5 (.int .u8 0) 1 rfl Try.underlying22 info5 rfl (by decide) (by omega) u3 x3_1 ((Int.tmod x0_1 256) % 256) [.int .u8 ((Int.tmod x0_1 256) % 256)] (fun _=>True) (fun _=>False) rfl rfl ?aP (fun _ hk=>hk.elim) ?aF ?aO ?aB ?aS ?aL ?_;(case aP=>exact rfl);(case aB=>exact bw_);(case aF=>exact(fun _ _=>trivial));(case aO=>exact(Kd.ru_ HO_3.out));(case aS=>exact(pbS_ bw_));(case aL=>have:=LMc8.out;omega);intro v384 w11 ho hb hg hat;rw[<- Ny383.out]at ho;have n0_:=Aside0.mk (hb);have n1_:=Aside0.mk (ho);clear HB;clear HO_3;have HB:=n0_;have HO385:=n1_;clear n0_ n1_;clear ho hb hg hat;obtain⟨Ao12,co12,eo12⟩:=Kd.R_slice HO385.out;subst eo12;have p386:0<=(0:Int):=(by omega);have q386:0 < (y383.length:Int):=od_;obtain⟨ad386,e386,hx386_0⟩:=Kd.at_int (Kd.R_reads' HO385.out).2.2 0 p386 q386;cases e386;have qi386:(0 < y383.length)=True:=eq_true (by omega);(try rw[show((0:Int)).toNat=0 from rfl]at hx386_0);(try rw[Addr.add_zero']at hx386_0);replace p386:=eq_true p386;replace q386:=eq_true q386;have p10:0<=(0:Int):=(by omega);have q10:(0:Int) < ((y383.length:Int):Int):=od_;have qi10:(0 < y383.length)=True:=eq_true (by omega);obtain⟨go10,co10,eo10,gb10,gl10,cl10,HG10⟩:=Kd.R_form HO385.out (by omega);(first|cases eo10|(injection eo10 with ea_ en_ ec_;(first|subst ea_|(injection ea_ with ea_;subst ea_));subst ec_;clear en_));have GB10:=Aside0.mk gb10;have GG10:=Aside0.mk HG10;clear gb10 gl10 HG10;(first|simp only[add_plain]at hx386_0|skip);obtain⟨hx10_0,hf10_0⟩:=Kd.R_celln 0 HO385.out (0:Int) p10 q10;(try rw[show((0:Int)).toNat=0 from rfl]at hx10_0);(try simp only[Nat.reduceMul,Nat.zero_mul,Nat.zero_add,Nat.reduceAdd]at hx10_0);(try rw[show((0:Int)).toNat=0 from rfl]at hf10_0);(try simp only[Nat.reduceMul,Nat.zero_mul,Nat.zero_add,Nat.reduceAdd]at hf10_0);replace p10:=eq_true p10;replace q10:=eq_true q10;obtain⟨hy13_,hz13_⟩:=Kd.R_celln 0 HO385.out (0:Int) (by omega) od_;(try simp only[Int.reduceToNat,Int.toNat_zero,Int.toNat_ofNat,Nat.reduceMul,Nat.zero_mul,Nat.zero_add]at hy13_ hz13_);(try rw[show((0:Int)).toNat=0 from rfl]at hy13_);(try rw[show((0:Int)).toNat=0 from rfl]at hz13_);have HP13:=Kd.R_putg HO385.out (0:Int) (((rd y383 0)+1) % 256))|((with_reducible refine gate_store (t:=5) (p:=23) rfl ?_);refine store_event (t:=5) (p:=23) (v:= ?vo_w14) (w1:=(w11.setCell ⟨go10,(0:Int).toNat,none⟩ (.int .u8 (((rd y383 0)+1) % 256)))) ?hg ?ho ?hn ?hr ?_;(case ho=>rfl);(case hg=>rfl);(case hn=>rfl);(case hr=>first|(go_simp;done)|(go_simp;rfl));intro w14 hw;have hg:w11.grownBy w14 (some go10):=(by rw[hw];exact HP13.2);have hp_:Kd.R (Kd.int .u8) 5 w14 w.heap.size (fun _=>True) (.slice (some ⟨go10,0,none⟩) y383.length co12) y387:=(by rw[hw,Ny387.out];exact HP13.1);clear HP13;replace HO385:=Aside0.mk (hp_);replace HB:=Aside0.mk ((by rw[hw];exact below_set (HB.out) GB10.out:Below w.heap.size w w14));clear hg hw hp_))
    go_roundg k1
    case measure=>have:=HK1.out;omega
    case rel=>exact⟨(IntKind.u64.wrap (Int.tdiv x0_1 256)),(y387),rs_,H',⟨by have:=HK1.out;omega⟩,⟨Kd.ru_ HO385.out⟩,⟨bw_⟩⟩
def dragnetref03_Size.f (a0:Int) (a1:Int):Option (Int):=some (wrap64 (Int.tdiv (wrap64 ((wrap64 (a0*a1))+7)) 8))
set_option maxHeartbeats 8000000 in
set_option maxRecDepth 100000 in
theorem dragnetref03_Size.calls (a0:Int) (a1:Int) (r:Int) (w:World) (h:dragnetref03_Size.f a0 a1=some r):
  Calls Try.prog 73 #[.int .i64 a0,.int .i64 a1] w fun e w'=>e= .returned (.int .i64 r)∧Drawn0 w w':=by
 have H:(some (wrap64 (Int.tdiv (wrap64 ((wrap64 (a0*a1))+7)) 8)))=some r:=h
 clear h
 obtain rfl:=Option.some.inj H
 go_enter Try.func73,Try.ntmps73
 go_wp2
 go_ret
 exact⟨by first|rfl|(simp;done)|(simp[*];done),by repeat(first|exact Drawn0.refl _|apply Drawn0.step)⟩
def dragnetref03_Fits.f (a0:Int) (a1:Int):Option (Bool):=if a1≥64 then(some true)else(if 0<=a1 then(some ((shr .u64 a0 a1)==0))else(none))
set_option maxHeartbeats 8000000 in
set_option maxRecDepth 100000 in
theorem dragnetref03_Fits.calls (a0:Int) (a1:Int) (r:Bool) (w:World) (h:dragnetref03_Fits.f a0 a1=some r):
  Calls Try.prog 77 #[.int .u64 a0,.int .i64 a1] w fun e w'=>e= .returned (.bool r)∧Drawn0 w w':=by
 have H:(if a1≥64 then(some true)else(if 0<=a1 then(some ((shr .u64 a0 a1)==0))else(none)))=some r:=h
 clear h
 by_cases c3:a1≥64
 .rw[if_pos c3]at H
  have c3b0:=decide_eq_true c3
  clear c3
  obtain rfl:=Option.some.inj H
  go_enter Try.func77,Try.ntmps77
  go_wp2
  go_ret
  exact⟨by first|rfl|(simp;done)|(simp[*];done),by repeat(first|exact Drawn0.refl _|apply Drawn0.step)⟩
 .rw[if_neg c3]at H
  have c3b0:=decide_eq_false c3
  clear c3
  by_cases c4:0<=a1
  rotate_left
  .rw[if_neg c4]at H
   cases H
  rw[if_pos c4]at H
  have c4b0:=eq_true c4
  have c4b1:=decide_eq_true c4
  clear c4
  obtain⟨ji5,hji5⟩:∃ j_:Int,(shr .u64 a0 a1)=j_:=⟨_,rfl⟩
  replace H:(some ((ji5)==0))=some r:=hj_ hji5 H
  have hji5_:(a0 / 2 ^ min a1.toNat 64)=ji5:=hji5
  have hji5z:a1<=64->(a0 / 2 ^ a1.toNat)=ji5:=shr_small hji5
  obtain rfl:=Option.some.inj H
  go_enter Try.func77,Try.ntmps77
  go_wp2
  go_ret
  exact⟨by first|rfl|(simp;done)|(simp only[<- hji5]<;>(first|rfl|simp))|(simp[*];done),by repeat(first|exact Drawn0.refl _|apply Drawn0.step)⟩
def dragnetref02_Take.l0:Nat->List Int->Int->Int->Int->Option (Int×Int×Int)
 |0,_,_,_,_=>none
 |k+1,x0,x5,x6,x7=>if x7 > 0 then(if 0<=x7 then(if x7 < (x0.length:Int)then(dragnetref02_Take.l0 k x0 x5 (IntKind.u64.wrap ((IntKind.u64.wrap (x6*256))+(IntKind.u64.wrap (rd x0 x7)))) (wrap64 (x7 - 1)))else(none))else(none))else((dragnetref02_Bytes.f k x6).bind fun t550=>(if(t550.length:Int)=(wrap64 (1+x5))then(some (x6,wrap64 (1+x5),0))else(some (0,0,2))))
def dragnetref02_Take.f (k:Nat) (l0:List Int):Option (Int×Int×Int):=if(l0.length:Int)=0 then(some (0,0,3))else(if 0 < (l0.length:Int)then(if(rd l0 0)<=247 then(some (IntKind.u64.wrap (rd l0 0),1,0))else(if(wrap64 ((l0.length:Int) - 1)) < (wrap64 ((wrap64 (rd l0 0)) - 247))then(some (0,0,3))else(dragnetref02_Take.l0 k l0 (wrap64 ((wrap64 (rd l0 0)) - 247)) 0 (wrap64 ((wrap64 (rd l0 0)) - 247)))))else(none))
theorem dragnetref02_Take.mono_l:∀ k,(∀ y0 y1 y2 y3,LeO (dragnetref02_Take.l0 k y0 y1 y2 y3) (dragnetref02_Take.l0 (k+1) y0 y1 y2 y3))
 |0=>fun _ _ _ _ r h=>by simp[dragnetref02_Take.l0]at h
 |k+1=>by
  have ih0:=dragnetref02_Take.mono_l k
  .intro y0 y1 y2 y3
   unfold dragnetref02_Take.l0
   repeat' first
   |(with_reducible exact ih0 _ _ _ _)
   |(with_reducible exact dragnetref02_Bytes.mono _ _)
   |(with_reducible exact LeO.refl _)
   |(with_reducible exact LeO.none _)
   |(with_reducible refine LeO.ite ?_ ?_)
   |(with_reducible refine LeO.bind ?_ (fun _=>?_))
theorem dragnetref02_Take.mono:∀ a0 k,LeO (dragnetref02_Take.f k a0) (dragnetref02_Take.f (k+1) a0):=by
 intro a0 k
 have ih0:=dragnetref02_Take.mono_l k
 unfold dragnetref02_Take.f
 repeat' first
   |(with_reducible exact ih0 _ _ _ _)
   |(with_reducible exact dragnetref02_Bytes.mono _ _)
   |(with_reducible exact LeO.refl _)
   |(with_reducible exact LeO.none _)
   |(with_reducible refine LeO.ite ?_ ?_)
   |(with_reducible refine LeO.bind ?_ (fun _=>?_))
set_option maxHeartbeats 8000000 in
set_option maxRecDepth 100000 in
theorem dragnetref02_Take.calls (k:Nat) (A0:Option Addr) (c0:Nat) (l0:List Int) (r1:Int) (r2:Int) (r3:Int) (w:World) (hr0:Kd.C (Kd.int .u8) w A0 l0.length l0) (hc0:l0.length<=c0) (h:dragnetref02_Take.f k l0=some (r1,r2,r3)):
  Calls Try.prog 71 #[.slice A0 l0.length c0] w fun e w'=>e= .returned (.tuple #[.int .u64 r1,.int .i64 r2,.int .i64 r3])∧Below w.heap.size w w':=by
 have HR0:=Aside0.mk hr0
 have HC0:=Aside0.mk hc0
 clear hr0 hc0
 have HB:=Aside0.mk (Below.refl w.heap.size w)
 have H:(if(l0.length:Int)=0 then(some (0,0,3))else(if 0 < (l0.length:Int)then(if(rd l0 0)<=247 then(some (IntKind.u64.wrap (rd l0 0),1,0))else(if(wrap64 ((l0.length:Int) - 1)) < (wrap64 ((wrap64 (rd l0 0)) - 247))then(some (0,0,3))else(dragnetref02_Take.l0 k l0 (wrap64 ((wrap64 (rd l0 0)) - 247)) 0 (wrap64 ((wrap64 (rd l0 0)) - 247)))))else(none)))=some (r1,r2,r3):=h
 clear h
 by_cases c2:(l0.length:Int)=0
 .rw[if_pos c2]at H
  have c2b0:=beq_iff_eq.mpr c2
  have c2b1:=bne_eq_false_iff_eq.mpr c2
  clear c2
  simp only[Option.some.injEq,Prod.mk.injEq]at H
  obtain⟨rfl,rfl,rfl⟩:=H
  go_enter Try.func71,Try.ntmps71
  go_wp2
  go_ret3
  exact⟨rf_,bw_⟩
 .rw[if_neg c2]at H
  have c2b0:=beq_eq_false_iff_ne.mpr c2
  have c2b1:=bne_iff_ne.mpr c2
  have c2b2: ¬ (l0=[]):=fun h_=>c2 (by rw[h_];rfl)
  by_cases c3:0 < (l0.length:Int)
  rotate_left
  .rw[if_neg c3]at H
   cases H
  rw[if_pos c3]at H
  have c3b0:=decide_eq_true c3
  have c3b1:decide (0 < l0.length)=true:=decide_eq_true (by omega)
  clear c3
  by_cases c4:(rd l0 0)<=247
  .rw[if_pos c4]at H
   have c4b0:=decide_eq_true c4
   clear c4
   simp only[Option.some.injEq,Prod.mk.injEq]at H
   obtain⟨rfl,rfl,rfl⟩:=H
   have p546:0<=(0:Int):=(by omega)
   have q546:0 < (l0.length:Int):=od_
   obtain⟨ad546,e546,hx546_0⟩:=Kd.at_int HR0.out 0 p546 q546
   cases e546
   have qi546:(0 < l0.length)=True:=eq_true (by omega)
   rw[show((0:Int)).toNat=0 from rfl]at hx546_0
   rw[Addr.add_zero']at hx546_0
   replace p546:=eq_true p546
   replace q546:=eq_true q546
   have p547:0<=(0:Int):=(by omega)
   have q547:0 < (l0.length:Int):=od_
   obtain⟨ad547,e547,hx547_0⟩:=Kd.at_int HR0.out 0 p547 q547
   obtain rfl:ad546=ad547:=(by injection e547)
   have qi547:(0 < l0.length)=True:=eq_true (by omega)
   rw[show((0:Int)).toNat=0 from rfl]at hx547_0
   rw[Addr.add_zero']at hx547_0
   replace p547:=eq_true p547
   replace q547:=eq_true q547
   go_enter Try.func71,Try.ntmps71
   go_wp2
   go_ret3
   exact⟨rf_,bw_⟩
  .rw[if_neg c4]at H
   have c4b0:=decide_eq_false c4
   clear c4
   by_cases c5:(wrap64 ((l0.length:Int) - 1)) < (wrap64 ((wrap64 (rd l0 0)) - 247))
   .rw[if_pos c5]at H
    have c5b0:=decide_eq_true c5
    clear c5
    simp only[Option.some.injEq,Prod.mk.injEq]at H
    obtain⟨rfl,rfl,rfl⟩:=H
    have p546:0<=(0:Int):=(by omega)
    have q546:0 < (l0.length:Int):=od_
    obtain⟨ad546,e546,hx546_0⟩:=Kd.at_int HR0.out 0 p546 q546
    cases e546
    have qi546:(0 < l0.length)=True:=eq_true (by omega)
    rw[show((0:Int)).toNat=0 from rfl]at hx546_0
    rw[Addr.add_zero']at hx546_0
    replace p546:=eq_true p546
    replace q546:=eq_true q546
    have p548:0<=(0:Int):=(by omega)
    have q548:0 < (l0.length:Int):=od_
    obtain⟨ad548,e548,hx548_0⟩:=Kd.at_int HR0.out 0 p548 q548
    obtain rfl:ad546=ad548:=(by injection e548)
    have qi548:(0 < l0.length)=True:=eq_true (by omega)
    rw[show((0:Int)).toNat=0 from rfl]at hx548_0
    rw[Addr.add_zero']at hx548_0
    replace p548:=eq_true p548
    replace q548:=eq_true q548
    go_enter Try.func71,Try.ntmps71
    go_wp2
    go_ret3
    exact⟨rf_,bw_⟩
   .rw[if_neg c5]at H
    have c5b0:=decide_eq_false c5
    clear c5
    have H':=Aside0.mk H
    clear H
    have p546:0<=(0:Int):=(by omega)
    have q546:0 < (l0.length:Int):=od_
    obtain⟨ad546,e546,hx546_0⟩:=Kd.at_int HR0.out 0 p546 q546
    cases e546
    have qi546:(0 < l0.length)=True:=eq_true (by omega)
    rw[show((0:Int)).toNat=0 from rfl]at hx546_0
    rw[Addr.add_zero']at hx546_0
    replace p546:=eq_true p546
    replace q546:=eq_true q546
    have p548:0<=(0:Int):=(by omega)
    have q548:0 < (l0.length:Int):=od_
    obtain⟨ad548,e548,hx548_0⟩:=Kd.at_int HR0.out 0 p548 q548
    obtain rfl:ad546=ad548:=(by injection e548)
    have qi548:(0 < l0.length)=True:=eq_true (by omega)
    rw[show((0:Int)).toNat=0 from rfl]at hx548_0
    rw[Addr.add_zero']at hx548_0
    replace p548:=eq_true p548
    replace q548:=eq_true q548
    go_enter Try.func71,Try.ntmps71
    go_wp2
    go_loopg [6,7] k (fun kq v6 v7 w'=>∃ (x6_1:Int) (x7_1:Int),v6= .int .u64 x6_1∧v7= .int .i64 x7_1∧Aside0 (dragnetref02_Take.l0 kq l0 (wrap64 ((wrap64 (rd l0 0)) - 247)) x6_1 x7_1=some (r1,r2,r3))∧Aside0 (kq<=k)∧Aside0 (Below w.heap.size w w'))
    case atStart=>exact⟨(0),(wrap64 ((wrap64 (rd l0 0)) - 247)),rs_,rs_,H',⟨Nat.le_refl _⟩,⟨bw_⟩⟩
    case round=>
     clear H'
     clear c2 c2b0 c2b1 c2b2
     clear c3b0 c3b1
     clear c4b0
     clear c5b0
     clear hx546_0
     clear hx548_0 p546
     clear p548 q546
     clear q548
     obtain⟨x6_1,x7_1,rfl,rfl,HA,HK1,HB⟩:=hrel
     cases gk with
     |zero=>exact absurd HA.out (by simp[dragnetref02_Take.l0])
     |succ k1=>
      have H:=HA.out
      clear HA
      simp only[dragnetref02_Take.l0]at H
      by_cases c6:x7_1 > 0
      rotate_left
      .rw[if_neg c6]at H
       have c6b0:=decide_eq_false c6
       clear c6
       replace H:=Option.bind_eq_some_iff.mp H
       obtain⟨t550,A90,H⟩:=H
       try dsimp only at H
       have A9:=Aside0.mk A90
       clear A90
       by_cases c10:(t550.length:Int)=(wrap64 (1+(wrap64 ((wrap64 (rd l0 0)) - 247))))
       rotate_left
       .rw[if_neg c10]at H
        have c10b0:=beq_eq_false_iff_ne.mpr c10
        have c10b1:=bne_iff_ne.mpr c10
        simp only[Option.some.injEq,Prod.mk.injEq]at H
        obtain⟨rfl,rfl,rfl⟩:=H
        go_wp2_with (first|((with_reducible refine gaC_ (f:=31) rfl ?_);refine goesL_ (some 43) rfl rfl Try.func31 (by kernel_rfl) rfl #[.int .u64 x6_1] rfl am_ ?_;(with_reducible refine(dragnetref02_Bytes.calls k1 x6_1 t550 _ A9.out).mono ?_);rintro e w13 ⟨v551,rfl,ho0,hb⟩;refine⟨_,rfl,?_⟩;have HO552:=Aside0.mk (Kd.R_lower ho0 (pbS_ bw_));replace HB:=Aside0.mk (below_step bw_ hb);obtain⟨Ao14,co14,eo14⟩:=Kd.R_slice HO552.out;subst eo14))
        go_ret3
        exact⟨rf_,bw_⟩
       rw[if_pos c10]at H
       have c10b0:=beq_iff_eq.mpr c10
       have c10b1:=bne_eq_false_iff_eq.mpr c10
       clear c10
       simp only[Option.some.injEq,Prod.mk.injEq]at H
       obtain⟨rfl,rfl,rfl⟩:=H
       go_wp2_with (first|((with_reducible refine gaC_ (f:=31) rfl ?_);refine goesL_ (some 43) rfl rfl Try.func31 (by kernel_rfl) rfl #[.int .u64 x6_1] rfl am_ ?_;(with_reducible refine(dragnetref02_Bytes.calls k1 x6_1 t550 _ A9.out).mono ?_);rintro e w11 ⟨v551,rfl,ho0,hb⟩;refine⟨_,rfl,?_⟩;have HO552:=Aside0.mk (Kd.R_lower ho0 (pbS_ bw_));replace HB:=Aside0.mk (below_step bw_ hb);obtain⟨Ao12,co12,eo12⟩:=Kd.R_slice HO552.out;subst eo12))
       go_ret3
       exact⟨rf_,bw_⟩
      rw[if_pos c6]at H
      have c6b0:=decide_eq_true c6
      clear c6
      by_cases c7:0<=x7_1
      rotate_left
      .rw[if_neg c7]at H
       cases H
      rw[if_pos c7]at H
      have c7b0:=decide_eq_true c7
      clear c7
      by_cases c8:x7_1 < (l0.length:Int)
      rotate_left
      .rw[if_neg c8]at H
       cases H
      rw[if_pos c8]at H
      have c8b0:=decide_eq_true c8
      clear c8
      have H':=Aside0.mk H
      clear H
      have p549:0<=(x7_1:Int):=od_
      have q549:x7_1 < (l0.length:Int):=od_
      obtain⟨ad549,e549,hx549_0⟩:=Kd.at_int HR0.out x7_1 p549 q549
      obtain rfl:ad546=ad549:=(by injection e549)
      replace hx549_0:=cx_ HB.out rfl hx549_0
      replace p549:=eq_true p549
      replace q549:=eq_true q549
      go_wp2
      go_roundg k1
      case measure=>have:=HK1.out;omega
      case rel=>exact⟨(IntKind.u64.wrap ((IntKind.u64.wrap (x6_1*256))+(IntKind.u64.wrap (rd l0 x7_1)))),(wrap64 (x7_1 - 1)),rs_,rs_,H',⟨by have:=HK1.out;omega⟩,⟨bw_⟩⟩
def IsS72 (w0 W:World) (g:Nat) (f0:List Int) (f1:Int) (f2:Bool):Prop:=∃ A0 c0,W.heap[g]? =some (.cells #[.slice A0 f0.length c0,.int .i64 f1,.bool f2] 72 (0,0))∧w0.heap.size<=g∧(Kd.C (Kd.int .u8) w0 A0 f0.length f0∧f0.length<=c0)
theorem IsS72.grown {w0 W:World} {g:Nat} {f0:List Int} {f1:Int} {f2:Bool} {W1:World} {row:Option Nat} (h:IsS72 w0 W g f0 f1 f2) (hw:W.grownBy W1 row) (hne:some g≠row):IsS72 w0 W1 g f0 f1 f2:=by
 obtain⟨A0,c0,hb,hg,hr0⟩:=h
 exact⟨A0,c0,blk_grown hb hw hne,hg,hr0⟩
theorem IsS72.own_neN {w0 W:World} {g:Nat} {f0:List Int} {f1:Int} {f2:Bool} {α:Type} {d:Kd α} {e:Nat} {base:Nat} {ok:Nat->Prop} {v:Value} {xs:List α} (h:IsS72 w0 W g f0 f1 f2) (ho:Kd.N d e W base ok v xs) (ht:e≠72):some g≠v.ownBlock:=by
 obtain⟨A0,c0,hb,hg,hr0⟩:=h
 exact Kd.N_ne ho hb ht
theorem IsS72.fresh {w0 W:World} {g:Nat} {f0:List Int} {f1:Int} {f2:Bool} (h:IsS72 w0 W g f0 f1 f2):∀ k,W.heap.size<=k->k≠g:=by
 obtain⟨A0,c0,hb,hg,hr0⟩:=h
 exact Kd.freshB hb
theorem IsS72.kept {w0 W:World} {g:Nat} {f0:List Int} {f1:Int} {f2:Bool} {W1:World} {S:Nat->Prop} (h:IsS72 w0 W g f0 f1 f2) (hk:Kept W W1 S) (hne: ¬ S g):IsS72 w0 W1 g f0 f1 f2:=by
 obtain⟨A0,c0,hb,hg,hr0⟩:=h
 exact⟨A0,c0,blk_kept hb hk hne,hg,hr0⟩
theorem IsS72.below {w0 W:World} {g:Nat} {f0:List Int} {f1:Int} {f2:Bool} {W1:World} (h:IsS72 w0 W g f0 f1 f2) (hw:Below W.heap.size W W1):IsS72 w0 W1 g f0 f1 f2:=h.grown (grown_of_below hw none) (by simp)
theorem IsS72.alloc {w0 W:World} {g:Nat} {f0:List Int} {f1:Int} {f2:Bool} (h:IsS72 w0 W g f0 f1 f2) (o:Obj):IsS72 w0 (W.alloc o) g f0 f1 f2:=h.below (pbA_ (Below.refl _ _) o)
theorem IsS72.drewN {w0 W:World} {g:Nat} {f0:List Int} {f1:Int} {f2:Bool} (h:IsS72 w0 W g f0 f1 f2) (m:Nat):IsS72 w0 (W.drewN m) g f0 f1 f2:=h
theorem IsS72.drew {w0 W:World} {g:Nat} {f0:List Int} {f1:Int} {f2:Bool} (h:IsS72 w0 W g f0 f1 f2):IsS72 w0 W.drew g f0 f1 f2:=h
theorem IsS72.at_ {w0 W:World} {g:Nat} {f0:List Int} {f1:Int} {f2:Bool} {w':World} {m:Nat} (hq:W.drewN m=w') (h:IsS72 w0 W g f0 f1 f2):IsS72 w0 w' g f0 f1 f2:=by subst hq;exact IsS72.drewN h m
theorem IsS72.apart {w0 W:World} {g:Nat} {f0:List Int} {f1:Int} {f2:Bool} {α:Type} {d:Kd α} {e:Nat} {base:Nat} {ok:Nat->Prop} {v:Value} {xs:List α} (h:IsS72 w0 W g f0 f1 f2) (ho:d.R e W base ok v xs) (ht:∀ q,q∈e :: d.E->q≠72):d.R e W base (fun k=>ok k∧k≠g) v xs:=by
 obtain⟨A0,c0,hb,hg,hr0⟩:=h
 exact Kd.R_types ho hb ht
theorem IsS72.own_ne {w0 W:World} {g:Nat} {f0:List Int} {f1:Int} {f2:Bool} {α:Type} {d:Kd α} {e:Nat} {base:Nat} {ok:Nat->Prop} {v:Value} {xs:List α} (h:IsS72 w0 W g f0 f1 f2) (ho:d.R e W base ok v xs) (ht:e≠72):some g≠v.ownBlock:=by
 obtain⟨A0,c0,hb,hg,hr0⟩:=h
 exact Kd.R_ne ho hb ht
theorem IsS72.lt {w0 W:World} {g:Nat} {f0:List Int} {f1:Int} {f2:Bool} (h:IsS72 w0 W g f0 f1 f2):g < W.heap.size:=by
 obtain⟨A0,c0,hb,hg,hr0⟩:=h
 exact blk_lt hb
theorem IsS72.ge {w0 W:World} {g:Nat} {f0:List Int} {f1:Int} {f2:Bool} (h:IsS72 w0 W g f0 f1 f2):w0.heap.size<=g:=by
 obtain⟨A0,c0,hb,hg,hr0⟩:=h
 exact hg
theorem IsS72.ne_blk {w0 W:World} {g:Nat} {f0:List Int} {f1:Int} {f2:Bool} {a:Nat} {cs:Array Value} {t:TypeId} {fr:Nat×Nat} (h:IsS72 w0 W g f0 f1 f2) (hb2:W.heap[a]? =some (.cells cs t fr)) (ht:t≠72):g≠a:=by
 obtain⟨A0,c0,hb,hg,hr0⟩:=h
 rintro rfl
 rw[hb]at hb2
 injection hb2 with hb2
 injection hb2 with _ ht2
 exact ht ht2.symm
theorem IsS72.far {w0 W:World} {g:Nat} {f0:List Int} {f1:Int} {f2:Bool} {p:Addr} (h:IsS72 w0 W g f0 f1 f2) (hne:g≠p.block) (u:Value):IsS72 w0 (W.setCell p u) g f0 f1 f2:=by
 obtain⟨A0,c0,hb,hg,hr0⟩:=h
 exact⟨A0,c0,blk_far hb hne u,hg,hr0⟩
theorem cellS72_0 {W:World} {g:Nat} {A0:Option Addr} {c0:Nat} {f0:List Int} {f1:Int} {f2:Bool} (h:W.heap[g]? =some (.cells #[.slice A0 f0.length c0,.int .i64 f1,.bool f2] 72 (0,0))):W.cell? ⟨g,0,none⟩=some (.slice A0 f0.length c0):=(blk_cell h 0).trans rfl
theorem cellS72_1 {W:World} {g:Nat} {A0:Option Addr} {c0:Nat} {f0:List Int} {f1:Int} {f2:Bool} (h:W.heap[g]? =some (.cells #[.slice A0 f0.length c0,.int .i64 f1,.bool f2] 72 (0,0))):W.cell? ⟨g,1,none⟩=some (.int .i64 f1):=(blk_cell h 1).trans rfl
theorem IsS72.set_1 {w0 W:World} {g:Nat} {f0:List Int} {f1:Int} {f2:Bool} (h:IsS72 w0 W g f0 f1 f2) (x:Int):IsS72 w0 (W.setCell ⟨g,1,none⟩ (.int .i64 x)) g f0 x f2:=by
 obtain⟨A0,c0,hb,hg,hr0⟩:=h
 exact⟨A0,c0,by simpa using blk_set hb 1 (.int .i64 x),hg,hr0⟩
theorem cellS72_2 {W:World} {g:Nat} {A0:Option Addr} {c0:Nat} {f0:List Int} {f1:Int} {f2:Bool} (h:W.heap[g]? =some (.cells #[.slice A0 f0.length c0,.int .i64 f1,.bool f2] 72 (0,0))):W.cell? ⟨g,2,none⟩=some (.bool f2):=(blk_cell h 2).trans rfl
theorem IsS72.set_2 {w0 W:World} {g:Nat} {f0:List Int} {f1:Int} {f2:Bool} (h:IsS72 w0 W g f0 f1 f2) (x:Bool):IsS72 w0 (W.setCell ⟨g,2,none⟩ (.bool x)) g f0 f1 x:=by
 obtain⟨A0,c0,hb,hg,hr0⟩:=h
 exact⟨A0,c0,by simpa using blk_set hb 2 (.bool x),hg,hr0⟩
theorem IsS72.new (w0 W:World) (A0:Option Addr) (c0:Nat) (f0:List Int) (f1:Int) (f2:Bool) (hB:Below w0.heap.size w0 W) (hr0:Kd.C (Kd.int .u8) w0 A0 f0.length f0∧f0.length<=c0):IsS72 w0 (W.alloc (.cells #[.slice A0 f0.length c0,.int .i64 f1,.bool f2] 72)) W.heap.size f0 f1 f2:=⟨A0,c0,by simpa using heap_alloc_new W _,hB.size,hr0⟩
def dragnetref02_Reader_Number.f (k:Nat) (s0_0:List Int) (s0_1:Int) (s0_2:Bool) (a1:Int):Option (Int×Int×Bool):=if s0_2=true then(some (0,s0_1,s0_2))else(if 0<=s0_1 then(if s0_1<=(s0_0.length:Int)then((dragnetref02_Take.f k (s0_0.drop (s0_1:Int).toNat)).bind fun bt554=>(if bt554.2.2=0 then(if bt554.1 > a1 then(some (0,wrap64 (s0_1+bt554.2.1),decide (bt554.1 > a1)))else(some (bt554.1,wrap64 (s0_1+bt554.2.1),decide (bt554.1 > a1))))else(some (0,wrap64 (s0_1+bt554.2.1),true))))else(none))else(none))
theorem dragnetref02_Reader_Number.mono:∀ a0 a1 a2 a3 k,LeO (dragnetref02_Reader_Number.f k a0 a1 a2 a3) (dragnetref02_Reader_Number.f (k+1) a0 a1 a2 a3):=by
 intro a0 a1 a2 a3 k
 unfold dragnetref02_Reader_Number.f
 repeat' first
   |(with_reducible exact dragnetref02_Take.mono _ _)
   |(with_reducible exact LeO.refl _)
   |(with_reducible exact LeO.none _)
   |(with_reducible refine LeO.ite ?_ ?_)
   |(with_reducible refine LeO.bind ?_ (fun _=>?_))
def dragnetref02_Reader_Number.T3:Bool×List (List Nat×List Nat):=(true,[([],[]),([0],[0]),([1],[1]),([2],[2]),([],[]),([4],[4]),([5],[5]),([6],[6]),([3,7],[3,7]),([8],[8]),([9],[9]),([10],[10]),([10],[10]),([10],[10]),([11,9,0,1,2,3,4,5,6,7,8,9,10,11],[11]),([12,14,0,1,2,3,4,5,6,7,8,9,10,11,12,14],[12]),([13,15,0,1,2,3,4,5,6,7,8,9,10,11,12,13,14,15],[13])])
def dragnetref02_Reader_Number.B3:List Nat:=[0,1,3,7,0,16,48,112,255,511,1023,2047,2047,2047,4095,24575,65535]
theorem dragnetref02_Reader_Number.tab3:rtab .any (opsOf Try.f60 3)=dragnetref02_Reader_Number.T3:=by kernel_rfl
theorem dragnetref02_Reader_Number.bits3:waitsOk dragnetref02_Reader_Number.T3.2 dragnetref02_Reader_Number.B3=true:=by kernel_rfl
set_option maxHeartbeats 8000000 in
set_option maxRecDepth 100000 in
theorem dragnetref02_Reader_Number.calls (k:Nat) (g:Nat) (s0_0:List Int) (s0_1:Int) (s0_2:Bool) (a1:Int) (r1:Int) (r2:Int) (r3:Bool) (w0 w:World) (hI:IsS72 w0 w g s0_0 s0_1 s0_2) (hB:Below w0.heap.size w0 w) (h:dragnetref02_Reader_Number.f k s0_0 s0_1 s0_2 a1=some (r1,r2,r3)):
  Calls Try.prog 60 #[.pointer (some ⟨g,0,none⟩),.int .u64 a1] w fun e w'=>e= .returned (.int .u64 r1)∧IsS72 w0 w' g s0_0 r2 r3∧Below w0.heap.size w0 w'∧KeepBut w w' g none:=by
 have HI0:=Aside0.mk hI
 have HK:=Aside0.mk (KeepBut.refl w g none)
 have HL:=Aside0.mk hB.size
 clear hI
 have HW0:=Aside0.mk hB.size
 have HB:=Aside0.mk hB
 have HBE:=Aside0.mk hB
 clear hB
 have H:(if s0_2=true then(some (0,s0_1,s0_2))else(if 0<=s0_1 then(if s0_1<=(s0_0.length:Int)then((dragnetref02_Take.f k (s0_0.drop (s0_1:Int).toNat)).bind fun bt554=>(if bt554.2.2=0 then(if bt554.1 > a1 then(some (0,wrap64 (s0_1+bt554.2.1),decide (bt554.1 > a1)))else(some (bt554.1,wrap64 (s0_1+bt554.2.1),decide (bt554.1 > a1))))else(some (0,wrap64 (s0_1+bt554.2.1),true))))else(none))else(none)))=some (r1,r2,r3):=h
 clear h
 by_cases c3:s0_2=true
 .subst c3
  rw[if_pos rfl]at H
  simp only[Option.some.injEq,Prod.mk.injEq]at H
  obtain⟨rfl,rfl,rfl⟩:=H
  obtain⟨ASz4_0,cSz4_0,HGz4,hgz4,HSz4_0⟩:=HI0.out
  have hcz4_0:=cellS72_0 HGz4
  have hcz4_1:=cellS72_1 HGz4
  have hcz4_2:=cellS72_2 HGz4
  have hfz4_1:=blk_frozen HGz4 1
  have hfz4_2:=blk_frozen HGz4 2
  clear HGz4 hgz4
  go_enter Try.func60,Try.ntmps60
  go_wp2
  go_ret
  exact⟨rf_,by repeat(first|(with_reducible first|exact HI0.out|apply IsS72.alloc|apply IsS72.drewN|apply IsS72.drew|apply IsS72.set_1|apply IsS72.set_2)|exact HI0.out),bs72_,by repeat(first|(with_reducible first|exact HK.out|apply KeepBut.set_|apply keep_drewN|apply keep_drew|apply keep_alloc)|exact HK.out)⟩
 .replace c3:=Bool.eq_false_iff.mpr c3
  subst c3
  rw[if_neg (show ¬ (false=true) by decide)]at H
  by_cases c5:0<=s0_1
  rotate_left
  .rw[if_neg c5]at H
   cases H
  rw[if_pos c5]at H
  have c5b0:=eq_true c5
  have c5b1:=decide_eq_true c5
  clear c5
  by_cases c6:s0_1<=(s0_0.length:Int)
  rotate_left
  .rw[if_neg c6]at H
   cases H
  rw[if_pos c6]at H
  have c6b0:=eq_true c6
  have c6b1:=decide_eq_true c6
  clear c6
  replace H:=Option.bind_eq_some_iff.mp H
  obtain⟨⟨t554,t555,t556⟩,A70,H⟩:=H
  try dsimp only at H
  have A7:=Aside0.mk A70
  clear A70
  by_cases c8:t556=0
  rotate_left
  .rw[if_neg c8]at H
   have c8b0:=beq_eq_false_iff_ne.mpr c8
   have c8b1:=bne_iff_ne.mpr c8
   simp only[Option.some.injEq,Prod.mk.injEq]at H
   obtain⟨rfl,rfl,rfl⟩:=H
   obtain⟨ASz22_0,cSz22_0,HGz22,hgz22,HSz22_0⟩:=HI0.out
   have hcz22_0:=cellS72_0 HGz22
   have hcz22_1:=cellS72_1 HGz22
   have hcz22_2:=cellS72_2 HGz22
   have hfz22_1:=blk_frozen HGz22 1
   have hfz22_2:=blk_frozen HGz22 2
   clear HGz22 hgz22
   go_enter Try.func60,Try.ntmps60
   try go_wp2
   have n0_:=Aside0.mk (IsS72.drew HI0.out)
   have n1_:=Aside0.mk (keep_drew HK.out)
   have n2_:=Aside0.mk (pb1_ HB.out)
   clear HI0
   clear HK
   clear HB
   have HI0:=n0_
   have HK:=n1_
   have HB:=n2_
   clear n0_ n1_ n2_
   obtain⟨ASz24_0,cSz24_0,HGz24,hgz24,HSz24_0⟩:=HI0.out
   have hcz24_0:=cellS72_0 HGz24
   have hcz24_1:=cellS72_1 HGz24
   have hcz24_2:=cellS72_2 HGz24
   have hfz24_1:=blk_frozen HGz24 1
   have hfz24_2:=blk_frozen HGz24 2
   clear HGz24 hgz24
   obtain⟨i025,hi025,_,hsz25,_⟩:=info_parts info5
   obtain⟨A25,hcut25,hA25,hC25⟩:=print_drop_of (P:=Try.prog) (Value.int .u8) 0 22 5 .i64 Try.underlying22 hi025 hsz25 ASz24_0 cSz24_0 s0_0 s0_1 od_ od_ HSz24_0.2
   have HR553:=Aside0.mk (Kd.C_below (Kd.C_of_reads (h1:=fun _=>rfl) (hA25 _ (Kd.reads_of_C HSz24_0.1))) HBE.out)
   have HC553:=Aside0.mk hC25
   have hf553:=Kd.far_C 0 (Kd.C_of_reads (h1:=fun _=>rfl) (hA25 _ (Kd.reads_of_C HSz24_0.1))) (IsS72.ge HI0.out)
   clear hA25 hC25 hi025 hsz25
   refine start_ (n:=17) (S:=fun w'=>w'.cell? ⟨g,0,none⟩=some (.slice ASz24_0 s0_0.length cSz24_0)∧w'.cell? ⟨g,1,none⟩=some (.int .i64 s0_1)∧w'.cell? ⟨g,2,none⟩=some (.bool false)) (ds:=[]) #[false,false,false,false,false,false,false,false,false,false,false,false,false,false,false,false,false] (by kernel_rfl) rfl rfl ⟨hcz24_0,hcz24_1,hcz24_2⟩ (fun hHeld=>?_);refine with_tabW dragnetref02_Reader_Number.tab3 dragnetref02_Reader_Number.bits3 (fun HT_ HW_=>?_)
   generalize w.drew=w23 at HI0 HK HB HR553 hHeld ⊢
   refine pv_ (i:=0) (N:=some 13) HT_ ?_
   refine pv_ (i:=1) (N:=some 14) HT_ ?_
   refine pv_ (i:=2) (N:=some 15) HT_ ?_
   refine pv_ (i:=4) (N:=some 17) HT_ ?_
   refine pv_ (i:=5) (N:=some 18) HT_ ?_
   refine pv_ (i:=6) (N:=some 19) HT_ ?_
   refine tv_ (i:=3) (N:=some 16) HT_ HW_ hHeld ?_
   refine tv_ (i:=7) (N:=some 20) HT_ HW_ hHeld ?_
   refine pv_ (i:=8) (N:=some 21) HT_ ?_
   refine one_ (i:=9) (N:=some 22) #[tT,tT,tT,tT,tT,tT,tT,tT,tT,tT,fF,fF,fF,fF,fF,fF,fF] rfl rfl (one_of HT_.out (by kernel_rfl)) (by decide) (fun K hK=>?_)
   refine goes_ Try.func71 (by kernel_rfl) rfl #[.slice A25 (s0_0.drop (s0_1:Int).toNat).length (cSz24_0 - s0_1.toNat)] (by rfl) rfl rfl (by(try simp only[List.map_toArray,List.map_cons,List.map_nil]);first|done|(rw[show(s0_0.drop (s0_1:Int).toNat).length=(s0_0.length - s0_1.toNat) from List.length_drop]<;>rfl)|rfl|(simp only[List.length_drop,List.length_take];rfl)) ?_
   with_reducible refine(dragnetref02_Take.calls k _ _ (s0_0.drop (s0_1:Int).toNat) t554 t555 t556 _ ?side1 ?side2 A7.out).mono ?_
   (case side1=>exact Kd.C_keep 0 HR553.out (by repeat(first|(with_reducible first|exact HK.out|apply KeepBut.set_|apply keep_drewN|apply keep_drew|apply keep_alloc)|exact HK.out)) hf553)
   (case side2=>exact HC553.out)
   rintro e w26 ⟨rfl,hb⟩
   have HS0_:=(hb.cell (World.block_lt_of_cell? _ _ (hHeld.1))).trans (hHeld.1)
   have HS1_:=(hb.cell (World.block_lt_of_cell? _ _ (hHeld.2.1))).trans (hHeld.2.1)
   have HS2_:=(hb.cell (World.block_lt_of_cell? _ _ (hHeld.2.2))).trans (hHeld.2.2)
   refine⟨_,rfl,?_⟩
   have n0_:=Aside0.mk (IsS72.below (isu72_ HI0.out) hb)
   have n1_:=Aside0.mk (KeepBut.trans (by repeat(first|(with_reducible first|exact HK.out|apply KeepBut.set_|apply keep_drewN|apply keep_drew|apply keep_alloc)|exact HK.out)) (KeepBut.of_below hb g none) (.inl rfl))
   have n2_:=Aside0.mk (below_step bs72_ hb)
   clear HI0
   clear HK
   clear HB
   have HI0:=n0_
   have HK:=n1_
   have HB:=n2_
   clear n0_ n1_ n2_
   clear hb
   refine hK.out _ _ ⟨HS0_,HS1_,HS2_⟩ (fun hHeld=>?_)
   clear hK K
   refine norm_ (a':=?_) ?_ ?_
   rotate_left
   .show Act.put _ (some 22) _=_
    simp only[Act.put,List.setIfInBounds_toArray,List.set_cons_zero,List.set_cons_succ,i64_w,i32_w]
    rfl
   refine pv_ (i:=10) (N:=some 12) HT_ ?_
   refine pv_ (i:=11) (N:=some 23) HT_ ?_
   refine pv_ (i:=12) (N:=some 24) HT_ ?_
   refine pv_ (i:=13) (N:=some 25) HT_ ?_
   refine pv_ (i:=14) (N:=some 5) HT_ ?_
   refine pv_ (i:=15) (N:=some 6) HT_ ?_
   refine pv_ (i:=16) (N:=some 7) HT_ ?_
   refine done_ (done_of HT_.out (by kernel_rfl)) ?_
   obtain⟨ASz27_0,cSz27_0,HGz27,hgz27,HSz27_0⟩:=HI0.out
   have hcz27_0:=cellS72_0 HGz27
   have hcz27_1:=cellS72_1 HGz27
   have hcz27_2:=cellS72_2 HGz27
   have hfz27_1:=blk_frozen HGz27 1
   have hfz27_2:=blk_frozen HGz27 2
   clear HGz27 hgz27
   try go_wp2
   go_ret
   exact⟨rf_,by first|((repeat(first|(with_reducible first|exact HI0.out|apply IsS72.alloc|apply IsS72.drewN|apply IsS72.drew|apply IsS72.set_1|apply IsS72.set_2)|exact HI0.out));done)|((try simp only[gt_iff_lt,ge_iff_le]);(try simp only[c8b0]);repeat(first|(with_reducible first|exact HI0.out|apply IsS72.alloc|apply IsS72.drewN|apply IsS72.drew|apply IsS72.set_1|apply IsS72.set_2)|exact HI0.out)),bs72_,by repeat(first|(with_reducible first|exact HK.out|apply KeepBut.set_|apply keep_drewN|apply keep_drew|apply keep_alloc)|exact HK.out)⟩
  rw[if_pos c8]at H
  have c8b0:=beq_iff_eq.mpr c8
  have c8b1:=bne_eq_false_iff_eq.mpr c8
  clear c8
  by_cases c9:t554 > a1
  rotate_left
  .rw[if_neg c9]at H
   have c9b0:=decide_eq_false c9
   clear c9
   simp only[Option.some.injEq,Prod.mk.injEq]at H
   obtain⟨rfl,rfl,rfl⟩:=H
   obtain⟨ASz16_0,cSz16_0,HGz16,hgz16,HSz16_0⟩:=HI0.out
   have hcz16_0:=cellS72_0 HGz16
   have hcz16_1:=cellS72_1 HGz16
   have hcz16_2:=cellS72_2 HGz16
   have hfz16_1:=blk_frozen HGz16 1
   have hfz16_2:=blk_frozen HGz16 2
   clear HGz16 hgz16
   go_enter Try.func60,Try.ntmps60
   try go_wp2
   have n0_:=Aside0.mk (IsS72.drew HI0.out)
   have n1_:=Aside0.mk (keep_drew HK.out)
   have n2_:=Aside0.mk (pb1_ HB.out)
   clear HI0
   clear HK
   clear HB
   have HI0:=n0_
   have HK:=n1_
   have HB:=n2_
   clear n0_ n1_ n2_
   obtain⟨ASz18_0,cSz18_0,HGz18,hgz18,HSz18_0⟩:=HI0.out
   have hcz18_0:=cellS72_0 HGz18
   have hcz18_1:=cellS72_1 HGz18
   have hcz18_2:=cellS72_2 HGz18
   have hfz18_1:=blk_frozen HGz18 1
   have hfz18_2:=blk_frozen HGz18 2
   clear HGz18 hgz18
   obtain⟨i019,hi019,_,hsz19,_⟩:=info_parts info5
   obtain⟨A19,hcut19,hA19,hC19⟩:=print_drop_of (P:=Try.prog) (Value.int .u8) 0 22 5 .i64 Try.underlying22 hi019 hsz19 ASz18_0 cSz18_0 s0_0 s0_1 od_ od_ HSz18_0.2
   have HR553:=Aside0.mk (Kd.C_below (Kd.C_of_reads (h1:=fun _=>rfl) (hA19 _ (Kd.reads_of_C HSz18_0.1))) HBE.out)
   have HC553:=Aside0.mk hC19
   have hf553:=Kd.far_C 0 (Kd.C_of_reads (h1:=fun _=>rfl) (hA19 _ (Kd.reads_of_C HSz18_0.1))) (IsS72.ge HI0.out)
   clear hA19 hC19 hi019 hsz19
   refine start_ (n:=17) (S:=fun w'=>w'.cell? ⟨g,0,none⟩=some (.slice ASz18_0 s0_0.length cSz18_0)∧w'.cell? ⟨g,1,none⟩=some (.int .i64 s0_1)∧w'.cell? ⟨g,2,none⟩=some (.bool false)) (ds:=[]) #[false,false,false,false,false,false,false,false,false,false,false,false,false,false,false,false,false] (by kernel_rfl) rfl rfl ⟨hcz18_0,hcz18_1,hcz18_2⟩ (fun hHeld=>?_);refine with_tabW dragnetref02_Reader_Number.tab3 dragnetref02_Reader_Number.bits3 (fun HT_ HW_=>?_)
   generalize w.drew=w17 at HI0 HK HB HR553 hHeld ⊢
   refine pv_ (i:=0) (N:=some 13) HT_ ?_
   refine pv_ (i:=1) (N:=some 14) HT_ ?_
   refine pv_ (i:=2) (N:=some 15) HT_ ?_
   refine pv_ (i:=4) (N:=some 17) HT_ ?_
   refine pv_ (i:=5) (N:=some 18) HT_ ?_
   refine pv_ (i:=6) (N:=some 19) HT_ ?_
   refine tv_ (i:=3) (N:=some 16) HT_ HW_ hHeld ?_
   refine tv_ (i:=7) (N:=some 20) HT_ HW_ hHeld ?_
   refine pv_ (i:=8) (N:=some 21) HT_ ?_
   refine one_ (i:=9) (N:=some 22) #[tT,tT,tT,tT,tT,tT,tT,tT,tT,tT,fF,fF,fF,fF,fF,fF,fF] rfl rfl (one_of HT_.out (by kernel_rfl)) (by decide) (fun K hK=>?_)
   refine goes_ Try.func71 (by kernel_rfl) rfl #[.slice A19 (s0_0.drop (s0_1:Int).toNat).length (cSz18_0 - s0_1.toNat)] (by rfl) rfl rfl (by(try simp only[List.map_toArray,List.map_cons,List.map_nil]);first|done|(rw[show(s0_0.drop (s0_1:Int).toNat).length=(s0_0.length - s0_1.toNat) from List.length_drop]<;>rfl)|rfl|(simp only[List.length_drop,List.length_take];rfl)) ?_
   with_reducible refine(dragnetref02_Take.calls k _ _ (s0_0.drop (s0_1:Int).toNat) t554 t555 t556 _ ?side1 ?side2 A7.out).mono ?_
   (case side1=>exact Kd.C_keep 0 HR553.out (by repeat(first|(with_reducible first|exact HK.out|apply KeepBut.set_|apply keep_drewN|apply keep_drew|apply keep_alloc)|exact HK.out)) hf553)
   (case side2=>exact HC553.out)
   rintro e w20 ⟨rfl,hb⟩
   have HS0_:=(hb.cell (World.block_lt_of_cell? _ _ (hHeld.1))).trans (hHeld.1)
   have HS1_:=(hb.cell (World.block_lt_of_cell? _ _ (hHeld.2.1))).trans (hHeld.2.1)
   have HS2_:=(hb.cell (World.block_lt_of_cell? _ _ (hHeld.2.2))).trans (hHeld.2.2)
   refine⟨_,rfl,?_⟩
   have n0_:=Aside0.mk (IsS72.below (isu72_ HI0.out) hb)
   have n1_:=Aside0.mk (KeepBut.trans (by repeat(first|(with_reducible first|exact HK.out|apply KeepBut.set_|apply keep_drewN|apply keep_drew|apply keep_alloc)|exact HK.out)) (KeepBut.of_below hb g none) (.inl rfl))
   have n2_:=Aside0.mk (below_step bs72_ hb)
   clear HI0
   clear HK
   clear HB
   have HI0:=n0_
   have HK:=n1_
   have HB:=n2_
   clear n0_ n1_ n2_
   clear hb
   refine hK.out _ _ ⟨HS0_,HS1_,HS2_⟩ (fun hHeld=>?_)
   clear hK K
   refine norm_ (a':=?_) ?_ ?_
   rotate_left
   .show Act.put _ (some 22) _=_
    simp only[Act.put,List.setIfInBounds_toArray,List.set_cons_zero,List.set_cons_succ,i64_w,i32_w]
    rfl
   refine pv_ (i:=10) (N:=some 12) HT_ ?_
   refine pv_ (i:=11) (N:=some 23) HT_ ?_
   refine pv_ (i:=12) (N:=some 24) HT_ ?_
   refine pv_ (i:=13) (N:=some 25) HT_ ?_
   refine pv_ (i:=14) (N:=some 5) HT_ ?_
   refine pv_ (i:=15) (N:=some 6) HT_ ?_
   refine pv_ (i:=16) (N:=some 7) HT_ ?_
   refine done_ (done_of HT_.out (by kernel_rfl)) ?_
   obtain⟨ASz21_0,cSz21_0,HGz21,hgz21,HSz21_0⟩:=HI0.out
   have hcz21_0:=cellS72_0 HGz21
   have hcz21_1:=cellS72_1 HGz21
   have hcz21_2:=cellS72_2 HGz21
   have hfz21_1:=blk_frozen HGz21 1
   have hfz21_2:=blk_frozen HGz21 2
   clear HGz21 hgz21
   try go_wp2
   go_ret
   exact⟨rf_,by first|((repeat(first|(with_reducible first|exact HI0.out|apply IsS72.alloc|apply IsS72.drewN|apply IsS72.drew|apply IsS72.set_1|apply IsS72.set_2)|exact HI0.out));done)|((try simp only[gt_iff_lt,ge_iff_le]);(try simp only[c8b0]);(try simp only[c9b0]);repeat(first|(with_reducible first|exact HI0.out|apply IsS72.alloc|apply IsS72.drewN|apply IsS72.drew|apply IsS72.set_1|apply IsS72.set_2)|exact HI0.out)),bs72_,by repeat(first|(with_reducible first|exact HK.out|apply KeepBut.set_|apply keep_drewN|apply keep_drew|apply keep_alloc)|exact HK.out)⟩
  rw[if_pos c9]at H
  have c9b0:=decide_eq_true c9
  clear c9
  simp only[Option.some.injEq,Prod.mk.injEq]at H
  obtain⟨rfl,rfl,rfl⟩:=H
  obtain⟨ASz10_0,cSz10_0,HGz10,hgz10,HSz10_0⟩:=HI0.out
  have hcz10_0:=cellS72_0 HGz10
  have hcz10_1:=cellS72_1 HGz10
  have hcz10_2:=cellS72_2 HGz10
  have hfz10_1:=blk_frozen HGz10 1
  have hfz10_2:=blk_frozen HGz10 2
  clear HGz10 hgz10
  go_enter Try.func60,Try.ntmps60
  try go_wp2
  have n0_:=Aside0.mk (IsS72.drew HI0.out)
  have n1_:=Aside0.mk (keep_drew HK.out)
  have n2_:=Aside0.mk (pb1_ HB.out)
  clear HI0
  clear HK
  clear HB
  have HI0:=n0_
  have HK:=n1_
  have HB:=n2_
  clear n0_ n1_ n2_
  obtain⟨ASz12_0,cSz12_0,HGz12,hgz12,HSz12_0⟩:=HI0.out
  have hcz12_0:=cellS72_0 HGz12
  have hcz12_1:=cellS72_1 HGz12
  have hcz12_2:=cellS72_2 HGz12
  have hfz12_1:=blk_frozen HGz12 1
  have hfz12_2:=blk_frozen HGz12 2
  clear HGz12 hgz12
  obtain⟨i013,hi013,_,hsz13,_⟩:=info_parts info5
  obtain⟨A13,hcut13,hA13,hC13⟩:=print_drop_of (P:=Try.prog) (Value.int .u8) 0 22 5 .i64 Try.underlying22 hi013 hsz13 ASz12_0 cSz12_0 s0_0 s0_1 od_ od_ HSz12_0.2
  have HR553:=Aside0.mk (Kd.C_below (Kd.C_of_reads (h1:=fun _=>rfl) (hA13 _ (Kd.reads_of_C HSz12_0.1))) HBE.out)
  have HC553:=Aside0.mk hC13
  have hf553:=Kd.far_C 0 (Kd.C_of_reads (h1:=fun _=>rfl) (hA13 _ (Kd.reads_of_C HSz12_0.1))) (IsS72.ge HI0.out)
  clear hA13 hC13 hi013 hsz13
  refine start_ (n:=17) (S:=fun w'=>w'.cell? ⟨g,0,none⟩=some (.slice ASz12_0 s0_0.length cSz12_0)∧w'.cell? ⟨g,1,none⟩=some (.int .i64 s0_1)∧w'.cell? ⟨g,2,none⟩=some (.bool false)) (ds:=[]) #[false,false,false,false,false,false,false,false,false,false,false,false,false,false,false,false,false] (by kernel_rfl) rfl rfl ⟨hcz12_0,hcz12_1,hcz12_2⟩ (fun hHeld=>?_);refine with_tabW dragnetref02_Reader_Number.tab3 dragnetref02_Reader_Number.bits3 (fun HT_ HW_=>?_)
  generalize w.drew=w11 at HI0 HK HB HR553 hHeld ⊢
  refine pv_ (i:=0) (N:=some 13) HT_ ?_
  refine pv_ (i:=1) (N:=some 14) HT_ ?_
  refine pv_ (i:=2) (N:=some 15) HT_ ?_
  refine pv_ (i:=4) (N:=some 17) HT_ ?_
  refine pv_ (i:=5) (N:=some 18) HT_ ?_
  refine pv_ (i:=6) (N:=some 19) HT_ ?_
  refine tv_ (i:=3) (N:=some 16) HT_ HW_ hHeld ?_
  refine tv_ (i:=7) (N:=some 20) HT_ HW_ hHeld ?_
  refine pv_ (i:=8) (N:=some 21) HT_ ?_
  refine one_ (i:=9) (N:=some 22) #[tT,tT,tT,tT,tT,tT,tT,tT,tT,tT,fF,fF,fF,fF,fF,fF,fF] rfl rfl (one_of HT_.out (by kernel_rfl)) (by decide) (fun K hK=>?_)
  refine goes_ Try.func71 (by kernel_rfl) rfl #[.slice A13 (s0_0.drop (s0_1:Int).toNat).length (cSz12_0 - s0_1.toNat)] (by rfl) rfl rfl (by(try simp only[List.map_toArray,List.map_cons,List.map_nil]);first|done|(rw[show(s0_0.drop (s0_1:Int).toNat).length=(s0_0.length - s0_1.toNat) from List.length_drop]<;>rfl)|rfl|(simp only[List.length_drop,List.length_take];rfl)) ?_
  with_reducible refine(dragnetref02_Take.calls k _ _ (s0_0.drop (s0_1:Int).toNat) t554 t555 t556 _ ?side1 ?side2 A7.out).mono ?_
  (case side1=>exact Kd.C_keep 0 HR553.out (by repeat(first|(with_reducible first|exact HK.out|apply KeepBut.set_|apply keep_drewN|apply keep_drew|apply keep_alloc)|exact HK.out)) hf553)
  (case side2=>exact HC553.out)
  rintro e w14 ⟨rfl,hb⟩
  have HS0_:=(hb.cell (World.block_lt_of_cell? _ _ (hHeld.1))).trans (hHeld.1)
  have HS1_:=(hb.cell (World.block_lt_of_cell? _ _ (hHeld.2.1))).trans (hHeld.2.1)
  have HS2_:=(hb.cell (World.block_lt_of_cell? _ _ (hHeld.2.2))).trans (hHeld.2.2)
  refine⟨_,rfl,?_⟩
  have n0_:=Aside0.mk (IsS72.below (isu72_ HI0.out) hb)
  have n1_:=Aside0.mk (KeepBut.trans (by repeat(first|(with_reducible first|exact HK.out|apply KeepBut.set_|apply keep_drewN|apply keep_drew|apply keep_alloc)|exact HK.out)) (KeepBut.of_below hb g none) (.inl rfl))
  have n2_:=Aside0.mk (below_step bs72_ hb)
  clear HI0
  clear HK
  clear HB
  have HI0:=n0_
  have HK:=n1_
  have HB:=n2_
  clear n0_ n1_ n2_
  clear hb
  refine hK.out _ _ ⟨HS0_,HS1_,HS2_⟩ (fun hHeld=>?_)
  clear hK K
  refine norm_ (a':=?_) ?_ ?_
  rotate_left
  .show Act.put _ (some 22) _=_
   simp only[Act.put,List.setIfInBounds_toArray,List.set_cons_zero,List.set_cons_succ,i64_w,i32_w]
   rfl
  refine pv_ (i:=10) (N:=some 12) HT_ ?_
  refine pv_ (i:=11) (N:=some 23) HT_ ?_
  refine pv_ (i:=12) (N:=some 24) HT_ ?_
  refine pv_ (i:=13) (N:=some 25) HT_ ?_
  refine pv_ (i:=14) (N:=some 5) HT_ ?_
  refine pv_ (i:=15) (N:=some 6) HT_ ?_
  refine pv_ (i:=16) (N:=some 7) HT_ ?_
  refine done_ (done_of HT_.out (by kernel_rfl)) ?_
  obtain⟨ASz15_0,cSz15_0,HGz15,hgz15,HSz15_0⟩:=HI0.out
  have hcz15_0:=cellS72_0 HGz15
  have hcz15_1:=cellS72_1 HGz15
  have hcz15_2:=cellS72_2 HGz15
  have hfz15_1:=blk_frozen HGz15 1
  have hfz15_2:=blk_frozen HGz15 2
  clear HGz15 hgz15
  try go_wp2
  go_ret
  exact⟨rf_,by first|((repeat(first|(with_reducible first|exact HI0.out|apply IsS72.alloc|apply IsS72.drewN|apply IsS72.drew|apply IsS72.set_1|apply IsS72.set_2)|exact HI0.out));done)|((try simp only[gt_iff_lt,ge_iff_le]);(try simp only[c8b0]);(try simp only[c9b0]);repeat(first|(with_reducible first|exact HI0.out|apply IsS72.alloc|apply IsS72.drewN|apply IsS72.drew|apply IsS72.set_1|apply IsS72.set_2)|exact HI0.out)),bs72_,by repeat(first|(with_reducible first|exact HK.out|apply KeepBut.set_|apply keep_drewN|apply keep_drew|apply keep_alloc)|exact HK.out)⟩
def dragnetref02_Reader_Count.f (k:Nat) (s0_0:List Int) (s0_1:Int) (s0_2:Bool) (a1:Int):Option (Int×Int×Bool):=(dragnetref02_Reader_Number.f k s0_0 s0_1 s0_2 (IntKind.u64.wrap (a1))).bind fun bt557=>(some (wrap64 (bt557.1),bt557.2.1,bt557.2.2))
theorem dragnetref02_Reader_Count.mono:∀ a0 a1 a2 a3 k,LeO (dragnetref02_Reader_Count.f k a0 a1 a2 a3) (dragnetref02_Reader_Count.f (k+1) a0 a1 a2 a3):=by
 intro a0 a1 a2 a3 k
 unfold dragnetref02_Reader_Count.f
 repeat' first
   |(with_reducible exact dragnetref02_Reader_Number.mono _ _ _ _ _)
   |(with_reducible exact LeO.refl _)
   |(with_reducible exact LeO.none _)
   |(with_reducible refine LeO.ite ?_ ?_)
   |(with_reducible refine LeO.bind ?_ (fun _=>?_))
set_option maxHeartbeats 8000000 in
set_option maxRecDepth 100000 in
theorem dragnetref02_Reader_Count.calls (k:Nat) (g:Nat) (s0_0:List Int) (s0_1:Int) (s0_2:Bool) (a1:Int) (r1:Int) (r2:Int) (r3:Bool) (w0 w:World) (hI:IsS72 w0 w g s0_0 s0_1 s0_2) (hB:Below w0.heap.size w0 w) (h:dragnetref02_Reader_Count.f k s0_0 s0_1 s0_2 a1=some (r1,r2,r3)):
  Calls Try.prog 38 #[.pointer (some ⟨g,0,none⟩),.int .i64 a1] w fun e w'=>e= .returned (.int .i64 r1)∧IsS72 w0 w' g s0_0 r2 r3∧Below w0.heap.size w0 w'∧KeepBut w w' g none:=by
 have HI0:=Aside0.mk hI
 have HK:=Aside0.mk (KeepBut.refl w g none)
 have HL:=Aside0.mk hB.size
 clear hI
 have HW0:=Aside0.mk hB.size
 have HB:=Aside0.mk hB
 have HBE:=Aside0.mk hB
 clear hB
 have H:((dragnetref02_Reader_Number.f k s0_0 s0_1 s0_2 (IntKind.u64.wrap (a1))).bind fun bt557=>(some (wrap64 (bt557.1),bt557.2.1,bt557.2.2)))=some (r1,r2,r3):=h
 clear h
 replace H:=Option.bind_eq_some_iff.mp H
 obtain⟨⟨t557,t558,t559⟩,A30,H⟩:=H
 try dsimp only at H
 have A3:=Aside0.mk A30
 clear A30
 simp only[Option.some.injEq,Prod.mk.injEq]at H
 obtain⟨rfl,rfl,rfl⟩:=H
 go_enter Try.func38,Try.ntmps38
 go_wp2_with (first|((with_reducible refine gaC_ (f:=60) rfl ?_);refine goesL_ (some 8) rfl rfl Try.func60 (by kernel_rfl) rfl #[.pointer (some ⟨g,0,none⟩),.int .u64 (IntKind.u64.wrap (a1))] rfl am_ ?_;(with_reducible refine(dragnetref02_Reader_Number.calls k g s0_0 s0_1 s0_2 (IntKind.u64.wrap (a1)) t557 t558 t559 w0 _ ?side1 ?side2 A3.out).mono ?_);(case side1=>exact isu72_ HI0.out);(case side2=>repeat(first|(with_reducible first|exact HB.out|apply pbA_|apply pbN_|apply pb1_|refine below_set ?_ (IsS72.ge HI0.out))|exact HB.out));rintro e w4 ⟨rfl,hi,hb,hk⟩;refine⟨_,rfl,?_⟩;replace HK:=Aside0.mk (KeepBut.trans (by repeat(first|(with_reducible first|exact HK.out|apply KeepBut.set_|apply keep_drewN|apply keep_drew|apply keep_alloc)|exact HK.out)) hk (.inl rfl));replace HB:=Aside0.mk (hb);replace HI0:=Aside0.mk (hi)))
 go_ret
 exact⟨rf_,by repeat(first|(with_reducible first|exact HI0.out|apply IsS72.alloc|apply IsS72.drewN|apply IsS72.drew|apply IsS72.set_1|apply IsS72.set_2)|exact HI0.out),bs72_,by repeat(first|(with_reducible first|exact HK.out|apply KeepBut.set_|apply keep_drewN|apply keep_drew|apply keep_alloc)|exact HK.out)⟩
noncomputable def dragnetref02_TakeRow.f (k:Nat) (l0:List Int) (a1:Int):Option (List Int×Int×Int):=if a1 < 0 then(some (([]:List Int),0,1))else((dragnetref02_Take.f k l0).bind fun bt560=>(if bt560.2.2=0 then(if bt560.1 > (IntKind.u64.wrap (a1))then(some (([]:List Int),0,5))else(if(wrap64 (bt560.1)) > (wrap64 ((l0.length:Int) - bt560.2.1))then(some (([]:List Int),0,3))else(if 0<=bt560.2.1 then(if bt560.2.1<=(wrap64 (bt560.2.1+(wrap64 (bt560.1))))then(if(wrap64 (bt560.2.1+(wrap64 (bt560.1))))<=(l0.length:Int)then((dragnetref01_Copy.f ((l0.take ((wrap64 (bt560.2.1+(wrap64 (bt560.1)))):Int).toNat).drop (bt560.2.1:Int).toNat)).bind fun t564=>(some (t564,wrap64 (bt560.2.1+(wrap64 (bt560.1))),0)))else(none))else(none))else(none))))else(some (([]:List Int),0,bt560.2.2))))
theorem dragnetref02_TakeRow.mono:∀ a0 a1 k,LeO (dragnetref02_TakeRow.f k a0 a1) (dragnetref02_TakeRow.f (k+1) a0 a1):=by
 intro a0 a1 k
 unfold dragnetref02_TakeRow.f
 repeat' first
   |(with_reducible exact dragnetref02_Take.mono _ _)
   |(with_reducible exact LeO.refl _)
   |(with_reducible exact LeO.none _)
   |(with_reducible refine LeO.ite ?_ ?_)
   |(with_reducible refine LeO.bind ?_ (fun _=>?_))
set_option maxHeartbeats 8000000 in
set_option maxRecDepth 100000 in
theorem dragnetref02_TakeRow.calls (k:Nat) (A0:Option Addr) (c0:Nat) (l0:List Int) (a1:Int) (r1:List Int) (r2:Int) (r3:Int) (w:World) (hr0:Kd.C (Kd.int .u8) w A0 l0.length l0) (hc0:l0.length<=c0) (h:dragnetref02_TakeRow.f k l0 a1=some (r1,r2,r3)):
  Calls Try.prog 72 #[.slice A0 l0.length c0,.int .i64 a1] w fun e w'=>∃ v0_:Value,e= .returned (.tuple #[v0_,.int .i64 r2,.int .i64 r3])∧Kd.R (Kd.int .u8) 5 w' w.heap.size (fun _=>True) v0_ r1∧Below w.heap.size w w':=by
 have HR0:=Aside0.mk hr0
 have HC0:=Aside0.mk hc0
 clear hr0 hc0
 have HB:=Aside0.mk (Below.refl w.heap.size w)
 have H:(if a1 < 0 then(some (([]:List Int),0,1))else((dragnetref02_Take.f k l0).bind fun bt560=>(if bt560.2.2=0 then(if bt560.1 > (IntKind.u64.wrap (a1))then(some (([]:List Int),0,5))else(if(wrap64 (bt560.1)) > (wrap64 ((l0.length:Int) - bt560.2.1))then(some (([]:List Int),0,3))else(if 0<=bt560.2.1 then(if bt560.2.1<=(wrap64 (bt560.2.1+(wrap64 (bt560.1))))then(if(wrap64 (bt560.2.1+(wrap64 (bt560.1))))<=(l0.length:Int)then((dragnetref01_Copy.f ((l0.take ((wrap64 (bt560.2.1+(wrap64 (bt560.1)))):Int).toNat).drop (bt560.2.1:Int).toNat)).bind fun t564=>(some (t564,wrap64 (bt560.2.1+(wrap64 (bt560.1))),0)))else(none))else(none))else(none))))else(some (([]:List Int),0,bt560.2.2)))))=some (r1,r2,r3):=h
 clear h
 by_cases c3:a1 < 0
 .rw[if_pos c3]at H
  have c3b0:=decide_eq_true c3
  clear c3
  simp only[Option.some.injEq,Prod.mk.injEq]at H
  obtain⟨rfl,rfl,rfl⟩:=H
  go_enter Try.func72,Try.ntmps72
  go_wp2
  go_ret3
  exact⟨_,rf_,ni_,bw_⟩
 .rw[if_neg c3]at H
  have c3b0:=decide_eq_false c3
  clear c3
  replace H:=Option.bind_eq_some_iff.mp H
  obtain⟨⟨t560,t561,t562⟩,A40,H⟩:=H
  try dsimp only at H
  have A4:=Aside0.mk A40
  clear A40
  by_cases c5:t562=0
  rotate_left
  .rw[if_neg c5]at H
   have c5b0:=beq_eq_false_iff_ne.mpr c5
   have c5b1:=bne_iff_ne.mpr c5
   simp only[Option.some.injEq,Prod.mk.injEq]at H
   obtain⟨rfl,rfl,rfl⟩:=H
   go_enter Try.func72,Try.ntmps72
   go_wp2_with (first|((with_reducible refine gaC_ (f:=71) rfl ?_);refine goesL_ (some 14) rfl rfl Try.func71 (by kernel_rfl) rfl #[.slice A0 l0.length c0] rfl am_ ?_;(with_reducible refine(dragnetref02_Take.calls k _ _ l0 t560 t561 t562 _ ?side1 ?side2 A4.out).mono ?_);(case side1=>exact Kd.cu_ HR0.out);(case side2=>exact HC0.out);rintro e w17 ⟨rfl,hb⟩;refine⟨_,rfl,?_⟩;replace HB:=Aside0.mk (below_step bw_ hb)))
   go_ret3
   exact⟨_,rf_,ni_,bw_⟩
  rw[if_pos c5]at H
  have c5b0:=beq_iff_eq.mpr c5
  have c5b1:=bne_eq_false_iff_eq.mpr c5
  clear c5
  by_cases c6:t560 > (IntKind.u64.wrap (a1))
  .rw[if_pos c6]at H
   have c6b0:=decide_eq_true c6
   clear c6
   simp only[Option.some.injEq,Prod.mk.injEq]at H
   obtain⟨rfl,rfl,rfl⟩:=H
   go_enter Try.func72,Try.ntmps72
   go_wp2_with (first|((with_reducible refine gaC_ (f:=71) rfl ?_);refine goesL_ (some 14) rfl rfl Try.func71 (by kernel_rfl) rfl #[.slice A0 l0.length c0] rfl am_ ?_;(with_reducible refine(dragnetref02_Take.calls k _ _ l0 t560 t561 t562 _ ?side1 ?side2 A4.out).mono ?_);(case side1=>exact Kd.cu_ HR0.out);(case side2=>exact HC0.out);rintro e w7 ⟨rfl,hb⟩;refine⟨_,rfl,?_⟩;replace HB:=Aside0.mk (below_step bw_ hb)))
   go_ret3
   exact⟨_,rf_,ni_,bw_⟩
  .rw[if_neg c6]at H
   have c6b0:=decide_eq_false c6
   clear c6
   by_cases c8:(wrap64 (t560)) > (wrap64 ((l0.length:Int) - t561))
   .rw[if_pos c8]at H
    have c8b0:=decide_eq_true c8
    clear c8
    simp only[Option.some.injEq,Prod.mk.injEq]at H
    obtain⟨rfl,rfl,rfl⟩:=H
    go_enter Try.func72,Try.ntmps72
    go_wp2_with (first|((with_reducible refine gaC_ (f:=71) rfl ?_);refine goesL_ (some 14) rfl rfl Try.func71 (by kernel_rfl) rfl #[.slice A0 l0.length c0] rfl am_ ?_;(with_reducible refine(dragnetref02_Take.calls k _ _ l0 t560 t561 t562 _ ?side1 ?side2 A4.out).mono ?_);(case side1=>exact Kd.cu_ HR0.out);(case side2=>exact HC0.out);rintro e w9 ⟨rfl,hb⟩;refine⟨_,rfl,?_⟩;replace HB:=Aside0.mk (below_step bw_ hb)))
    go_ret3
    exact⟨_,rf_,ni_,bw_⟩
   .rw[if_neg c8]at H
    have c8b0:=decide_eq_false c8
    clear c8
    by_cases c10:0<=t561
    rotate_left
    .rw[if_neg c10]at H
     cases H
    rw[if_pos c10]at H
    have c10b0:=eq_true c10
    have c10b1:=decide_eq_true c10
    clear c10
    by_cases c11:t561<=(wrap64 (t561+(wrap64 (t560))))
    rotate_left
    .rw[if_neg c11]at H
     cases H
    rw[if_pos c11]at H
    have c11b0:=eq_true c11
    have c11b1:=decide_eq_true c11
    by_cases c12:(wrap64 (t561+(wrap64 (t560))))<=(l0.length:Int)
    rotate_left
    .rw[if_neg c12]at H
     cases H
    rw[if_pos c12]at H
    have c12b0:=eq_true c12
    have c12b1:=decide_eq_true c12
    replace H:=Option.bind_eq_some_iff.mp H
    obtain⟨t564,A130,H⟩:=H
    try dsimp only at H
    have A13:=Aside0.mk A130
    clear A130
    simp only[Option.some.injEq,Prod.mk.injEq]at H
    obtain⟨rfl,rfl,rfl⟩:=H
    go_enter Try.func72,Try.ntmps72
    go_wp2_with (first|((with_reducible refine gaC_ (f:=71) rfl ?_);refine goesL_ (some 14) rfl rfl Try.func71 (by kernel_rfl) rfl #[.slice A0 l0.length c0] rfl am_ ?_;(with_reducible refine(dragnetref02_Take.calls k _ _ l0 t560 t561 t562 _ ?side1 ?side2 A4.out).mono ?_);(case side1=>exact Kd.cu_ HR0.out);(case side2=>exact HC0.out);rintro e w14 ⟨rfl,hb⟩;refine⟨_,rfl,?_⟩;replace HB:=Aside0.mk (below_step bw_ hb);obtain⟨i015,hi015,_,hsz15,_⟩:=info_parts info5;obtain⟨A15,hcut15,hA15,hC15⟩:=print_mid_of (P:=Try.prog) (Value.int .u8) 0 22 5 .i64 .i64 Try.underlying22 hi015 hsz15 A0 c0 l0 t561 (wrap64 (t561+(wrap64 (t560)))) od_ (by first|omega|exact od_) od_ HC0.out;have HR563:=Aside0.mk (Kd.C_of_reads (h1:=fun _=>rfl) (hA15 _ (Kd.reads_of_C HR0.out)));have HC563:=Aside0.mk hC15;clear hA15 hC15 hi015 hsz15)|((with_reducible refine gaC_ (f:=11) rfl ?_);refine goesL_ (some 39) rfl rfl Try.func11 (by kernel_rfl) rfl #[.slice A15 ((l0.take ((wrap64 (t561+(wrap64 (t560)))):Int).toNat).drop (t561:Int).toNat).length (c0 - t561.toNat)] rfl (by(try simp only[List.map_toArray,List.map_cons,List.map_nil]);first|done|(rw[show((l0.take ((wrap64 (t561+(wrap64 (t560)))):Int).toNat).drop (t561:Int).toNat).length=((wrap64 (t561+(wrap64 (t560)))).toNat - t561.toNat) from(by rw[List.length_drop,List.length_take];have h_:((wrap64 (t561+(wrap64 (t560)))):Int)<=(l0.length:Int):=od_;omega)]<;>rfl)|rfl|(simp only[List.length_drop,List.length_take];rfl)) ?_;(with_reducible refine(dragnetref01_Copy.calls _ _ ((l0.take ((wrap64 (t561+(wrap64 (t560)))):Int).toNat).drop (t561:Int).toNat) t564 _ ?side1 ?side2 A13.out).mono ?_);(case side1=>exact Kd.cu_ (Kd.C_below HR563.out HB.out));(case side2=>exact HC563.out);rintro e w16 ⟨v565,rfl,ho0,hb⟩;refine⟨_,rfl,?_⟩;have HO566:=Aside0.mk (Kd.R_lower ho0 (pbS_ bw_));replace HB:=Aside0.mk (below_step bw_ hb)))
    go_ret3
    exact⟨_,rf_,by(with_reducible repeat(first|apply Kd.rA_|apply Kd.rN_|apply Kd.rD_));exact HO566.out,bw_⟩
noncomputable def dragnetref02_Reader_Row.f (k:Nat) (s0_0:List Int) (s0_1:Int) (s0_2:Bool) (a1:Int):Option (List Int×Int×Bool):=if s0_2=true then(some (([]:List Int),s0_1,s0_2))else(if 0<=s0_1 then(if s0_1<=(s0_0.length:Int)then((dragnetref02_TakeRow.f k (s0_0.drop (s0_1:Int).toNat) a1).bind fun bt568=>(some (bt568.1,wrap64 (s0_1+bt568.2.1),(bt568.2.2 != 0))))else(none))else(none))
theorem dragnetref02_Reader_Row.mono:∀ a0 a1 a2 a3 k,LeO (dragnetref02_Reader_Row.f k a0 a1 a2 a3) (dragnetref02_Reader_Row.f (k+1) a0 a1 a2 a3):=by
 intro a0 a1 a2 a3 k
 unfold dragnetref02_Reader_Row.f
 repeat' first
   |(with_reducible exact dragnetref02_TakeRow.mono _ _ _)
   |(with_reducible exact LeO.refl _)
   |(with_reducible exact LeO.none _)
   |(with_reducible refine LeO.ite ?_ ?_)
   |(with_reducible refine LeO.bind ?_ (fun _=>?_))
def dragnetref02_Reader_Row.T3:Bool×List (List Nat×List Nat):=(true,[([],[]),([0],[0]),([1],[1]),([2],[2]),([],[]),([4],[4]),([5],[5]),([6],[6]),([3,7],[3,7]),([],[]),([8,9],[8,9]),([10],[10]),([11],[11]),([11],[11]),([11],[11]),([12,10,0,1,2,3,4,5,6,7,8,9,10,11,12],[12]),([13,15,0,1,2,3,4,5,6,7,8,9,10,11,12,13,15],[13]),([14,16,0,1,2,3,4,5,6,7,8,9,10,11,12,13,14,15,16],[14])])
def dragnetref02_Reader_Row.B3:List Nat:=[0,1,3,7,0,16,48,112,255,0,1023,2047,4095,4095,4095,8191,49151,131071]
theorem dragnetref02_Reader_Row.tab3:rtab .any (opsOf Try.f61 3)=dragnetref02_Reader_Row.T3:=by kernel_rfl
theorem dragnetref02_Reader_Row.bits3:waitsOk dragnetref02_Reader_Row.T3.2 dragnetref02_Reader_Row.B3=true:=by kernel_rfl
set_option maxHeartbeats 8000000 in
set_option maxRecDepth 100000 in
theorem dragnetref02_Reader_Row.calls (k:Nat) (g:Nat) (s0_0:List Int) (s0_1:Int) (s0_2:Bool) (a1:Int) (r1:List Int) (r2:Int) (r3:Bool) (w0 w:World) (hI:IsS72 w0 w g s0_0 s0_1 s0_2) (hB:Below w0.heap.size w0 w) (h:dragnetref02_Reader_Row.f k s0_0 s0_1 s0_2 a1=some (r1,r2,r3)):
  Calls Try.prog 61 #[.pointer (some ⟨g,0,none⟩),.int .i64 a1] w fun e w'=>∃ v0_:Value,e= .returned (v0_)∧Kd.R (Kd.int .u8) 5 w' w.heap.size (fun _=>True) v0_ r1∧IsS72 w0 w' g s0_0 r2 r3∧Below w0.heap.size w0 w'∧KeepBut w w' g none:=by
 have HI0:=Aside0.mk hI
 have HK:=Aside0.mk (KeepBut.refl w g none)
 have HL:=Aside0.mk hB.size
 clear hI
 have HW0:=Aside0.mk hB.size
 have HB:=Aside0.mk hB
 have HBE:=Aside0.mk hB
 clear hB
 have H:(if s0_2=true then(some (([]:List Int),s0_1,s0_2))else(if 0<=s0_1 then(if s0_1<=(s0_0.length:Int)then((dragnetref02_TakeRow.f k (s0_0.drop (s0_1:Int).toNat) a1).bind fun bt568=>(some (bt568.1,wrap64 (s0_1+bt568.2.1),(bt568.2.2 != 0))))else(none))else(none)))=some (r1,r2,r3):=h
 clear h
 by_cases c3:s0_2=true
 .subst c3
  rw[if_pos rfl]at H
  simp only[Option.some.injEq,Prod.mk.injEq]at H
  obtain⟨rfl,rfl,rfl⟩:=H
  obtain⟨ASz4_0,cSz4_0,HGz4,hgz4,HSz4_0⟩:=HI0.out
  have hcz4_0:=cellS72_0 HGz4
  have hcz4_1:=cellS72_1 HGz4
  have hcz4_2:=cellS72_2 HGz4
  have hfz4_1:=blk_frozen HGz4 1
  have hfz4_2:=blk_frozen HGz4 2
  clear HGz4 hgz4
  go_enter Try.func61,Try.ntmps61
  go_wp2
  go_ret
  exact⟨_,rf_,ni_,by repeat(first|(with_reducible first|exact HI0.out|apply IsS72.alloc|apply IsS72.drewN|apply IsS72.drew|apply IsS72.set_1|apply IsS72.set_2)|exact HI0.out),bs72_,by repeat(first|(with_reducible first|exact HK.out|apply KeepBut.set_|apply keep_drewN|apply keep_drew|apply keep_alloc)|exact HK.out)⟩
 .replace c3:=Bool.eq_false_iff.mpr c3
  subst c3
  rw[if_neg (show ¬ (false=true) by decide)]at H
  by_cases c5:0<=s0_1
  rotate_left
  .rw[if_neg c5]at H
   cases H
  rw[if_pos c5]at H
  have c5b0:=eq_true c5
  have c5b1:=decide_eq_true c5
  clear c5
  by_cases c6:s0_1<=(s0_0.length:Int)
  rotate_left
  .rw[if_neg c6]at H
   cases H
  rw[if_pos c6]at H
  have c6b0:=eq_true c6
  have c6b1:=decide_eq_true c6
  clear c6
  replace H:=Option.bind_eq_some_iff.mp H
  obtain⟨⟨t568,t569,t570⟩,A70,H⟩:=H
  try dsimp only at H
  have A7:=Aside0.mk A70
  clear A70
  simp only[Option.some.injEq,Prod.mk.injEq]at H
  obtain⟨rfl,rfl,rfl⟩:=H
  obtain⟨ASz8_0,cSz8_0,HGz8,hgz8,HSz8_0⟩:=HI0.out
  have hcz8_0:=cellS72_0 HGz8
  have hcz8_1:=cellS72_1 HGz8
  have hcz8_2:=cellS72_2 HGz8
  have hfz8_1:=blk_frozen HGz8 1
  have hfz8_2:=blk_frozen HGz8 2
  clear HGz8 hgz8
  go_enter Try.func61,Try.ntmps61
  try go_wp2
  have n0_:=Aside0.mk (IsS72.drew HI0.out)
  have n1_:=Aside0.mk (keep_drew HK.out)
  have n2_:=Aside0.mk (pb1_ HB.out)
  clear HI0
  clear HK
  clear HB
  have HI0:=n0_
  have HK:=n1_
  have HB:=n2_
  clear n0_ n1_ n2_
  obtain⟨ASz10_0,cSz10_0,HGz10,hgz10,HSz10_0⟩:=HI0.out
  have hcz10_0:=cellS72_0 HGz10
  have hcz10_1:=cellS72_1 HGz10
  have hcz10_2:=cellS72_2 HGz10
  have hfz10_1:=blk_frozen HGz10 1
  have hfz10_2:=blk_frozen HGz10 2
  clear HGz10 hgz10
  obtain⟨i011,hi011,_,hsz11,_⟩:=info_parts info5
  obtain⟨A11,hcut11,hA11,hC11⟩:=print_drop_of (P:=Try.prog) (Value.int .u8) 0 22 5 .i64 Try.underlying22 hi011 hsz11 ASz10_0 cSz10_0 s0_0 s0_1 od_ od_ HSz10_0.2
  have HR567:=Aside0.mk (Kd.C_below (Kd.C_of_reads (h1:=fun _=>rfl) (hA11 _ (Kd.reads_of_C HSz10_0.1))) HBE.out)
  have HC567:=Aside0.mk hC11
  have hf567:=Kd.far_C 0 (Kd.C_of_reads (h1:=fun _=>rfl) (hA11 _ (Kd.reads_of_C HSz10_0.1))) (IsS72.ge HI0.out)
  clear hA11 hC11 hi011 hsz11
  refine start_ (n:=18) (S:=fun w'=>w'.cell? ⟨g,0,none⟩=some (.slice ASz10_0 s0_0.length cSz10_0)∧w'.cell? ⟨g,1,none⟩=some (.int .i64 s0_1)∧w'.cell? ⟨g,2,none⟩=some (.bool false)) (ds:=[]) #[false,false,false,false,false,false,false,false,false,false,false,false,false,false,false,false,false,false] (by kernel_rfl) rfl rfl ⟨hcz10_0,hcz10_1,hcz10_2⟩ (fun hHeld=>?_);refine with_tabW dragnetref02_Reader_Row.tab3 dragnetref02_Reader_Row.bits3 (fun HT_ HW_=>?_)
  generalize w.drew=w9 at HI0 HK HB HR567 hHeld ⊢
  refine pv_ (i:=0) (N:=some 13) HT_ ?_
  refine pv_ (i:=1) (N:=some 14) HT_ ?_
  refine pv_ (i:=2) (N:=some 15) HT_ ?_
  refine pv_ (i:=4) (N:=some 17) HT_ ?_
  refine pv_ (i:=5) (N:=some 18) HT_ ?_
  refine pv_ (i:=6) (N:=some 19) HT_ ?_
  refine pv_ (i:=9) (N:=some 22) HT_ ?_
  refine tv_ (i:=3) (N:=some 16) HT_ HW_ hHeld ?_
  refine tv_ (i:=7) (N:=some 20) HT_ HW_ hHeld ?_
  refine pv_ (i:=8) (N:=some 21) HT_ ?_
  refine one_ (i:=10) (N:=some 23) #[tT,tT,tT,tT,tT,tT,tT,tT,tT,tT,tT,fF,fF,fF,fF,fF,fF,fF] rfl rfl (one_of HT_.out (by kernel_rfl)) (by decide) (fun K hK=>?_)
  refine goes_ Try.func72 (by kernel_rfl) rfl #[.slice A11 (s0_0.drop (s0_1:Int).toNat).length (cSz10_0 - s0_1.toNat),.int .i64 a1] (by rfl) rfl rfl (by(try simp only[List.map_toArray,List.map_cons,List.map_nil]);first|done|(rw[show(s0_0.drop (s0_1:Int).toNat).length=(s0_0.length - s0_1.toNat) from List.length_drop]<;>rfl)|rfl|(simp only[List.length_drop,List.length_take];rfl)) ?_
  with_reducible refine(dragnetref02_TakeRow.calls k _ _ (s0_0.drop (s0_1:Int).toNat) a1 t568 t569 t570 _ ?side1 ?side2 A7.out).mono ?_
  (case side1=>exact Kd.C_keep 0 HR567.out (by repeat(first|(with_reducible first|exact HK.out|apply KeepBut.set_|apply keep_drewN|apply keep_drew|apply keep_alloc)|exact HK.out)) hf567)
  (case side2=>exact HC567.out)
  rintro e w12 ⟨v571,rfl,ho0,hb⟩
  have HS0_:=(hb.cell (World.block_lt_of_cell? _ _ (hHeld.1))).trans (hHeld.1)
  have HS1_:=(hb.cell (World.block_lt_of_cell? _ _ (hHeld.2.1))).trans (hHeld.2.1)
  have HS2_:=(hb.cell (World.block_lt_of_cell? _ _ (hHeld.2.2))).trans (hHeld.2.2)
  refine⟨_,rfl,?_⟩
  have n0_:=Aside0.mk (Kd.R_lower ho0 (keep_size (w:=w) (g:=g) (row:=none) (by repeat(first|(with_reducible first|exact HK.out|apply KeepBut.set_|apply keep_drewN|apply keep_drew|apply keep_alloc)|exact HK.out))))
  have n1_:=Aside0.mk (IsS72.below (isu72_ HI0.out) hb)
  have n2_:=Aside0.mk (KeepBut.trans (by repeat(first|(with_reducible first|exact HK.out|apply KeepBut.set_|apply keep_drewN|apply keep_drew|apply keep_alloc)|exact HK.out)) (KeepBut.of_below hb g none) (.inl rfl))
  have n3_:=Aside0.mk (below_step bs72_ hb)
  clear HI0
  clear HK
  clear HB
  have HO572:=n0_
  have HI0:=n1_
  have HK:=n2_
  have HB:=n3_
  clear n0_ n1_ n2_ n3_
  clear hb
  clear ho0
  refine hK.out _ _ ⟨HS0_,HS1_,HS2_⟩ (fun hHeld=>?_)
  clear hK K
  refine norm_ (a':=?_) ?_ ?_
  rotate_left
  .show Act.put _ (some 23) _=_
   simp only[Act.put,List.setIfInBounds_toArray,List.set_cons_zero,List.set_cons_succ,i64_w,i32_w]
   rfl
  refine pv_ (i:=11) (N:=some 12) HT_ ?_
  refine pv_ (i:=12) (N:=some 24) HT_ ?_
  refine pv_ (i:=13) (N:=some 25) HT_ ?_
  refine pv_ (i:=14) (N:=some 26) HT_ ?_
  refine pv_ (i:=15) (N:=some 5) HT_ ?_
  refine pv_ (i:=16) (N:=some 6) HT_ ?_
  refine pv_ (i:=17) (N:=some 7) HT_ ?_
  refine done_ (done_of HT_.out (by kernel_rfl)) ?_
  obtain⟨ASz13_0,cSz13_0,HGz13,hgz13,HSz13_0⟩:=HI0.out
  have hcz13_0:=cellS72_0 HGz13
  have hcz13_1:=cellS72_1 HGz13
  have hcz13_2:=cellS72_2 HGz13
  have hfz13_1:=blk_frozen HGz13 1
  have hfz13_2:=blk_frozen HGz13 2
  clear HGz13 hgz13
  try go_wp2
  go_ret
  exact⟨_,rf_,by(with_reducible repeat(first|apply Kd.rA_|apply Kd.rN_|apply Kd.rD_));exact Kd.R_mono (Kd.R_far (p:=⟨g,2,none⟩) (Kd.R_far (p:=⟨g,1,none⟩) (IsS72.apart HI0.out HO572.out (by decide)) (fun _ hk=>hk.2) (.int .i64 (wrap64 (s0_1+t569)))) (fun _ hk=>hk.2) (.bool (t570 != 0))) (fun _ hk=>trivial),by repeat(first|(with_reducible first|exact HI0.out|apply IsS72.alloc|apply IsS72.drewN|apply IsS72.drew|apply IsS72.set_1|apply IsS72.set_2)|exact HI0.out),bs72_,by repeat(first|(with_reducible first|exact HK.out|apply KeepBut.set_|apply keep_drewN|apply keep_drew|apply keep_alloc)|exact HK.out)⟩
noncomputable def dragnetref13_next.f (k:Nat) (s0_0:List Int) (s0_1:Int) (s0_2:Bool):Option (Int×List Int×Bool×Int×Bool):=(dragnetref02_Reader_Count.f k s0_0 s0_1 s0_2 4095).bind fun bt574=>((dragnetref02_Reader_Row.f k s0_0 bt574.2.1 bt574.2.2 (s0_0.length:Int)).bind fun bt578=>(some (bt574.1,bt578.1,!bt578.2.2,bt578.2.1,bt578.2.2)))
theorem dragnetref13_next.mono:∀ a0 a1 a2 k,LeO (dragnetref13_next.f k a0 a1 a2) (dragnetref13_next.f (k+1) a0 a1 a2):=by
 intro a0 a1 a2 k
 unfold dragnetref13_next.f
 repeat' first
   |(with_reducible exact dragnetref02_Reader_Count.mono _ _ _ _ _)
   |(with_reducible exact dragnetref02_Reader_Row.mono _ _ _ _ _)
   |(with_reducible exact LeO.refl _)
   |(with_reducible exact LeO.none _)
   |(with_reducible refine LeO.ite ?_ ?_)
   |(with_reducible refine LeO.bind ?_ (fun _=>?_))
def dragnetref13_next.T3:Bool×List (List Nat×List Nat):=(true,[([],[]),([],[]),([1],[1]),([2],[2]),([3],[3]),([4],[4]),([0,0],[0]),([5,6,0,1,2,3,4,5,6],[5])])
def dragnetref13_next.B3:List Nat:=[0,0,2,6,14,30,1,127]
theorem dragnetref13_next.tab3:rtab .any (opsOf Try.f39 3)=dragnetref13_next.T3:=by kernel_rfl
theorem dragnetref13_next.bits3:waitsOk dragnetref13_next.T3.2 dragnetref13_next.B3=true:=by kernel_rfl
set_option maxHeartbeats 8000000 in
set_option maxRecDepth 100000 in
theorem dragnetref13_next.calls (k:Nat) (g:Nat) (s0_0:List Int) (s0_1:Int) (s0_2:Bool) (r1:Int) (r2:List Int) (r3:Bool) (r4:Int) (r5:Bool) (w0 w:World) (hI:IsS72 w0 w g s0_0 s0_1 s0_2) (hB:Below w0.heap.size w0 w) (h:dragnetref13_next.f k s0_0 s0_1 s0_2=some (r1,r2,r3,r4,r5)):
  Calls Try.prog 39 #[.pointer (some ⟨g,0,none⟩)] w fun e w'=>∃ v1_:Value,e= .returned (.tuple #[.agg #[.int .i64 r1,v1_],.bool r3])∧Kd.R (Kd.int .u8) 5 w' w.heap.size (fun _=>True) v1_ r2∧IsS72 w0 w' g s0_0 r4 r5∧Below w0.heap.size w0 w'∧KeepBut w w' g none:=by
 have hu75:=Try.underlying75
 have HI0:=Aside0.mk hI
 have HK:=Aside0.mk (KeepBut.refl w g none)
 have HL:=Aside0.mk hB.size
 clear hI
 have HW0:=Aside0.mk hB.size
 have HB:=Aside0.mk hB
 have HBE:=Aside0.mk hB
 clear hB
 have H:((dragnetref02_Reader_Count.f k s0_0 s0_1 s0_2 4095).bind fun bt574=>((dragnetref02_Reader_Row.f k s0_0 bt574.2.1 bt574.2.2 (s0_0.length:Int)).bind fun bt578=>(some (bt574.1,bt578.1,!bt578.2.2,bt578.2.1,bt578.2.2))))=some (r1,r2,r3,r4,r5):=h
 clear h
 replace H:=Option.bind_eq_some_iff.mp H
 obtain⟨⟨t574,t575,t576⟩,A20,H⟩:=H
 try dsimp only at H
 have A2:=Aside0.mk A20
 clear A20
 replace H:=Option.bind_eq_some_iff.mp H
 obtain⟨⟨t578,t581,t582⟩,A30,H⟩:=H
 try dsimp only at H
 have A3:=Aside0.mk A30
 clear A30
 simp only[Option.some.injEq,Prod.mk.injEq]at H
 obtain⟨rfl,rfl,rfl,rfl,rfl⟩:=H
 go_enter Try.func39,Try.ntmps39
 try go_wp2_with (first|((with_reducible refine gate_dst (N:=2) rfl ?_);refine box_event ?hg (N:=2) ?hd (cs:= #[.int .i64 0,.slice none 0 0]) (t:=75) ?hr ?_;(case hd=>rfl);(case hg=>rfl);(case hr=>first|(go_simp;done)|(go_simp;rfl));intro gb573 hg w4 hbox hb;have n0_:=Aside0.mk (IsS72.below (isu72_ HI0.out) hb);have n1_:=Aside0.mk (KeepBut.trans (by repeat(first|(with_reducible first|exact HK.out|apply KeepBut.set_|apply keep_drewN|apply keep_drew|apply keep_alloc)|exact HK.out)) (KeepBut.of_below hb g none) (.inl rfl));have n2_:=Aside0.mk (below_step bs72_ hb);have n3_:=Aside0.mk (hbox);have n4_:=Aside0.mk ((by rw[hg];exact(keep_size (w:=w) (g:=g) (row:=none) (by repeat(first|(with_reducible first|exact HK.out|apply KeepBut.set_|apply keep_drewN|apply keep_drew|apply keep_alloc)|exact HK.out))):w.heap.size<=gb573));have n5_:=Aside0.mk ((Nat.le_trans HW0.out (by rw[hg];exact(keep_size (w:=w) (g:=g) (row:=none) (by repeat(first|(with_reducible first|exact HK.out|apply KeepBut.set_|apply keep_drewN|apply keep_drew|apply keep_alloc)|exact HK.out))):w.heap.size<=gb573):w0.heap.size<=gb573));have n6_:=Aside0.mk ((by rw[hg];exact Nat.ne_of_lt (IsS72.lt (show IsS72 w0 _ g s0_0 s0_1 s0_2 from isu72_ HI0.out)):g≠gb573));have n7_:=Aside0.mk ((by rw[hg];exact Nat.ne_of_gt (IsS72.lt (show IsS72 w0 _ g s0_0 s0_1 s0_2 from isu72_ HI0.out)):gb573≠g));clear HI0;clear HK;clear HB;have HI0:=n0_;have HK:=n1_;have HB:=n2_;have BK573:=n3_;have GW573:=n4_;have GE573:=n5_;have NB0_573:=n6_;have NB573_0:=n7_;clear n0_ n1_ n2_ n3_ n4_ n5_ n6_ n7_;clear hb hbox hg)|((with_reducible refine gaC_ (f:=38) rfl ?_);refine goesL_ (some 6) rfl rfl Try.func38 (by kernel_rfl) rfl #[.pointer (some ⟨g,0,none⟩),.int .i64 4095] rfl am_ ?_;(with_reducible refine(dragnetref02_Reader_Count.calls k g s0_0 s0_1 s0_2 4095 t574 t575 t576 w0 _ ?side1 ?side2 A2.out).mono ?_);(case side1=>exact isu72_ HI0.out);(case side2=>repeat(first|(with_reducible first|exact HB.out|apply pbA_|apply pbN_|apply pb1_|refine below_set ?_ (IsS72.ge HI0.out)|refine below_set ?_ GE573.out)|exact HB.out));rintro e w5 ⟨rfl,hi,hb,hk⟩;refine⟨_,rfl,?_⟩;replace BK573:=Aside0.mk (KeepBut.blk hk (g':=gb573) (o:= .cells #[.int .i64 0,.slice none 0 0] 75 (0,0)) (bk_ BK573.out) NB573_0.out (by simp));replace HK:=Aside0.mk (KeepBut.trans (by repeat(first|(with_reducible first|exact HK.out|apply KeepBut.set_|apply keep_drewN|apply keep_drew|apply keep_alloc|refine keep_far ?_ GW573.out _)|exact HK.out)) hk (.inl rfl));replace HB:=Aside0.mk (hb);replace HI0:=Aside0.mk (hi))|((with_reducible refine gate_dst (N:=4) rfl ?_);refine box_event ?hg (N:=4) ?hd (cs:= #[.int .i64 0,.slice none 0 0]) (t:=75) ?hr ?_;(case hd=>rfl);(case hg=>rfl);(case hr=>first|(go_simp;done)|(go_simp;rfl));intro gb577 hg w6 hbox hb;have n0_:=Aside0.mk (IsS72.below (isu72_ HI0.out) hb);have n1_:=Aside0.mk (blk_below (g:=gb573) (o:= .cells #[.int .i64 0,.slice none 0 0] 75 (0,0)) (bk_ BK573.out) hb);have n2_:=Aside0.mk (KeepBut.trans (by repeat(first|(with_reducible first|exact HK.out|apply KeepBut.set_|apply keep_drewN|apply keep_drew|apply keep_alloc|refine keep_far ?_ GW573.out _)|exact HK.out)) (KeepBut.of_below hb g none) (.inl rfl));have n3_:=Aside0.mk (below_step bs72_ hb);have n4_:=Aside0.mk (hbox);have n5_:=Aside0.mk ((by rw[hg];exact(keep_size (w:=w) (g:=g) (row:=none) (by repeat(first|(with_reducible first|exact HK.out|apply KeepBut.set_|apply keep_drewN|apply keep_drew|apply keep_alloc|refine keep_far ?_ GW573.out _)|exact HK.out))):w.heap.size<=gb577));have n6_:=Aside0.mk ((Nat.le_trans HW0.out (by rw[hg];exact(keep_size (w:=w) (g:=g) (row:=none) (by repeat(first|(with_reducible first|exact HK.out|apply KeepBut.set_|apply keep_drewN|apply keep_drew|apply keep_alloc|refine keep_far ?_ GW573.out _)|exact HK.out))):w.heap.size<=gb577):w0.heap.size<=gb577));have n7_:=Aside0.mk ((by rw[hg];exact Nat.ne_of_lt (blk_lt (g:=gb573) (o:= .cells #[.int .i64 0,.slice none 0 0] 75 (0,0)) (bk_ BK573.out)):gb573≠gb577));have n8_:=Aside0.mk ((by rw[hg];exact Nat.ne_of_gt (blk_lt (g:=gb573) (o:= .cells #[.int .i64 0,.slice none 0 0] 75 (0,0)) (bk_ BK573.out)):gb577≠gb573));have n9_:=Aside0.mk ((by rw[hg];exact Nat.ne_of_lt (IsS72.lt (show IsS72 w0 _ g s0_0 t575 t576 from isu72_ HI0.out)):g≠gb577));have n10_:=Aside0.mk ((by rw[hg];exact Nat.ne_of_gt (IsS72.lt (show IsS72 w0 _ g s0_0 t575 t576 from isu72_ HI0.out)):gb577≠g));clear HI0;clear BK573;clear HK;clear HB;have HI0:=n0_;have BK573:=n1_;have HK:=n2_;have HB:=n3_;have BK577:=n4_;have GW577:=n5_;have GE577:=n6_;have NB573_577:=n7_;have NB577_573:=n8_;have NB0_577:=n9_;have NB577_0:=n10_;clear n0_ n1_ n2_ n3_ n4_ n5_ n6_ n7_ n8_ n9_ n10_;clear hb hbox hg;have hnb7:=NB577_573.out;have hnc7:=NB573_577.out;have hnb8:=NB577_0.out;have hnc8:=NB0_577.out;have hcz9_0:w6.cell? ⟨gb577,0,none⟩=some (.int .i64 0):=(blk_cell BK577.out 0).trans rfl;have hcz9_1:w6.cell? ⟨gb577,1,none⟩=some (.slice none 0 0):=(blk_cell BK577.out 1).trans rfl;have hfz9_0:=blk_frozen BK577.out 0;have hfz9_1:=blk_frozen BK577.out 1;obtain⟨ASz10_0,cSz10_0,HGz10,hgz10,HSz10_0⟩:=HI0.out;have hcz10_0:=cellS72_0 HGz10;have hcz10_1:=cellS72_1 HGz10;have hcz10_2:=cellS72_2 HGz10;have hfz10_1:=blk_frozen HGz10 1;have hfz10_2:=blk_frozen HGz10 2;clear HGz10 hgz10)|((with_reducible refine gaC_ (f:=61) rfl ?_);refine goesL_ (some 14) rfl rfl Try.func61 (by kernel_rfl) rfl #[.pointer (some ⟨g,0,none⟩),.int .i64 (s0_0.length:Int)] rfl am_ ?_;(with_reducible refine(dragnetref02_Reader_Row.calls k g s0_0 t575 t576 (s0_0.length:Int) t578 t581 t582 w0 _ ?side1 ?side2 A3.out).mono ?_);(case side1=>exact isu72_ HI0.out);(case side2=>repeat(first|(with_reducible first|exact HB.out|apply pbA_|apply pbN_|apply pb1_|refine below_set ?_ (IsS72.ge HI0.out)|refine below_set ?_ GE573.out|refine below_set ?_ GE577.out)|exact HB.out));rintro e w11 ⟨v579,rfl,ho0,hi,hb,hk⟩;refine⟨_,rfl,?_⟩;replace BK573:=Aside0.mk (KeepBut.blk hk (g':=gb573) (o:= .cells #[.int .i64 0,.slice none 0 0] 75 (0,0)) (by(with_reducible repeat(first|refine blk_drewN ?_ _|refine blk_drew ?_|refine blk_alloc ?_ _));refine blk_far ?_ NB573_577.out _;(with_reducible repeat(first|refine blk_drewN ?_ _|refine blk_drew ?_|refine blk_alloc ?_ _));refine blk_far ?_ NB573_577.out _;(with_reducible repeat(first|refine blk_drewN ?_ _|refine blk_drew ?_|refine blk_alloc ?_ _));exact BK573.out) NB573_0.out (by simp));replace BK577:=Aside0.mk (KeepBut.blk hk (g':=gb577) (o:= .cells #[.int .i64 t574,.slice none 0 0] 75 (0,0)) (by(with_reducible repeat(first|refine blk_drewN ?_ _|refine blk_drew ?_|refine blk_alloc ?_ _));refine blk_put (cs:= #[.int .i64 t574,.slice none 0 0]) ?_ 1 _ rfl;(with_reducible repeat(first|refine blk_drewN ?_ _|refine blk_drew ?_|refine blk_alloc ?_ _));refine blk_put (cs:= #[.int .i64 0,.slice none 0 0]) ?_ 0 _ rfl;(with_reducible repeat(first|refine blk_drewN ?_ _|refine blk_drew ?_|refine blk_alloc ?_ _));exact BK577.out) NB577_0.out (by simp));have HO580:=Aside0.mk (Kd.R_lower ho0 (keep_size (w:=w) (g:=g) (row:=none) (by repeat(first|(with_reducible first|exact HK.out|apply KeepBut.set_|apply keep_drewN|apply keep_drew|apply keep_alloc|refine keep_far ?_ GW573.out _|refine keep_far ?_ GW577.out _)|exact HK.out))));replace HK:=Aside0.mk (KeepBut.trans (by repeat(first|(with_reducible first|exact HK.out|apply KeepBut.set_|apply keep_drewN|apply keep_drew|apply keep_alloc|refine keep_far ?_ GW573.out _|refine keep_far ?_ GW577.out _)|exact HK.out)) hk (.inl rfl));replace HB:=Aside0.mk (hb);replace HI0:=Aside0.mk (hi);obtain⟨Ao12,co12,eo12⟩:=Kd.R_slice HO580.out;subst eo12;have hcz13_0:w11.cell? ⟨gb577,0,none⟩=some (.int .i64 t574):=(blk_cell BK577.out 0).trans rfl;have hcz13_1:w11.cell? ⟨gb577,1,none⟩=some (.slice none 0 0):=(blk_cell BK577.out 1).trans rfl;have hfz13_0:=blk_frozen BK577.out 0;have hfz13_1:=blk_frozen BK577.out 1))
 have n0_:Aside0 (Kd.R (Kd.int .u8) 5 (w11.setCell ⟨gb577,1,none⟩ (.slice Ao12 t578.length co12)) w.heap.size (fun _=>True) (.slice Ao12 t578.length co12) t578):=⟨by(with_reducible repeat(first|apply Kd.rA_|apply Kd.rN_|apply Kd.rD_));exact Kd.R_mono (Kd.R_far (p:=⟨gb577,1,none⟩) (Kd.R_types HO580.out BK577.out (by decide)) (fun _ hk=>hk.2) (.slice Ao12 t578.length co12)) (fun _ hk=>trivial)⟩
 have n1_:Aside0 ((w11.setCell ⟨gb577,1,none⟩ (.slice Ao12 t578.length co12)).heap[gb573]? =some (.cells #[.int .i64 0,.slice none 0 0] 75 (0,0))):=⟨by(with_reducible repeat(first|refine blk_drewN ?_ _|refine blk_drew ?_|refine blk_alloc ?_ _));refine blk_far ?_ NB573_577.out _;(with_reducible repeat(first|refine blk_drewN ?_ _|refine blk_drew ?_|refine blk_alloc ?_ _));exact BK573.out⟩
 have n2_:Aside0 ((w11.setCell ⟨gb577,1,none⟩ (.slice Ao12 t578.length co12)).heap[gb577]? =some (.cells #[.int .i64 t574,.slice Ao12 t578.length co12] 75 (0,0))):=⟨by(with_reducible repeat(first|refine blk_drewN ?_ _|refine blk_drew ?_|refine blk_alloc ?_ _));refine blk_put (cs:= #[.int .i64 t574,.slice none 0 0]) ?_ 1 _ rfl;(with_reducible repeat(first|refine blk_drewN ?_ _|refine blk_drew ?_|refine blk_alloc ?_ _));exact BK577.out⟩
 have n3_:Aside0 (IsS72 w0 (w11.setCell ⟨gb577,1,none⟩ (.slice Ao12 t578.length co12)) g s0_0 t581 t582):=⟨by repeat(first|(with_reducible first|exact HI0.out|apply IsS72.alloc|apply IsS72.drewN|apply IsS72.drew|apply IsS72.set_1|apply IsS72.set_2|refine IsS72.far ?_ NB0_573.out _|refine IsS72.far ?_ NB0_577.out _)|exact HI0.out)⟩
 have n4_:Aside0 (KeepBut w (w11.setCell ⟨gb577,1,none⟩ (.slice Ao12 t578.length co12)) g none):=⟨by repeat(first|(with_reducible first|exact HK.out|apply KeepBut.set_|apply keep_drewN|apply keep_drew|apply keep_alloc|refine keep_far ?_ GW573.out _|refine keep_far ?_ GW577.out _)|exact HK.out)⟩
 have n5_:Aside0 (Below w0.heap.size w0 (w11.setCell ⟨gb577,1,none⟩ (.slice Ao12 t578.length co12))):=⟨bs72_⟩
 clear HO580 BK573 BK577 HI0 HK HB
 generalize (w11.setCell ⟨gb577,1,none⟩ (.slice Ao12 t578.length co12))=w14 at n0_ n1_ n2_ n3_ n4_ n5_ ⊢
 have HO580:=n0_
 have BK573:=n1_
 have BK577:=n2_
 have HI0:=n3_
 have HK:=n4_
 have HB:=n5_
 clear n0_ n1_ n2_ n3_ n4_ n5_
 have n0_:=Aside0.mk (Kd.rD_ HO580.out)
 have n1_:=Aside0.mk (blk_drew BK573.out)
 have n2_:=Aside0.mk (blk_drew BK577.out)
 have n3_:=Aside0.mk (IsS72.drew HI0.out)
 have n4_:=Aside0.mk (keep_drew HK.out)
 have n5_:=Aside0.mk (pb1_ HB.out)
 clear HO580
 clear BK573
 clear BK577
 clear HI0
 clear HK
 clear HB
 have HO580:=n0_
 have BK573:=n1_
 have BK577:=n2_
 have HI0:=n3_
 have HK:=n4_
 have HB:=n5_
 clear n0_ n1_ n2_ n3_ n4_ n5_
 obtain⟨ASz16_0,cSz16_0,HGz16,hgz16,HSz16_0⟩:=HI0.out
 have hcz16_0:=cellS72_0 HGz16
 have hcz16_1:=cellS72_1 HGz16
 have hcz16_2:=cellS72_2 HGz16
 have hfz16_1:=blk_frozen HGz16 1
 have hfz16_2:=blk_frozen HGz16 2
 clear HGz16 hgz16
 refine start_ (n:=8) (S:=fun w'=>w'.cell? ⟨gb577,0,none⟩=some (.int .i64 t574)∧w'.cell? ⟨gb577,1,none⟩=some (.slice Ao12 t578.length co12)∧w'.cell? ⟨g,0,none⟩=some (.slice ASz16_0 s0_0.length cSz16_0)∧w'.cell? ⟨g,1,none⟩=some (.int .i64 t581)∧w'.cell? ⟨g,2,none⟩=some (.bool t582)) (ds:=[]) #[false,false,false,false,false,false,false,false] (by kernel_rfl) rfl rfl ⟨(blk_cell BK577.out 0).trans rfl,(blk_cell BK577.out 1).trans rfl,hcz16_0,hcz16_1,hcz16_2⟩ (fun hHeld=>?_);refine with_tabW dragnetref13_next.tab3 dragnetref13_next.bits3 (fun HT_ HW_=>?_)
 generalize w14.drew=w15 at HO580 BK573 BK577 HI0 HK HB hHeld ⊢
 refine pv_ (i:=1) (N:=some 17) HT_ ?_
 refine pv_ (i:=2) (N:=some 18) HT_ ?_
 refine pv_ (i:=3) (N:=some 19) HT_ ?_
 refine tv_ (i:=0) (N:=some 16) HT_ HW_ hHeld ?_
 refine tv_ (i:=4) (N:=some 20) HT_ HW_ hHeld ?_
 refine pv_ (i:=5) (N:=some 21) HT_ ?_
 refine one_ (i:=6) (N:=none) #[tT,tT,tT,tT,tT,tT,tT,fF] rfl rfl (one_of HT_.out (by kernel_rfl)) (by decide) (fun K hK=>?_)
 have hs17:w15.cell? ⟨gb573,0,none⟩=some (.int .i64 0):=(blk_cell BK573.out 0).trans rfl
 have hfs17:=blk_frozen BK573.out 0
 have hns17_1:=NB577_573.out
 have hms17_1:=NB573_577.out
 have hs18:w15.cell? ⟨gb573,1,none⟩=some (.slice none 0 0):=(blk_cell BK573.out 1).trans rfl
 have hfs18:=blk_frozen BK573.out 1
 have hns18_1:=NB577_573.out
 have hms18_1:=NB573_577.out
 refine skip_ (w1:=?_) (by rfl) rfl ?_ ?_
 rotate_left
 .go_simp
  rfl
 refine hK.out _ _ ⟨((cell_far (p:=⟨gb573,_,none⟩) NB577_573.out _).trans (((cell_far (p:=⟨gb573,_,none⟩) NB577_573.out _).trans (hHeld.1)))),((cell_far (p:=⟨gb573,_,none⟩) NB577_573.out _).trans (((cell_far (p:=⟨gb573,_,none⟩) NB577_573.out _).trans (hHeld.2.1)))),((cell_far (p:=⟨gb573,_,none⟩) (by first|exact(IsS72.ne_blk HI0.out BK573.out (by decide))|(rw[add_block];exact(IsS72.ne_blk HI0.out BK573.out (by decide)))|(show(Addr.add _ _).block≠_;rw[add_block];exact(IsS72.ne_blk HI0.out BK573.out (by decide)))|(dsimp only;exact(IsS72.ne_blk HI0.out BK573.out (by decide)))) _).trans (((cell_far (p:=⟨gb573,_,none⟩) (by first|exact(IsS72.ne_blk HI0.out BK573.out (by decide))|(rw[add_block];exact(IsS72.ne_blk HI0.out BK573.out (by decide)))|(show(Addr.add _ _).block≠_;rw[add_block];exact(IsS72.ne_blk HI0.out BK573.out (by decide)))|(dsimp only;exact(IsS72.ne_blk HI0.out BK573.out (by decide)))) _).trans (hHeld.2.2.1)))),((cell_far (p:=⟨gb573,_,none⟩) (by first|exact(IsS72.ne_blk HI0.out BK573.out (by decide))|(rw[add_block];exact(IsS72.ne_blk HI0.out BK573.out (by decide)))|(show(Addr.add _ _).block≠_;rw[add_block];exact(IsS72.ne_blk HI0.out BK573.out (by decide)))|(dsimp only;exact(IsS72.ne_blk HI0.out BK573.out (by decide)))) _).trans (((cell_far (p:=⟨gb573,_,none⟩) (by first|exact(IsS72.ne_blk HI0.out BK573.out (by decide))|(rw[add_block];exact(IsS72.ne_blk HI0.out BK573.out (by decide)))|(show(Addr.add _ _).block≠_;rw[add_block];exact(IsS72.ne_blk HI0.out BK573.out (by decide)))|(dsimp only;exact(IsS72.ne_blk HI0.out BK573.out (by decide)))) _).trans (hHeld.2.2.2.1)))),((cell_far (p:=⟨gb573,_,none⟩) (by first|exact(IsS72.ne_blk HI0.out BK573.out (by decide))|(rw[add_block];exact(IsS72.ne_blk HI0.out BK573.out (by decide)))|(show(Addr.add _ _).block≠_;rw[add_block];exact(IsS72.ne_blk HI0.out BK573.out (by decide)))|(dsimp only;exact(IsS72.ne_blk HI0.out BK573.out (by decide)))) _).trans (((cell_far (p:=⟨gb573,_,none⟩) (by first|exact(IsS72.ne_blk HI0.out BK573.out (by decide))|(rw[add_block];exact(IsS72.ne_blk HI0.out BK573.out (by decide)))|(show(Addr.add _ _).block≠_;rw[add_block];exact(IsS72.ne_blk HI0.out BK573.out (by decide)))|(dsimp only;exact(IsS72.ne_blk HI0.out BK573.out (by decide)))) _).trans (hHeld.2.2.2.2))))⟩ (fun hHeld=>?_)
 clear hK K
 refine pv_ (i:=7) (N:=some 3) HT_ ?_
 refine done_ (done_of HT_.out (by kernel_rfl)) ?_
 try go_wp2
 refine bodyPost_ret (results_ct rfl _ _ gb573 75 #[.int .i64 t574,.slice Ao12 t578.length co12] (0,0) _ rfl (by(with_reducible repeat(first|refine blk_drewN ?_ _|refine blk_drew ?_|refine blk_alloc ?_ _));refine blk_put (cs:= #[.int .i64 t574,.slice none 0 0]) ?_ 1 _ rfl;(with_reducible repeat(first|refine blk_drewN ?_ _|refine blk_drew ?_|refine blk_alloc ?_ _));refine blk_put (cs:= #[.int .i64 0,.slice none 0 0]) ?_ 0 _ rfl;(with_reducible repeat(first|refine blk_drewN ?_ _|refine blk_drew ?_|refine blk_alloc ?_ _));exact BK573.out) Try.underlying75 rfl (by kernel_rfl)) rfl ?_
 exact⟨_,rf_,by(with_reducible repeat(first|apply Kd.rA_|apply Kd.rN_|apply Kd.rD_));exact Kd.R_mono (Kd.R_far (p:=⟨gb573,1,none⟩) (Kd.R_far (p:=⟨gb573,0,none⟩) (Kd.R_types HO580.out BK573.out (by decide)) (fun _ hk=>hk.2) (.int .i64 t574)) (fun _ hk=>hk.2) (.slice Ao12 t578.length co12)) (fun _ hk=>trivial),by repeat(first|(with_reducible first|exact HI0.out|apply IsS72.alloc|apply IsS72.drewN|apply IsS72.drew|apply IsS72.set_1|apply IsS72.set_2|refine IsS72.far ?_ NB0_573.out _|refine IsS72.far ?_ NB0_577.out _)|exact HI0.out),bs72_,by repeat(first|(with_reducible first|exact HK.out|apply KeepBut.set_|apply keep_drewN|apply keep_drew|apply keep_alloc|refine keep_far ?_ GW573.out _|refine keep_far ?_ GW577.out _)|exact HK.out)⟩
mutual
def dragnetref03_Pack.j0:Nat->List Int->Int->Bool->Option (List Int×Int)
 |0,_,_,_=>none
 |k+1,x0,x1,x14=>if x14=true then(some (([]:List Int),1))else((dragnetref03_Size.f (x0.length:Int) x1).bind fun t393=>(if 0<=t393 then(if(t393:Int).toNat<=281474976710656 then(dragnetref03_Pack.l0 k x0 x1 (List.replicate (t393:Int).toNat 0) 0)else(none))else(none)))
def dragnetref03_Pack.l0:Nat->List Int->Int->List Int->Int->Option (List Int×Int)
 |0,_,_,_,_=>none
 |k+1,x0,x1,x6,x7=>if x7 < (x0.length:Int)then(if 0<=x7 then((dragnetref03_Fits.f (rd x0 x7) x1).bind fun t398=>(if t398=true then(dragnetref03_Pack.l1 k x0 x1 x6 x7 0)else(some (([]:List Int),7))))else(none))else(some (x6,0))
def dragnetref03_Pack.l1:Nat->List Int->Int->List Int->Int->Int->Option (List Int×Int)
 |0,_,_,_,_,_=>none
 |k+1,x0,x1,x6,x7,x8=>if x8 < x1 then(if 0<=x7 then(if x7 < (x0.length:Int)then(if 0<=x8 then(if(Int.tmod (shr .u64 (rd x0 x7) x8) 2)=1 then(if 0<=(wrap64 (Int.tdiv (wrap64 ((wrap64 (x7*x1))+x8)) 8))then(if(wrap64 (Int.tdiv (wrap64 ((wrap64 (x7*x1))+x8)) 8)) < (x6.length:Int)then(if 0<=(Int.tmod (wrap64 ((wrap64 (x7*x1))+x8)) 8)then(dragnetref03_Pack.l1 k x0 x1 (x6.set ((wrap64 (Int.tdiv (wrap64 ((wrap64 (x7*x1))+x8)) 8)):Int).toNat (((rd x6 (wrap64 (Int.tdiv (wrap64 ((wrap64 (x7*x1))+x8)) 8)))+(shl .u8 1 (Int.tmod (wrap64 ((wrap64 (x7*x1))+x8)) 8))) % 256)) x7 (wrap64 (x8+1)))else(none))else(none))else(none))else(dragnetref03_Pack.l1 k x0 x1 x6 x7 (wrap64 (x8+1))))else(none))else(none))else(none))else(dragnetref03_Pack.l0 k x0 x1 x6 (wrap64 (x7+1)))
end
def dragnetref03_Pack.f (k:Nat) (l0:List Int) (a1:Int):Option (List Int×Int):=if a1 < 0 then(dragnetref03_Pack.j0 k l0 a1 true)else(dragnetref03_Pack.j0 k l0 a1 (decide (a1 > 64)))
theorem dragnetref03_Pack.mono_l:∀ k,(∀ y0 y1 y2,LeO (dragnetref03_Pack.j0 k y0 y1 y2) (dragnetref03_Pack.j0 (k+1) y0 y1 y2))∧(∀ y0 y1 y2 y3,LeO (dragnetref03_Pack.l0 k y0 y1 y2 y3) (dragnetref03_Pack.l0 (k+1) y0 y1 y2 y3))∧(∀ y0 y1 y2 y3 y4,LeO (dragnetref03_Pack.l1 k y0 y1 y2 y3 y4) (dragnetref03_Pack.l1 (k+1) y0 y1 y2 y3 y4))
 |0=>⟨fun _ _ _ r h=>by simp[dragnetref03_Pack.j0]at h,fun _ _ _ _ r h=>by simp[dragnetref03_Pack.l0]at h,fun _ _ _ _ _ r h=>by simp[dragnetref03_Pack.l1]at h⟩
 |k+1=>by
  obtain⟨ih0,ih1,ih2⟩:=dragnetref03_Pack.mono_l k
  refine⟨?_,?_,?_⟩
  .intro y0 y1 y2
   unfold dragnetref03_Pack.j0
   repeat' first
   |(with_reducible exact ih0 _ _ _)
   |(with_reducible exact ih1 _ _ _ _)
   |(with_reducible exact ih2 _ _ _ _ _)
   |(with_reducible exact LeO.refl _)
   |(with_reducible exact LeO.none _)
   |(with_reducible refine LeO.ite ?_ ?_)
   |(with_reducible refine LeO.bind ?_ (fun _=>?_))
  .intro y0 y1 y2 y3
   unfold dragnetref03_Pack.l0
   repeat' first
   |(with_reducible exact ih0 _ _ _)
   |(with_reducible exact ih1 _ _ _ _)
   |(with_reducible exact ih2 _ _ _ _ _)
   |(with_reducible exact LeO.refl _)
   |(with_reducible exact LeO.none _)
   |(with_reducible refine LeO.ite ?_ ?_)
   |(with_reducible refine LeO.bind ?_ (fun _=>?_))
  .intro y0 y1 y2 y3 y4
   unfold dragnetref03_Pack.l1
   repeat' first
   |(with_reducible exact ih0 _ _ _)
   |(with_reducible exact ih1 _ _ _ _)
   |(with_reducible exact ih2 _ _ _ _ _)
   |(with_reducible exact LeO.refl _)
   |(with_reducible exact LeO.none _)
   |(with_reducible refine LeO.ite ?_ ?_)
   |(with_reducible refine LeO.bind ?_ (fun _=>?_))
theorem dragnetref03_Pack.mono:∀ a0 a1 k,LeO (dragnetref03_Pack.f k a0 a1) (dragnetref03_Pack.f (k+1) a0 a1):=by
 intro a0 a1 k
 obtain⟨ih0,ih1,ih2⟩:=dragnetref03_Pack.mono_l k
 unfold dragnetref03_Pack.f
 repeat' first
   |(with_reducible exact ih0 _ _ _)
   |(with_reducible exact ih1 _ _ _ _)
   |(with_reducible exact ih2 _ _ _ _ _)
   |(with_reducible exact LeO.refl _)
   |(with_reducible exact LeO.none _)
   |(with_reducible refine LeO.ite ?_ ?_)
   |(with_reducible refine LeO.bind ?_ (fun _=>?_))
def dragnetref03_Pack.T13:Bool×List (List Nat×List Nat):=(true,[([],[]),([],[]),([],[]),([1,2],[1,2]),([],[]),([3,4],[3,4]),([5],[5]),([0,6],[0,6]),([7],[7]),([],[]),([],[]),([9,10],[9,10]),([],[]),([11,12],[11,12]),([13],[13]),([14],[14]),([8,15],[8,15]),([0,6,0,1,2,3,4,5,6,7,8,9,10,11,12,13,14,15,16],[0,6]),([17,16,0,1,2,3,4,5,6,7,8,9,10,11,12,13,14,15,16],[16,17])])
def dragnetref03_Pack.B13:List Nat:=[0,0,0,6,0,30,62,127,255,0,0,1536,0,7680,15872,32256,65535,131071,262143]
theorem dragnetref03_Pack.tab13:rtab .any (opsOf Try.f75 13)=dragnetref03_Pack.T13:=by kernel_rfl
theorem dragnetref03_Pack.bits13:waitsOk dragnetref03_Pack.T13.2 dragnetref03_Pack.B13=true:=by kernel_rfl
set_option maxHeartbeats 8000000 in
set_option maxRecDepth 100000 in
theorem dragnetref03_Pack.calls (k:Nat) (A0:Option Addr) (c0:Nat) (l0:List Int) (a1:Int) (r1:List Int) (r2:Int) (w:World) (hr0:Kd.C (Kd.int .u64) w A0 l0.length l0) (hc0:l0.length<=c0) (h:dragnetref03_Pack.f k l0 a1=some (r1,r2)):
  Calls Try.prog 75 #[.slice A0 l0.length c0,.int .i64 a1] w fun e w'=>∃ v0_:Value,e= .returned (.tuple #[v0_,.int .i64 r2])∧Kd.R (Kd.int .u8) 5 w' w.heap.size (fun _=>True) v0_ r1∧Below w.heap.size w w':=by
 have HR0:=Aside0.mk hr0
 have HC0:=Aside0.mk hc0
 clear hr0 hc0
 have HB:=Aside0.mk (Below.refl w.heap.size w)
 have H:(if a1 < 0 then(dragnetref03_Pack.j0 k l0 a1 true)else(dragnetref03_Pack.j0 k l0 a1 (decide (a1 > 64))))=some (r1,r2):=h
 clear h
 have HC3:=Aside0.mk H
 clear H
 go_enter Try.func75,Try.ntmps75
 go_upto_region 1 with (fail)
 go_cut [14] (fun v14 wc=>∃ (kq:Nat) (x14_2:Bool),v14= .bool x14_2∧Aside0 (dragnetref03_Pack.j0 kq l0 a1 x14_2=some (r1,r2))∧Aside0 (kq<=k)∧Aside0 (Below w.heap.size w wc))
 case first=>
  have H:=HC3.out
  clear HC3
  by_cases c4:a1 < 0
  rotate_left
  .rw[if_neg c4]at H
   have c4b0:=decide_eq_false c4
   clear c4
   (first|rw[c4b0]|(simp only[i64_w,i32_w];rw[c4b0])|skip)
   have H':=Aside0.mk H
   clear H
   go_wp2
   go_meet
   case rel=>exact⟨_,(decide (a1 > 64)),rs_,H',⟨by first|omega|exact Nat.le_refl _⟩,⟨bw_⟩⟩
  rw[if_pos c4]at H
  have c4b0:=decide_eq_true c4
  clear c4
  (first|rw[c4b0]|(simp only[i64_w,i32_w];rw[c4b0])|skip)
  have H':=Aside0.mk H
  clear H
  go_wp2
  go_meet
  case rel=>exact⟨_,(true),rs_,H',⟨by first|omega|exact Nat.le_refl _⟩,⟨bw_⟩⟩
 case rest=>
  clear HC3
  obtain⟨kq,x14_2,rfl,HA,HJ2,HB⟩:=hcut
  cases kq with
  |zero=>exact absurd HA.out (by simp[dragnetref03_Pack.j0])
  |succ kj2=>
   have H:=HA.out
   clear HA
   simp only[dragnetref03_Pack.j0]at H
   by_cases c5:x14_2=true
   .subst c5
    rw[if_pos rfl]at H
    simp only[Option.some.injEq,Prod.mk.injEq]at H
    obtain⟨rfl,rfl⟩:=H
    go_wp2
    go_ret2
    exact⟨_,rf_,ni_,bw_⟩
   .replace c5:=Bool.eq_false_iff.mpr c5
    subst c5
    rw[if_neg (show ¬ (false=true) by decide)]at H
    replace H:=Option.bind_eq_some_iff.mp H
    obtain⟨t393,A60,H⟩:=H
    try dsimp only at H
    have A6:=Aside0.mk A60
    clear A60
    by_cases c7:0<=t393
    rotate_left
    .rw[if_neg c7]at H
     cases H
    rw[if_pos c7]at H
    have c7b0:=eq_true c7
    have c7b1:=decide_eq_true c7
    clear c7
    by_cases c8:(t393:Int).toNat<=281474976710656
    rotate_left
    .rw[if_neg c8]at H
     cases H
    rw[if_pos c8]at H
    have c8b0:=eq_true c8
    have c8b1:=decide_eq_true c8
    clear c8
    obtain⟨y394,hy394⟩:∃ y_:List Int,y_=(List.replicate (t393:Int).toNat 0):=⟨_,rfl⟩
    replace H:(dragnetref03_Pack.l0 kj2 l0 a1 y394 0)=some (r1,r2):=hx_ hy394 H
    have Ny394:=Aside0.mk hy394
    clear hy394
    have H':=Aside0.mk H
    clear H
    go_wp2_with (first|((with_reducible refine gaC_ (f:=73) rfl ?_);refine goesL_ (some 18) rfl rfl Try.func73 (by kernel_rfl) rfl #[.int .i64 (l0.length:Int),.int .i64 a1] rfl am_ ?_;(with_reducible refine(dragnetref03_Size.calls (l0.length:Int) a1 t393 _ A6.out).mono ?_);rintro e w' ⟨rfl,⟨nd,rfl⟩⟩;refine⟨_,rfl,?_⟩)|((with_reducible refine gate_dst (N:=19) rfl ?_);refine Kd.R_make (Kd.int .u8) _ 5 rfl (N:=19) rfl 22 _ _ rfl t393 rfl rfl Try.underlying22 (.int .u8 0) 1 info5 rfl (by decide) (by omega) 0 (ok:=fun _=>True) (okp:=fun _=>True) rfl (fun _ hk=>hk) trivial od_ (Nat.le_trans (Nat.mul_le_mul_right _ (od_:t393.toNat<=281474976710656)) (by omega)) (Below.refl _ _) (Nat.le_refl _) ?_;intro v395 w9 ho10 hb hg_ hnew_;clear hg_ hnew_;(first|rw[<- Ny394.out]at ho10|(simp only[Int.reduceToNat]at ho10;rw[<- Ny394.out]at ho10));have HO396:=Aside0.mk (Kd.R_lower ho10 (pbS_ bw_));replace HB:=Aside0.mk (below_step bw_ hb);clear hb ho10))
    go_loopg [7] kj2 (fun kq v7 w'=>∃ (x6_2:List Int) (x7_2:Int),v7= .int .i64 x7_2∧Aside0 (dragnetref03_Pack.l0 kq l0 a1 x6_2 x7_2=some (r1,r2))∧Aside0 (kq<=kj2)∧Aside0 (Kd.R (Kd.int .u8) 5 w' w.heap.size (fun _=>True) v395 x6_2)∧Aside0 (Below w.heap.size w w'))
    case atStart=>exact⟨(y394),(0),rs_,H',⟨Nat.le_refl _⟩,⟨Kd.ru_ HO396.out⟩,⟨bw_⟩⟩
    case round=>
     clear H'
     clear c7b0 c7b1
     clear c8b0 c8b1
     obtain⟨x6_2,x7_2,rfl,HA,HK2,HO_6,HB⟩:=hrel
     cases gk with
     |zero=>exact absurd HA.out (by simp[dragnetref03_Pack.l0])
     |succ k2=>
      have H:=HA.out
      clear HA
      simp only[dragnetref03_Pack.l0]at H
      by_cases c11:x7_2 < (l0.length:Int)
      rotate_left
      .rw[if_neg c11]at H
       have c11b0:=decide_eq_false c11
       clear c11
       simp only[Option.some.injEq,Prod.mk.injEq]at H
       obtain⟨rfl,rfl⟩:=H
       go_wp2
       go_ret2
       exact⟨_,rf_,by(with_reducible repeat(first|apply Kd.rA_|apply Kd.rN_|apply Kd.rD_));exact HO_6.out,bw_⟩
      rw[if_pos c11]at H
      have c11b0:=decide_eq_true c11
      clear c11
      by_cases c12:0<=x7_2
      rotate_left
      .rw[if_neg c12]at H
       cases H
      rw[if_pos c12]at H
      have c12b0:=decide_eq_true c12
      clear c12
      replace H:=Option.bind_eq_some_iff.mp H
      obtain⟨t398,A130,H⟩:=H
      try dsimp only at H
      have A13:=Aside0.mk A130
      clear A130
      by_cases c14:t398=true
      rotate_left
      .replace c14:=Bool.eq_false_iff.mpr c14
       subst c14
       rw[if_neg (show ¬ (false=true) by decide)]at H
       simp only[Option.some.injEq,Prod.mk.injEq]at H
       obtain⟨rfl,rfl⟩:=H
       have p397:0<=(x7_2:Int):=od_
       have q397:x7_2 < (l0.length:Int):=od_
       obtain⟨ad397,e397,hx397_0⟩:=Kd.at_int HR0.out x7_2 p397 q397
       cases e397
       replace hx397_0:=cx_ HB.out rfl hx397_0
       replace p397:=eq_true p397
       replace q397:=eq_true q397
       go_wp2_with (first|((with_reducible refine gaC_ (f:=77) rfl ?_);refine goesL_ (some 31) rfl rfl Try.func77 (by kernel_rfl) rfl #[.int .u64 (rd l0 x7_2),.int .i64 a1] rfl am_ ?_;(with_reducible refine(dragnetref03_Fits.calls (rd l0 x7_2) a1 false _ A13.out).mono ?_);rintro e w' ⟨rfl,⟨nd,rfl⟩⟩;refine⟨_,rfl,?_⟩))
       go_ret2
       exact⟨_,rf_,ni_,bw_⟩
      subst c14
      rw[if_pos rfl]at H
      have H':=Aside0.mk H
      clear H
      have p397:0<=(x7_2:Int):=od_
      have q397:x7_2 < (l0.length:Int):=od_
      obtain⟨ad397,e397,hx397_0⟩:=Kd.at_int HR0.out x7_2 p397 q397
      cases e397
      replace hx397_0:=cx_ HB.out rfl hx397_0
      replace p397:=eq_true p397
      replace q397:=eq_true q397
      go_wp2_with (first|((with_reducible refine gaC_ (f:=77) rfl ?_);refine goesL_ (some 31) rfl rfl Try.func77 (by kernel_rfl) rfl #[.int .u64 (rd l0 x7_2),.int .i64 a1] rfl am_ ?_;(with_reducible refine(dragnetref03_Fits.calls (rd l0 x7_2) a1 true _ A13.out).mono ?_);rintro e w' ⟨rfl,⟨nd,rfl⟩⟩;refine⟨_,rfl,?_⟩))
      go_loopg [8] k2 (fun kq v8 w'=>∃ (x6_3:List Int) (x8_3:Int),v8= .int .i64 x8_3∧Aside0 (dragnetref03_Pack.l1 kq l0 a1 x6_3 x7_2 x8_3=some (r1,r2))∧Aside0 (kq<=k2)∧Aside0 (Kd.R (Kd.int .u8) 5 w' w.heap.size (fun _=>True) v395 x6_3)∧Aside0 (Below w.heap.size w w'))
      case atStart=>exact⟨(x6_2),(0),rs_,H',⟨Nat.le_refl _⟩,⟨Kd.ru_ HO_6.out⟩,⟨bw_⟩⟩
      case round=>
       clear H'
       clear c11b0
       clear c12b0
       clear hx397_0
       clear p397 q397
       obtain⟨x6_3,x8_3,rfl,HA,HK3,HO_6,HB⟩:=hrel
       cases gk with
       |zero=>exact absurd HA.out (by simp[dragnetref03_Pack.l1])
       |succ k3=>
        have H:=HA.out
        clear HA
        simp only[dragnetref03_Pack.l1]at H
        by_cases c15:x8_3 < a1
        rotate_left
        .rw[if_neg c15]at H
         have c15b0:=decide_eq_false c15
         clear c15
         have H':=Aside0.mk H
         clear H
         go_wp2
         go_roundg k3
         case measure=>have:=HJ2.out;have:=HK2.out;have:=HK3.out;omega
         case rel=>exact⟨(x6_3),(wrap64 (x7_2+1)),rs_,H',⟨by have:=HJ2.out;have:=HK2.out;have:=HK3.out;omega⟩,⟨Kd.ru_ HO_6.out⟩,⟨bw_⟩⟩
        rw[if_pos c15]at H
        have c15b0:=decide_eq_true c15
        clear c15
        by_cases c16:0<=x7_2
        rotate_left
        .rw[if_neg c16]at H
         cases H
        rw[if_pos c16]at H
        have c16b0:=decide_eq_true c16
        clear c16
        by_cases c17:x7_2 < (l0.length:Int)
        rotate_left
        .rw[if_neg c17]at H
         cases H
        rw[if_pos c17]at H
        have c17b0:=decide_eq_true c17
        clear c17
        by_cases c18:0<=x8_3
        rotate_left
        .rw[if_neg c18]at H
         cases H
        rw[if_pos c18]at H
        have c18b0:=eq_true c18
        have c18b1:=decide_eq_true c18
        clear c18
        obtain⟨ji19,hji19⟩:∃ j_:Int,(shr .u64 (rd l0 x7_2) x8_3)=j_:=⟨_,rfl⟩
        replace H:(if(Int.tmod (ji19) 2)=1 then(if 0<=(wrap64 (Int.tdiv (wrap64 ((wrap64 (x7_2*a1))+x8_3)) 8))then(if(wrap64 (Int.tdiv (wrap64 ((wrap64 (x7_2*a1))+x8_3)) 8)) < (x6_3.length:Int)then(if 0<=(Int.tmod (wrap64 ((wrap64 (x7_2*a1))+x8_3)) 8)then(dragnetref03_Pack.l1 k3 l0 a1 (x6_3.set ((wrap64 (Int.tdiv (wrap64 ((wrap64 (x7_2*a1))+x8_3)) 8)):Int).toNat (((rd x6_3 (wrap64 (Int.tdiv (wrap64 ((wrap64 (x7_2*a1))+x8_3)) 8)))+(shl .u8 1 (Int.tmod (wrap64 ((wrap64 (x7_2*a1))+x8_3)) 8))) % 256)) x7_2 (wrap64 (x8_3+1)))else(none))else(none))else(none))else(dragnetref03_Pack.l1 k3 l0 a1 x6_3 x7_2 (wrap64 (x8_3+1))))=some (r1,r2):=hj_ hji19 H
        have hji19_:((rd l0 x7_2) / 2 ^ min x8_3.toNat 64)=ji19:=hji19
        have hji19z:x8_3<=64->((rd l0 x7_2) / 2 ^ x8_3.toNat)=ji19:=shr_small hji19
        by_cases c20:(Int.tmod (ji19) 2)=1
        rotate_left
        .rw[if_neg c20]at H
         have c20b0:=beq_eq_false_iff_ne.mpr c20
         have c20b1:=bne_iff_ne.mpr c20
         have H':=Aside0.mk H
         clear H
         have p399:0<=(x7_2:Int):=od_
         have q399:x7_2 < (l0.length:Int):=od_
         obtain⟨ad399,e399,hx399_0⟩:=Kd.at_int HR0.out x7_2 p399 q399
         obtain rfl:ad397=ad399:=(by injection e399)
         replace hx399_0:=cx_ HB.out rfl hx399_0
         replace p399:=eq_true p399
         replace q399:=eq_true q399
         go_wp2
         subst hji19
         go_roundg k3
         case measure=>have:=HJ2.out;have:=HK2.out;have:=HK3.out;omega
         case rel=>exact⟨(x6_3),(wrap64 (x8_3+1)),rs_,H',⟨by have:=HJ2.out;have:=HK2.out;have:=HK3.out;omega⟩,⟨Kd.ru_ HO_6.out⟩,⟨bw_⟩⟩
        rw[if_pos c20]at H
        have c20b0:=beq_iff_eq.mpr c20
        have c20b1:=bne_eq_false_iff_eq.mpr c20
        clear c20
        obtain⟨ji21,hji21⟩:∃ j_:Int,(wrap64 (Int.tdiv (wrap64 ((wrap64 (x7_2*a1))+x8_3)) 8))=j_:=⟨_,rfl⟩
        replace H:(if 0<=(ji21)then(if(ji21) < (x6_3.length:Int)then(if 0<=(Int.tmod (wrap64 ((wrap64 (x7_2*a1))+x8_3)) 8)then(dragnetref03_Pack.l1 k3 l0 a1 (x6_3.set ((ji21):Int).toNat (((rd x6_3 (ji21))+(shl .u8 1 (Int.tmod (wrap64 ((wrap64 (x7_2*a1))+x8_3)) 8))) % 256)) x7_2 (wrap64 (x8_3+1)))else(none))else(none))else(none))=some (r1,r2):=hj_ hji21 H
        have hji21w:(IntKind.i64.wrap (Int.tdiv (wrap64 ((wrap64 (x7_2*a1))+x8_3)) 8))=ji21:=(i64_w _).trans hji21
        by_cases c22:0<=(ji21)
        rotate_left
        .rw[if_neg c22]at H
         cases H
        rw[if_pos c22]at H
        have c22b0:=decide_eq_true c22
        clear c22
        by_cases c23:(ji21) < (x6_3.length:Int)
        rotate_left
        .rw[if_neg c23]at H
         cases H
        rw[if_pos c23]at H
        have c23b0:=decide_eq_true c23
        clear c23
        obtain⟨ji24,hji24⟩:∃ j_:Int,(Int.tmod (wrap64 ((wrap64 (x7_2*a1))+x8_3)) 8)=j_:=⟨_,rfl⟩
        replace H:(if 0<=(ji24)then(dragnetref03_Pack.l1 k3 l0 a1 (x6_3.set ((ji21):Int).toNat (((rd x6_3 (ji21))+(shl .u8 1 (ji24))) % 256)) x7_2 (wrap64 (x8_3+1)))else(none))=some (r1,r2):=hj_ hji24 H
        by_cases c25:0<=(ji24)
        rotate_left
        .rw[if_neg c25]at H
         cases H
        rw[if_pos c25]at H
        have c25b0:=eq_true c25
        have c25b1:=decide_eq_true c25
        clear c25
        obtain⟨ji26,hji26⟩:∃ j_:Int,(shl .u8 1 (ji24))=j_:=⟨_,rfl⟩
        replace H:(dragnetref03_Pack.l1 k3 l0 a1 (x6_3.set ((ji21):Int).toNat (((rd x6_3 (ji21))+(ji26)) % 256)) x7_2 (wrap64 (x8_3+1)))=some (r1,r2):=hj_ hji26 H
        have hji26_:(IntKind.u8.wrap (1*2 ^ min (ji24).toNat 8))=ji26:=hji26
        have hji26z:(ji24)<=8->(IntKind.u8.wrap (1*2 ^ (ji24).toNat))=ji26:=shl_small hji26
        have hji26u:(IntKind.u8.wrap (2 ^ min (ji24).toNat 8))=ji26:=by have h_:=hji26_;rw[Int.one_mul]at h_;exact h_
        have hji26v:(ji24)<=8->(IntKind.u8.wrap (2 ^ (ji24).toNat))=ji26:=fun hle_=>by have h_:=hji26z hle_;rw[Int.one_mul]at h_;exact h_
        obtain⟨y401,hy401⟩:∃ y_:List Int,y_=(x6_3.set ((ji21):Int).toNat (((rd x6_3 (ji21))+(ji26)) % 256)):=⟨_,rfl⟩
        replace H:(dragnetref03_Pack.l1 k3 l0 a1 y401 x7_2 (wrap64 (x8_3+1)))=some (r1,r2):=hx_ hy401 H
        have Ny401:=Aside0.mk hy401
        clear hy401
        have H':=Aside0.mk H
        clear H
        have p399:0<=(x7_2:Int):=od_
        have q399:x7_2 < (l0.length:Int):=od_
        obtain⟨ad399,e399,hx399_0⟩:=Kd.at_int HR0.out x7_2 p399 q399
        obtain rfl:ad397=ad399:=(by injection e399)
        replace hx399_0:=cx_ HB.out rfl hx399_0
        replace p399:=eq_true p399
        replace q399:=eq_true q399
        try go_wp2
        have n0_:=Aside0.mk (Kd.rD_ HO_6.out)
        have n1_:=Aside0.mk (pb1_ HB.out)
        clear HO_6
        clear HB
        have HO_6:=n0_
        have HB:=n1_
        clear n0_ n1_
        obtain⟨Ao29,co29,eo29⟩:=Kd.R_slice HO_6.out
        (first|subst eo29|(injection eo29 with f1_ f2_ f3_;have f4_:=f1_.symm;have f5_:=f3_.symm;clear f1_ f2_ f3_;subst f4_;subst f5_))
        have p400:0<=((ji21):Int):=od_
        have q400:(ji21) < (x6_3.length:Int):=od_
        obtain⟨ad400,e400,hx400_0⟩:=Kd.at_int (Kd.R_reads' HO_6.out).2.2 (ji21) p400 q400
        cases e400
        replace p400:=eq_true p400
        replace q400:=eq_true q400
        have p27:0<=((ji21):Int):=od_
        have q27:((ji21):Int) < ((x6_3.length:Int):Int):=od_
        obtain⟨go27,co27,eo27,gb27,gl27,cl27,HG27⟩:=Kd.R_form HO_6.out (by omega)
        (first|cases eo27|(injection eo27 with ea_ en_ ec_;(first|subst ea_|(injection ea_ with ea_;subst ea_));subst ec_;clear en_))
        have GB27:=Aside0.mk gb27
        have GG27:=Aside0.mk HG27
        clear gb27 gl27 HG27
        (first|simp only[add_plain]at hx400_0|skip)
        obtain⟨hx27_0,hf27_0⟩:=Kd.R_celln 0 HO_6.out ((ji21):Int) p27 q27
        replace p27:=eq_true p27
        replace q27:=eq_true q27
        have HP30:=Kd.R_putn HO_6.out ((ji21):Int) (((rd x6_3 (ji21))+(ji26)) % 256)
        rw[<- Ny401.out]at HP30
        have HQ30:=Aside0.mk HP30
        clear HP30
        refine start_ (n:=19) (S:=fun w'=>w'.cell? ⟨go27,((ji21)).toNat,none⟩=some (.int .u8 (rd x6_3 (ji21)))) (ds:=[18]) #[false,false,false,false,false,false,false,false,false,false,false,false,false,false,false,false,false,false,false] (by kernel_rfl) rfl rfl (hx400_0) (fun hHeld=>?_);refine with_tabW dragnetref03_Pack.tab13 dragnetref03_Pack.bits13 (fun HT_ HW_=>?_)
        generalize wr.drew=w28 at HO_6 HB GG27 HQ30 hf27_0 hx27_0 hx400_0 hHeld ⊢
        refine pv_ (i:=0) (N:=some 46) HT_ ?_
        refine pv_ (i:=1) (N:=some 47) HT_ ?_
        refine pv_ (i:=2) (N:=some 48) HT_ ?_
        refine pv_ (i:=3) (N:=some 49) HT_ ?_
        refine pv_ (i:=4) (N:=some 50) HT_ ?_
        refine pv_ (i:=5) (N:=some 51) HT_ ?_
        refine pv_ (i:=6) (N:=some 52) HT_ ?_
        refine pv_ (i:=7) (N:=some 53) HT_ ?_
        refine pv_ (i:=9) (N:=some 55) HT_ ?_
        refine pv_ (i:=10) (N:=some 56) HT_ ?_
        refine pv_ (i:=11) (N:=some 57) HT_ ?_
        refine pv_ (i:=12) (N:=some 58) HT_ ?_
        refine pv_ (i:=13) (N:=some 59) HT_ ?_
        refine pv_ (i:=14) (N:=some 60) HT_ ?_
        refine pv_ (i:=15) (N:=some 61) HT_ ?_
        refine tv_ (i:=8) (N:=some 54) HT_ HW_ hHeld ?_
        refine pv_ (i:=16) (N:=some 62) HT_ ?_
        refine pv_ (i:=17) (N:=some 63) HT_ ?_
        refine last_ (i:=18) (N:=none) #[tT,tT,tT,tT,tT,tT,tT,tT,tT,tT,tT,tT,tT,tT,tT,tT,tT,tT,tT] rfl rfl (one_of HT_.out (by kernel_rfl)) (by decide) (fun K hK=>?_)
        refine skip_ (w1:=?_) (by rfl) rfl ?_ ?_
        rotate_left
        .go_simp
         rfl
        refine hK.out _ _ ?_
        clear hK K
        refine done_ (done_of HT_.out (by kernel_rfl)) ?_
        try go_wp2
        subst hji26 hji24 hji21 hji19
        go_roundg k3
        case measure=>have:=HJ2.out;have:=HK2.out;have:=HK3.out;omega
        case rel=>exact⟨(y401),(wrap64 (x8_3+1)),rs_,H',⟨by have:=HJ2.out;have:=HK2.out;have:=HK3.out;omega⟩,⟨Kd.ru_ HQ30.out⟩,⟨by repeat(first|(with_reducible first|exact HB.out|apply pbA_|apply pbN_|apply pb1_|refine below_set ?_ GB27.out)|exact HB.out)⟩⟩
mutual
def dragnetref04_By.l0:Nat->List Int->Int->Int->Int->Option (List Int)
 |0,_,_,_,_=>none
 |k+1,x0,x1,x5,x6=>if x6 < (x0.length:Int)then(if 0<=x6 then(dragnetref04_By.l0 k x0 x1 (mn x5 (rd x0 x6)) (wrap64 (x6+1)))else(none))else(dragnetref04_By.l1 k x0 x1 x5 ([]:List Int) ([]:List Int) 0 0)
def dragnetref04_By.l1:Nat->List Int->Int->Int->List Int->List Int->Int->Int->Option (List Int)
 |0,_,_,_,_,_,_,_=>none
 |k+1,x0,x1,x5,x7,x8,x9,x10=>if x10 < (x0.length:Int)then(if 0<=x10 then(if x1=64 then(if x7.length < 17592186044416 then(dragnetref04_By.l1 k x0 x1 x5 (x7++[IntKind.u64.wrap ((rd x0 x10) - x5)]) x8 x9 (wrap64 (x10+1)))else(none))else(if 0<=x1 then(if(shl .u64 1 x1)=0 then(none)else(if x7.length < 17592186044416 then((some (x7++[Int.tmod (IntKind.u64.wrap ((rd x0 x10) - x5)) (shl .u64 1 x1)]:List Int)).bind fun y433=>(if(shr .u64 (IntKind.u64.wrap ((rd x0 x10) - x5)) x1) > 0 then(if x8.length < 140737488355328 then((some (x8++[(x10) % 256]:List Int)).bind fun y436=>((dragnetref02_Bytes.f k (shr .u64 (IntKind.u64.wrap ((rd x0 x10) - x5)) x1)).bind fun t439=>(if y436.length+t439.length < 140737488355328 then(dragnetref04_By.l1 k x0 x1 x5 y433 (y436++t439) (wrap64 (x9+1)) (wrap64 (x10+1)))else(none))))else(none))else(dragnetref04_By.l1 k x0 x1 x5 y433 x8 x9 (wrap64 (x10+1)))))else(none)))else(none)))else(none))else((dragnetref03_Pack.f k x7 x1).bind fun bt404=>((some (([((x0.length:Int)) % 256]:List Int):List Int)).bind fun y408=>((dragnetref02_Bytes.f k x5).bind fun t411=>(if y408.length+t411.length < 140737488355328 then((some (y408++t411:List Int)).bind fun y414=>((some (([(x1) % 256,(x9) % 256]:List Int):List Int)).bind fun y417=>(if y414.length+y417.length < 140737488355328 then((some (y414++y417:List Int)).bind fun y420=>(if y420.length+bt404.1.length < 140737488355328 then((some (y420++bt404.1:List Int)).bind fun y423=>(if y423.length+x8.length < 140737488355328 then(some (y423++x8))else(none)))else(none)))else(none))))else(none)))))
end
def dragnetref04_By.f (k:Nat) (l0:List Int) (a1:Int):Option (List Int):=if 0 < (l0.length:Int)then(dragnetref04_By.l0 k l0 a1 (rd l0 0) 0)else(none)
theorem dragnetref04_By.mono_l:∀ k,(∀ y0 y1 y2 y3,LeO (dragnetref04_By.l0 k y0 y1 y2 y3) (dragnetref04_By.l0 (k+1) y0 y1 y2 y3))∧(∀ y0 y1 y2 y3 y4 y5 y6,LeO (dragnetref04_By.l1 k y0 y1 y2 y3 y4 y5 y6) (dragnetref04_By.l1 (k+1) y0 y1 y2 y3 y4 y5 y6))
 |0=>⟨fun _ _ _ _ r h=>by simp[dragnetref04_By.l0]at h,fun _ _ _ _ _ _ _ r h=>by simp[dragnetref04_By.l1]at h⟩
 |k+1=>by
  obtain⟨ih0,ih1⟩:=dragnetref04_By.mono_l k
  refine⟨?_,?_⟩
  .intro y0 y1 y2 y3
   unfold dragnetref04_By.l0
   repeat' first
   |(with_reducible exact ih0 _ _ _ _)
   |(with_reducible exact ih1 _ _ _ _ _ _ _)
   |(with_reducible exact dragnetref02_Bytes.mono _ _)
   |(with_reducible exact dragnetref03_Pack.mono _ _ _)
   |(with_reducible exact LeO.refl _)
   |(with_reducible exact LeO.none _)
   |(with_reducible refine LeO.ite ?_ ?_)
   |(with_reducible refine LeO.bind ?_ (fun _=>?_))
  .intro y0 y1 y2 y3 y4 y5 y6
   unfold dragnetref04_By.l1
   repeat' first
   |(with_reducible exact ih0 _ _ _ _)
   |(with_reducible exact ih1 _ _ _ _ _ _ _)
   |(with_reducible exact dragnetref02_Bytes.mono _ _)
   |(with_reducible exact dragnetref03_Pack.mono _ _ _)
   |(with_reducible exact LeO.refl _)
   |(with_reducible exact LeO.none _)
   |(with_reducible refine LeO.ite ?_ ?_)
   |(with_reducible refine LeO.bind ?_ (fun _=>?_))
theorem dragnetref04_By.mono:∀ a0 a1 k,LeO (dragnetref04_By.f k a0 a1) (dragnetref04_By.f (k+1) a0 a1):=by
 intro a0 a1 k
 obtain⟨ih0,ih1⟩:=dragnetref04_By.mono_l k
 unfold dragnetref04_By.f
 repeat' first
   |(with_reducible exact ih0 _ _ _ _)
   |(with_reducible exact ih1 _ _ _ _ _ _ _)
   |(with_reducible exact dragnetref02_Bytes.mono _ _)
   |(with_reducible exact dragnetref03_Pack.mono _ _ _)
   |(with_reducible exact LeO.refl _)
   |(with_reducible exact LeO.none _)
   |(with_reducible refine LeO.ite ?_ ?_)
   |(with_reducible refine LeO.bind ?_ (fun _=>?_))
def dragnetref04_By.T18:Bool×List (List Nat×List Nat):=(true,[([],[]),([],[]),([1],[1]),([2],[2]),([0,3],[0,3]),([],[]),([],[]),([5,6],[5,6]),([7,4],[7]),([4,8,8],[4,8]),([9,9,0,1,2,3,4,5,6,7,8,9],[0,9])])
def dragnetref04_By.B18:List Nat:=[0,0,2,6,15,0,0,96,255,511,1023]
theorem dragnetref04_By.tab18:rtab .any (opsOf Try.f68 18)=dragnetref04_By.T18:=by kernel_rfl
theorem dragnetref04_By.bits18:waitsOk dragnetref04_By.T18.2 dragnetref04_By.B18=true:=by kernel_rfl
set_option maxHeartbeats 8000000 in
set_option maxRecDepth 100000 in
theorem dragnetref04_By.calls (k:Nat) (A0:Option Addr) (c0:Nat) (l0:List Int) (a1:Int) (r:List Int) (w:World) (hr0:Kd.C (Kd.int .u64) w A0 l0.length l0) (hc0:l0.length<=c0) (h:dragnetref04_By.f k l0 a1=some r):
  Calls Try.prog 68 #[.slice A0 l0.length c0,.int .i64 a1] w fun e w'=>∃ v0_:Value,e= .returned (v0_)∧Kd.R (Kd.int .u8) 5 w' w.heap.size (fun _=>True) v0_ r∧Below w.heap.size w w':=by
 have HR0:=Aside0.mk hr0
 have HC0:=Aside0.mk hc0
 clear hr0 hc0
 have HB:=Aside0.mk (Below.refl w.heap.size w)
 have H:(if 0 < (l0.length:Int)then(dragnetref04_By.l0 k l0 a1 (rd l0 0) 0)else(none))=some r:=h
 clear h
 by_cases c3:0 < (l0.length:Int)
 rotate_left
 .rw[if_neg c3]at H
  cases H
 rw[if_pos c3]at H
 have c3b0:=decide_eq_true c3
 have c3b1:decide (0 < l0.length)=true:=decide_eq_true (by omega)
 clear c3
 have H':=Aside0.mk H
 clear H
 have p402:0<=(0:Int):=(by omega)
 have q402:0 < (l0.length:Int):=od_
 obtain⟨ad402,e402,hx402_0⟩:=Kd.at_int HR0.out 0 p402 q402
 cases e402
 have qi402:(0 < l0.length)=True:=eq_true (by omega)
 rw[show((0:Int)).toNat=0 from rfl]at hx402_0
 rw[Addr.add_zero']at hx402_0
 replace p402:=eq_true p402
 replace q402:=eq_true q402
 go_enter Try.func68,Try.ntmps68
 go_wp2
 go_loopg [5,6] k (fun kq v5 v6 w'=>∃ (x5_1:Int) (x6_1:Int),v5= .int .u64 x5_1∧v6= .int .i64 x6_1∧Aside0 (dragnetref04_By.l0 kq l0 a1 x5_1 x6_1=some r)∧Aside0 (kq<=k)∧Aside0 (Below w.heap.size w w'))
 case atStart=>exact⟨(rd l0 0),(0),rs_,rs_,H',⟨Nat.le_refl _⟩,⟨bw_⟩⟩
 case round=>
  clear H'
  clear c3b0 c3b1 hx402_0 p402 q402
  obtain⟨x5_1,x6_1,rfl,rfl,HA,HK1,HB⟩:=hrel
  cases gk with
  |zero=>exact absurd HA.out (by simp[dragnetref04_By.l0])
  |succ k1=>
   have H:=HA.out
   clear HA
   simp only[dragnetref04_By.l0]at H
   by_cases c4:x6_1 < (l0.length:Int)
   .rw[if_pos c4]at H
    have c4b0:=decide_eq_true c4
    clear c4
    by_cases c5:0<=x6_1
    rotate_left
    .rw[if_neg c5]at H
     cases H
    rw[if_pos c5]at H
    have c5b0:=decide_eq_true c5
    clear c5
    obtain⟨ji6,hji6⟩:∃ j_:Int,(mn x5_1 (rd l0 x6_1))=j_:=⟨_,rfl⟩
    replace H:(dragnetref04_By.l0 k1 l0 a1 ji6 (wrap64 (x6_1+1)))=some r:=hj_ hji6 H
    have hji6_:(if(rd l0 x6_1) < x5_1 then(rd l0 x6_1)else x5_1)=ji6:=hji6
    have H':=Aside0.mk H
    clear H
    have p403:0<=(x6_1:Int):=od_
    have q403:x6_1 < (l0.length:Int):=od_
    obtain⟨ad403,e403,hx403_0⟩:=Kd.at_int HR0.out x6_1 p403 q403
    obtain rfl:ad402=ad403:=(by injection e403)
    replace hx403_0:=cx_ HB.out rfl hx403_0
    replace p403:=eq_true p403
    replace q403:=eq_true q403
    go_wp2
    subst hji6
    go_roundg k1
    case measure=>have:=HK1.out;omega
    case rel=>exact⟨((mn x5_1 (rd l0 x6_1))),(wrap64 (x6_1+1)),(by first|rfl|(simp;done)|(simp only[<- hji6]<;>(first|rfl|simp))|(simp[*];done)),rs_,H',⟨by have:=HK1.out;omega⟩,⟨bw_⟩⟩
   .rw[if_neg c4]at H
    have c4b0:=decide_eq_false c4
    clear c4
    have H':=Aside0.mk H
    clear H
    go_wp2
    go_loopg [7,8,9,10] k1 (fun kq v7 v8 v9 v10 w'=>∃ (x7_2:List Int) (x8_2:List Int) (x9_2:Int) (x10_2:Int),v9= .int .i64 x9_2∧v10= .int .i64 x10_2∧Aside0 (dragnetref04_By.l1 kq l0 a1 x5_1 x7_2 x8_2 x9_2 x10_2=some r)∧Aside0 (kq<=k1)∧Aside0 (Kd.R (Kd.int .u64) 48 w' w.heap.size (fun _=>True) v7 x7_2)∧Aside0 (Kd.R (Kd.int .u8) 5 w' w.heap.size (fun _=>True) v8 x8_2)∧Aside0 (Below w.heap.size w w'))
    case atStart=>exact⟨(([]:List Int)),(([]:List Int)),(0),(0),rs_,rs_,H',⟨Nat.le_refl _⟩,⟨ni_⟩,⟨ni_⟩,⟨bw_⟩⟩
    case round=>
     clear H'
     clear c4b0
     obtain⟨x7_2,x8_2,x9_2,x10_2,rfl,rfl,HA,HK2,HO_7,HO_8,HB⟩:=hrel
     cases gk with
     |zero=>exact absurd HA.out (by simp[dragnetref04_By.l1])
     |succ k2=>
      have H:=HA.out
      clear HA
      simp only[dragnetref04_By.l1]at H
      by_cases c7:x10_2 < (l0.length:Int)
      rotate_left
      .rw[if_neg c7]at H
       have c7b0:=decide_eq_false c7
       clear c7
       replace H:=Option.bind_eq_some_iff.mp H
       obtain⟨⟨t404,t405⟩,A300,H⟩:=H
       try dsimp only at H
       have A30:=Aside0.mk A300
       clear A300
       obtain⟨y408,hy408⟩:∃ y_:List Int,y_=(([((l0.length:Int)) % 256]:List Int)):=⟨_,rfl⟩
       replace H:((dragnetref02_Bytes.f k2 x5_1).bind fun t411=>(if y408.length+t411.length < 140737488355328 then((some (y408++t411:List Int)).bind fun y414=>((some (([(a1) % 256,(x9_2) % 256]:List Int):List Int)).bind fun y417=>(if y414.length+y417.length < 140737488355328 then((some (y414++y417:List Int)).bind fun y420=>(if y420.length+t404.length < 140737488355328 then((some (y420++t404:List Int)).bind fun y423=>(if y423.length+x8_2.length < 140737488355328 then(some (y423++x8_2))else(none)))else(none)))else(none))))else(none)))=some r:=hx_ hy408 H
       have Ny408:=Aside0.mk hy408
       clear hy408
       replace H:=Option.bind_eq_some_iff.mp H
       obtain⟨t411,A310,H⟩:=H
       try dsimp only at H
       have A31:=Aside0.mk A310
       clear A310
       by_cases c32:y408.length+t411.length < 140737488355328
       rotate_left
       .rw[if_neg c32]at H
        cases H
       rw[if_pos c32]at H
       have LMc32:=Aside0.mk c32
       clear c32
       obtain⟨y414,hy414⟩:∃ y_:List Int,y_=(y408++t411):=⟨_,rfl⟩
       replace H:((some (([(a1) % 256,(x9_2) % 256]:List Int):List Int)).bind fun y417=>(if y414.length+y417.length < 140737488355328 then((some (y414++y417:List Int)).bind fun y420=>(if y420.length+t404.length < 140737488355328 then((some (y420++t404:List Int)).bind fun y423=>(if y423.length+x8_2.length < 140737488355328 then(some (y423++x8_2))else(none)))else(none)))else(none)))=some r:=hx_ hy414 H
       have Ny414:=Aside0.mk hy414
       clear hy414
       obtain⟨y417,hy417⟩:∃ y_:List Int,y_=(([(a1) % 256,(x9_2) % 256]:List Int)):=⟨_,rfl⟩
       replace H:(if y414.length+y417.length < 140737488355328 then((some (y414++y417:List Int)).bind fun y420=>(if y420.length+t404.length < 140737488355328 then((some (y420++t404:List Int)).bind fun y423=>(if y423.length+x8_2.length < 140737488355328 then(some (y423++x8_2))else(none)))else(none)))else(none))=some r:=hx_ hy417 H
       have Ny417:=Aside0.mk hy417
       clear hy417
       by_cases c33:y414.length+y417.length < 140737488355328
       rotate_left
       .rw[if_neg c33]at H
        cases H
       rw[if_pos c33]at H
       have LMc33:=Aside0.mk c33
       clear c33
       obtain⟨y420,hy420⟩:∃ y_:List Int,y_=(y414++y417):=⟨_,rfl⟩
       replace H:(if y420.length+t404.length < 140737488355328 then((some (y420++t404:List Int)).bind fun y423=>(if y423.length+x8_2.length < 140737488355328 then(some (y423++x8_2))else(none)))else(none))=some r:=hx_ hy420 H
       have Ny420:=Aside0.mk hy420
       clear hy420
       by_cases c34:y420.length+t404.length < 140737488355328
       rotate_left
       .rw[if_neg c34]at H
        cases H
       rw[if_pos c34]at H
       have LMc34:=Aside0.mk c34
       clear c34
       obtain⟨y423,hy423⟩:∃ y_:List Int,y_=(y420++t404):=⟨_,rfl⟩
       replace H:(if y423.length+x8_2.length < 140737488355328 then(some (y423++x8_2))else(none))=some r:=hx_ hy423 H
       have Ny423:=Aside0.mk hy423
       clear hy423
       by_cases c35:y423.length+x8_2.length < 140737488355328
       rotate_left
       .rw[if_neg c35]at H
        cases H
       rw[if_pos c35]at H
       have LMc35:=Aside0.mk c35
       clear c35
       obtain⟨y426,hy426⟩:∃ y_:List Int,y_=(y423++x8_2):=⟨_,rfl⟩
       replace H:(some y426)=some r:=hx_ hy426 H
       have Ny426:=Aside0.mk hy426
       clear hy426
       obtain rfl:=Option.some.inj H
       obtain⟨Ao36,co36,eo36⟩:=Kd.R_slice HO_7.out
       subst eo36
       go_wp2_with (first|((with_reducible refine gaC_ (f:=75) rfl ?_);refine goesL_ (some 74) rfl rfl Try.func75 (by kernel_rfl) rfl #[.slice Ao36 x7_2.length co36,.int .i64 a1] rfl am_ ?_;(with_reducible refine(dragnetref03_Pack.calls k2 _ _ x7_2 a1 t404 t405 _ ?side1 ?side2 A30.out).mono ?_);(case side1=>exact Kd.cu_ (Kd.R_reads' HO_7.out).2.2);(case side2=>exact(Kd.R_reads' HO_7.out).2.1);rintro e w37 ⟨v406,rfl,ho0,hb⟩;refine⟨_,rfl,?_⟩;have n0_:=Aside0.mk (Kd.R_below (Kd.ru_ HO_7.out) hb);have n1_:=Aside0.mk (Kd.R_elder' (Kd.ru_ HO_8.out) (Kd.R_base ho0) hb);have n2_:=Aside0.mk (Kd.R_lower (Kd.R_new' ho0 (Kd.R_lt (Kd.ru_ HO_8.out))) (pbS_ bw_));have n3_:=Aside0.mk (below_step bw_ hb);clear HO_7;clear HO_8;clear HB;have HO_7:=n0_;have HO_8:=n1_;have HO407:=n2_;have HB:=n3_;clear n0_ n1_ n2_ n3_)|((with_reducible refine gate_dst (N:=80) rfl ?_);refine Kd.R_lit (Kd.int .u8) _ 5 ?hg (N:=80) ?hd (xs:=([((l0.length:Int)) % 256]:List Int)) (inner:=[.int .u8 (((l0.length:Int)) % 256)]) (ok:=fun _=>True) (okp:=fun _=>True) ?hr ?hp (fun _ hk=>hk) trivial (Below.refl _ _) (Nat.le_refl _) (by simp) ?_;(case hd=>rfl);(case hg=>rfl);(case hr=>first|(go_simp;done)|(go_simp;rfl));(case hp=>exact(Reps.one (show Kd.M (Kd.int .u8) _ _ _ (((l0.length:Int)) % 256) [.int .u8 (((l0.length:Int)) % 256)] from rfl) (Reps.none _ _)));intro v409 w38 ho39 hb hg_ hnew_;clear hg_ hnew_;(first|rw[<- Ny408.out]at ho39|(simp only[Int.reduceToNat]at ho39;rw[<- Ny408.out]at ho39));have n0_:=Aside0.mk (Kd.R_below (Kd.ru_ HO_7.out) hb);have n1_:=Aside0.mk (Kd.R_elder' (Kd.ru_ HO_8.out) (Kd.R_base ho39) hb);have n2_:=Aside0.mk (Kd.R_elder' (Kd.ru_ HO407.out) (Kd.R_base ho39) hb);have n3_:=Aside0.mk (Kd.R_lower (Kd.R_new' (Kd.R_new' ho39 (Kd.R_lt (Kd.ru_ HO_8.out))) (Kd.R_lt (Kd.ru_ HO407.out))) (pbS_ bw_));have n4_:=Aside0.mk (below_step bw_ hb);clear HO_7;clear HO_8;clear HO407;clear HB;have HO_7:=n0_;have HO_8:=n1_;have HO407:=n2_;have HO410:=n3_;have HB:=n4_;clear n0_ n1_ n2_ n3_ n4_;clear hb ho39)|((with_reducible refine gaC_ (f:=31) rfl ?_);refine goesL_ (some 82) rfl rfl Try.func31 (by kernel_rfl) rfl #[.int .u64 x5_1] rfl am_ ?_;(with_reducible refine(dragnetref02_Bytes.calls k2 x5_1 t411 _ A31.out).mono ?_);rintro e w40 ⟨v412,rfl,ho0,hb⟩;refine⟨_,rfl,?_⟩;have n0_:=Aside0.mk (Kd.R_below (Kd.ru_ HO_7.out) hb);have n1_:=Aside0.mk (Kd.R_elder' (Kd.ru_ HO_8.out) (Kd.R_base ho0) hb);have n2_:=Aside0.mk (Kd.R_elder' (Kd.ru_ HO407.out) (Kd.R_base ho0) hb);have n3_:=Aside0.mk (Kd.R_elder' (Kd.ru_ HO410.out) (Kd.R_base ho0) hb);have n4_:=Aside0.mk (Kd.R_lower (Kd.R_new' (Kd.R_new' (Kd.R_new' ho0 (Kd.R_lt (Kd.ru_ HO_8.out))) (Kd.R_lt (Kd.ru_ HO407.out))) (Kd.R_lt (Kd.ru_ HO410.out))) (pbS_ bw_));have n5_:=Aside0.mk (below_step bw_ hb);clear HO_7;clear HO_8;clear HO407;clear HO410;clear HB;have HO_7:=n0_;have HO_8:=n1_;have HO407:=n2_;have HO410:=n3_;have HO413:=n4_;have HB:=n5_;clear n0_ n1_ n2_ n3_ n4_ n5_;obtain⟨Ao42,co42,eo42⟩:=Kd.R_slice HO413.out;subst eo42)|((with_reducible refine gate_builtin (b:= .append) (xs:= #[.tmp 80,.tmp 82]) rfl ?_);at_builtin;refine Kd.R_append_rows (Kd.int .u8) (w0:=w) w.heap.size rfl (.tmp 80) (.tmp 82) 22 5 (.int .u8 0) 1 rfl Try.underlying22 info5 rfl (by decide) (by omega) v409 y408 t411 _ _ _ (fun k_=>some k_≠(u8:Value).ownBlock∧some k_≠(v406:Value).ownBlock∧some k_≠(.slice Ao42 t411.length co42:Value).ownBlock) (fun _=>False) rfl rfl ?aO ?aR (fun _ _ h=>h) (fun _ h=>h.elim) ?aF ?aB ?aS ?aL ?_;(case aR=>exact Kd.cu_ (Kd.R_reads' HO413.out).2.2);(case aB=>exact bw_);(case aF=>exact(fun k_ hk=>⟨Kd.fresh' (Kd.R_lt (Kd.ru_ HO_8.out)) k_ hk,Kd.fresh' (Kd.R_lt (Kd.ru_ HO407.out)) k_ hk,Kd.fresh' (Kd.R_lt (Kd.ru_ HO413.out)) k_ hk⟩));(case aO=>exact(by(with_reducible repeat(first|apply Kd.rA_|apply Kd.rN_|apply Kd.rD_));exact Kd.R_mono HO410.out (fun _ hk=>⟨hk.1.1.2,⟨hk.1.2,hk.2⟩⟩)));(case aS=>exact(pbS_ bw_));(case aL=>have:=LMc32.out;omega);intro v415 w41 ho hb hg hat;rw[<- Ny414.out]at ho;have n0_:=Aside0.mk (Kd.R_over' (Kd.ru_ HO_7.out) (Kd.R_typed (Kd.ru_ HO410.out)) (by decide) hg);have n1_:=Aside0.mk (Kd.R_after (ok:=(fun k_=>some k_≠(v406:Value).ownBlock∧some k_≠(.slice Ao42 t411.length co42:Value).ownBlock)) (by(with_reducible repeat(first|apply Kd.rA_|apply Kd.rN_|apply Kd.rD_));exact Kd.R_mono HO_8.out (fun _ hk=>⟨⟨hk.1.1.2,hk.2⟩,hk.1.2⟩)) hg hat);have n2_:=Aside0.mk (Kd.R_after (ok:=(fun k_=>some k_≠(u8:Value).ownBlock∧some k_≠(.slice Ao42 t411.length co42:Value).ownBlock)) (by(with_reducible repeat(first|apply Kd.rA_|apply Kd.rN_|apply Kd.rD_));exact Kd.R_mono HO407.out (fun _ hk=>⟨⟨hk.1.1.2,hk.2⟩,hk.1.2⟩)) hg hat);have n3_:=Aside0.mk (Kd.R_after (ok:=(fun k_=>some k_≠(u8:Value).ownBlock∧some k_≠(v406:Value).ownBlock)) (by(with_reducible repeat(first|apply Kd.rA_|apply Kd.rN_|apply Kd.rD_));exact Kd.R_mono HO413.out (fun _ hk=>⟨⟨hk.1.1.2,hk.1.2⟩,hk.2⟩)) hg hat);have n4_:=Aside0.mk (hb);have n5_:=Aside0.mk (ho);clear HO_7;clear HO_8;clear HO407;clear HO413;clear HB;clear HO410;have HO_7:=n0_;have HO_8:=n1_;have HO407:=n2_;have HO413:=n3_;have HB:=n4_;have HO416:=n5_;clear n0_ n1_ n2_ n3_ n4_ n5_;clear ho hb hg hat)|((with_reducible refine gate_dst (N:=89) rfl ?_);refine Kd.R_lit (Kd.int .u8) _ 5 ?hg (N:=89) ?hd (xs:=([(a1) % 256,(x9_2) % 256]:List Int)) (inner:=[.int .u8 ((a1) % 256),.int .u8 ((x9_2) % 256)]) (ok:=fun _=>True) (okp:=fun _=>True) ?hr ?hp (fun _ hk=>hk) trivial (Below.refl _ _) (Nat.le_refl _) (by simp) ?_;(case hd=>rfl);(case hg=>rfl);(case hr=>first|(go_simp;done)|(go_simp;rfl));(case hp=>exact(Reps.one (show Kd.M (Kd.int .u8) _ _ _ ((a1) % 256) [.int .u8 ((a1) % 256)] from rfl) (Reps.one (show Kd.M (Kd.int .u8) _ _ _ ((x9_2) % 256) [.int .u8 ((x9_2) % 256)] from rfl) (Reps.none _ _))));intro v418 w43 ho44 hb hg_ hnew_;clear hg_ hnew_;(first|rw[<- Ny417.out]at ho44|(simp only[Int.reduceToNat]at ho44;rw[<- Ny417.out]at ho44));have n0_:=Aside0.mk (Kd.R_below (Kd.ru_ HO_7.out) hb);have n1_:=Aside0.mk (Kd.R_elder' (Kd.ru_ HO_8.out) (Kd.R_base ho44) hb);have n2_:=Aside0.mk (Kd.R_elder' (Kd.ru_ HO407.out) (Kd.R_base ho44) hb);have n3_:=Aside0.mk (Kd.R_elder' (Kd.ru_ HO413.out) (Kd.R_base ho44) hb);have n4_:=Aside0.mk (Kd.R_elder' (Kd.ru_ HO416.out) (Kd.R_base ho44) hb);have n5_:=Aside0.mk (Kd.R_lower (Kd.R_new' (Kd.R_new' (Kd.R_new' (Kd.R_new' ho44 (Kd.R_lt (Kd.ru_ HO_8.out))) (Kd.R_lt (Kd.ru_ HO407.out))) (Kd.R_lt (Kd.ru_ HO413.out))) (Kd.R_lt (Kd.ru_ HO416.out))) (pbS_ bw_));have n6_:=Aside0.mk (below_step bw_ hb);clear HO_7;clear HO_8;clear HO407;clear HO413;clear HO416;clear HB;have HO_7:=n0_;have HO_8:=n1_;have HO407:=n2_;have HO413:=n3_;have HO416:=n4_;have HO419:=n5_;have HB:=n6_;clear n0_ n1_ n2_ n3_ n4_ n5_ n6_;clear hb ho44;obtain⟨Ao46,co46,eo46⟩:=Kd.R_slice HO419.out;subst eo46)|((with_reducible refine gate_builtin (b:= .append) (xs:= #[.tmp 84,.tmp 89]) rfl ?_);at_builtin;refine Kd.R_append_rows (Kd.int .u8) (w0:=w) w.heap.size rfl (.tmp 84) (.tmp 89) 22 5 (.int .u8 0) 1 rfl Try.underlying22 info5 rfl (by decide) (by omega) v415 y414 y417 _ _ _ (fun k_=>some k_≠(u8:Value).ownBlock∧some k_≠(v406:Value).ownBlock∧some k_≠(.slice Ao42 t411.length co42:Value).ownBlock∧some k_≠(.slice Ao46 y417.length co46:Value).ownBlock) (fun _=>False) rfl rfl ?aO ?aR (fun _ _ h=>h) (fun _ h=>h.elim) ?aF ?aB ?aS ?aL ?_;(case aR=>exact Kd.cu_ (Kd.R_reads' HO419.out).2.2);(case aB=>exact bw_);(case aF=>exact(fun k_ hk=>⟨Kd.fresh' (Kd.R_lt (Kd.ru_ HO_8.out)) k_ hk,Kd.fresh' (Kd.R_lt (Kd.ru_ HO407.out)) k_ hk,Kd.fresh' (Kd.R_lt (Kd.ru_ HO413.out)) k_ hk,Kd.fresh' (Kd.R_lt (Kd.ru_ HO419.out)) k_ hk⟩));(case aO=>exact(by(with_reducible repeat(first|apply Kd.rA_|apply Kd.rN_|apply Kd.rD_));exact Kd.R_mono HO416.out (fun _ hk=>⟨hk.1.1,⟨hk.1.2.1,⟨hk.1.2.2,hk.2⟩⟩⟩)));(case aS=>exact(pbS_ bw_));(case aL=>have:=LMc33.out;omega);intro v421 w45 ho hb hg hat;rw[<- Ny420.out]at ho;have n0_:=Aside0.mk (Kd.R_over' (Kd.ru_ HO_7.out) (Kd.R_typed (Kd.ru_ HO416.out)) (by decide) hg);have n1_:=Aside0.mk (Kd.R_after (ok:=(fun k_=>some k_≠(v406:Value).ownBlock∧some k_≠(.slice Ao42 t411.length co42:Value).ownBlock∧some k_≠(.slice Ao46 y417.length co46:Value).ownBlock)) (by(with_reducible repeat(first|apply Kd.rA_|apply Kd.rN_|apply Kd.rD_));exact Kd.R_mono HO_8.out (fun _ hk=>⟨⟨hk.1.1.1,⟨hk.1.1.2,hk.2⟩⟩,hk.1.2⟩)) hg hat);have n2_:=Aside0.mk (Kd.R_after (ok:=(fun k_=>some k_≠(u8:Value).ownBlock∧some k_≠(.slice Ao42 t411.length co42:Value).ownBlock∧some k_≠(.slice Ao46 y417.length co46:Value).ownBlock)) (by(with_reducible repeat(first|apply Kd.rA_|apply Kd.rN_|apply Kd.rD_));exact Kd.R_mono HO407.out (fun _ hk=>⟨⟨hk.1.1.1,⟨hk.1.1.2,hk.2⟩⟩,hk.1.2⟩)) hg hat);have n3_:=Aside0.mk (Kd.R_after (ok:=(fun k_=>some k_≠(u8:Value).ownBlock∧some k_≠(v406:Value).ownBlock∧some k_≠(.slice Ao46 y417.length co46:Value).ownBlock)) (by(with_reducible repeat(first|apply Kd.rA_|apply Kd.rN_|apply Kd.rD_));exact Kd.R_mono HO413.out (fun _ hk=>⟨⟨hk.1.1.1,⟨hk.1.1.2,hk.2⟩⟩,hk.1.2⟩)) hg hat);have n4_:=Aside0.mk (Kd.R_after (ok:=(fun k_=>some k_≠(u8:Value).ownBlock∧some k_≠(v406:Value).ownBlock∧some k_≠(.slice Ao42 t411.length co42:Value).ownBlock)) (by(with_reducible repeat(first|apply Kd.rA_|apply Kd.rN_|apply Kd.rD_));exact Kd.R_mono HO419.out (fun _ hk=>⟨⟨hk.1.1.1.2,⟨hk.1.1.2,hk.1.2⟩⟩,hk.2⟩)) hg hat);have n5_:=Aside0.mk (hb);have n6_:=Aside0.mk (ho);clear HO_7;clear HO_8;clear HO407;clear HO413;clear HO419;clear HB;clear HO416;have HO_7:=n0_;have HO_8:=n1_;have HO407:=n2_;have HO413:=n3_;have HO419:=n4_;have HB:=n5_;have HO422:=n6_;clear n0_ n1_ n2_ n3_ n4_ n5_ n6_;clear ho hb hg hat;obtain⟨Ao48,co48,eo48⟩:=Kd.R_slice HO407.out;subst eo48)|((with_reducible refine gate_builtin (b:= .append) (xs:= #[.tmp 90,.tmp 91]) rfl ?_);at_builtin;refine Kd.R_append_rows (Kd.int .u8) (w0:=w) w.heap.size rfl (.tmp 90) (.tmp 91) 22 5 (.int .u8 0) 1 rfl Try.underlying22 info5 rfl (by decide) (by omega) v421 y420 t404 _ _ _ (fun k_=>some k_≠(u8:Value).ownBlock∧some k_≠(.slice Ao48 t404.length co48:Value).ownBlock∧some k_≠(.slice Ao42 t411.length co42:Value).ownBlock∧some k_≠(.slice Ao46 y417.length co46:Value).ownBlock) (fun _=>False) rfl rfl ?aO ?aR (fun _ _ h=>h) (fun _ h=>h.elim) ?aF ?aB ?aS ?aL ?_;(case aR=>exact Kd.cu_ (Kd.R_reads' HO407.out).2.2);(case aB=>exact bw_);(case aF=>exact(fun k_ hk=>⟨Kd.fresh' (Kd.R_lt (Kd.ru_ HO_8.out)) k_ hk,Kd.fresh' (Kd.R_lt (Kd.ru_ HO407.out)) k_ hk,Kd.fresh' (Kd.R_lt (Kd.ru_ HO413.out)) k_ hk,Kd.fresh' (Kd.R_lt (Kd.ru_ HO419.out)) k_ hk⟩));(case aO=>exact(Kd.ru_ HO422.out));(case aS=>exact(pbS_ bw_));(case aL=>have:=LMc34.out;omega);intro v424 w47 ho hb hg hat;rw[<- Ny423.out]at ho;have n0_:=Aside0.mk (Kd.R_over' (Kd.ru_ HO_7.out) (Kd.R_typed (Kd.ru_ HO422.out)) (by decide) hg);have n1_:=Aside0.mk (Kd.R_after (ok:=(fun k_=>some k_≠(.slice Ao48 t404.length co48:Value).ownBlock∧some k_≠(.slice Ao42 t411.length co42:Value).ownBlock∧some k_≠(.slice Ao46 y417.length co46:Value).ownBlock)) (Kd.ru_ HO_8.out) hg hat);have n2_:=Aside0.mk (Kd.R_after (ok:=(fun k_=>some k_≠(u8:Value).ownBlock∧some k_≠(.slice Ao42 t411.length co42:Value).ownBlock∧some k_≠(.slice Ao46 y417.length co46:Value).ownBlock)) (Kd.ru_ HO407.out) hg hat);have n3_:=Aside0.mk (Kd.R_after (ok:=(fun k_=>some k_≠(u8:Value).ownBlock∧some k_≠(.slice Ao48 t404.length co48:Value).ownBlock∧some k_≠(.slice Ao46 y417.length co46:Value).ownBlock)) (Kd.ru_ HO413.out) hg hat);have n4_:=Aside0.mk (Kd.R_after (ok:=(fun k_=>some k_≠(u8:Value).ownBlock∧some k_≠(.slice Ao48 t404.length co48:Value).ownBlock∧some k_≠(.slice Ao42 t411.length co42:Value).ownBlock)) (Kd.ru_ HO419.out) hg hat);have n5_:=Aside0.mk (hb);have n6_:=Aside0.mk (ho);clear HO_7;clear HO_8;clear HO407;clear HO413;clear HO419;clear HB;clear HO422;have HO_7:=n0_;have HO_8:=n1_;have HO407:=n2_;have HO413:=n3_;have HO419:=n4_;have HB:=n5_;have HO425:=n6_;clear n0_ n1_ n2_ n3_ n4_ n5_ n6_;clear ho hb hg hat;obtain⟨Ao50,co50,eo50⟩:=Kd.R_slice HO_8.out;subst eo50)|((with_reducible refine gate_builtin (b:= .append) (xs:= #[.tmp 92,.tmp 93]) rfl ?_);at_builtin;refine Kd.R_append_rows (Kd.int .u8) (w0:=w) w.heap.size rfl (.tmp 92) (.tmp 93) 22 5 (.int .u8 0) 1 rfl Try.underlying22 info5 rfl (by decide) (by omega) v424 y423 x8_2 _ _ _ (fun k_=>some k_≠(.slice Ao50 x8_2.length co50:Value).ownBlock∧some k_≠(.slice Ao48 t404.length co48:Value).ownBlock∧some k_≠(.slice Ao42 t411.length co42:Value).ownBlock∧some k_≠(.slice Ao46 y417.length co46:Value).ownBlock) (fun _=>False) rfl rfl ?aO ?aR (fun _ _ h=>h) (fun _ h=>h.elim) ?aF ?aB ?aS ?aL ?_;(case aR=>exact Kd.cu_ (Kd.R_reads' HO_8.out).2.2);(case aB=>exact bw_);(case aF=>exact(fun k_ hk=>⟨Kd.fresh' (Kd.R_lt (Kd.ru_ HO_8.out)) k_ hk,Kd.fresh' (Kd.R_lt (Kd.ru_ HO407.out)) k_ hk,Kd.fresh' (Kd.R_lt (Kd.ru_ HO413.out)) k_ hk,Kd.fresh' (Kd.R_lt (Kd.ru_ HO419.out)) k_ hk⟩));(case aO=>exact(Kd.ru_ HO425.out));(case aS=>exact(pbS_ bw_));(case aL=>have:=LMc35.out;omega);intro v427 w49 ho hb hg hat;rw[<- Ny426.out]at ho;have n0_:=Aside0.mk (Kd.R_over' (Kd.ru_ HO_7.out) (Kd.R_typed (Kd.ru_ HO425.out)) (by decide) hg);have n1_:=Aside0.mk (Kd.R_after (ok:=(fun k_=>some k_≠(.slice Ao48 t404.length co48:Value).ownBlock∧some k_≠(.slice Ao42 t411.length co42:Value).ownBlock∧some k_≠(.slice Ao46 y417.length co46:Value).ownBlock)) (Kd.ru_ HO_8.out) hg hat);have n2_:=Aside0.mk (Kd.R_after (ok:=(fun k_=>some k_≠(.slice Ao50 x8_2.length co50:Value).ownBlock∧some k_≠(.slice Ao42 t411.length co42:Value).ownBlock∧some k_≠(.slice Ao46 y417.length co46:Value).ownBlock)) (Kd.ru_ HO407.out) hg hat);have n3_:=Aside0.mk (Kd.R_after (ok:=(fun k_=>some k_≠(.slice Ao50 x8_2.length co50:Value).ownBlock∧some k_≠(.slice Ao48 t404.length co48:Value).ownBlock∧some k_≠(.slice Ao46 y417.length co46:Value).ownBlock)) (Kd.ru_ HO413.out) hg hat);have n4_:=Aside0.mk (Kd.R_after (ok:=(fun k_=>some k_≠(.slice Ao50 x8_2.length co50:Value).ownBlock∧some k_≠(.slice Ao48 t404.length co48:Value).ownBlock∧some k_≠(.slice Ao42 t411.length co42:Value).ownBlock)) (Kd.ru_ HO419.out) hg hat);have n5_:=Aside0.mk (hb);have n6_:=Aside0.mk (ho);clear HO_7;clear HO_8;clear HO407;clear HO413;clear HO419;clear HB;clear HO425;have HO_7:=n0_;have HO_8:=n1_;have HO407:=n2_;have HO413:=n3_;have HO419:=n4_;have HB:=n5_;have HO428:=n6_;clear n0_ n1_ n2_ n3_ n4_ n5_ n6_;clear ho hb hg hat))
       go_ret
       exact⟨_,rf_,by(with_reducible repeat(first|apply Kd.rA_|apply Kd.rN_|apply Kd.rD_));exact Kd.R_mono HO428.out (fun _ hk=>trivial),bw_⟩
      rw[if_pos c7]at H
      have c7b0:=decide_eq_true c7
      clear c7
      by_cases c8:0<=x10_2
      rotate_left
      .rw[if_neg c8]at H
       cases H
      rw[if_pos c8]at H
      have c8b0:=decide_eq_true c8
      clear c8
      by_cases c9:a1=64
      .rw[if_pos c9]at H
       have c9b0:=beq_iff_eq.mpr c9
       have c9b1:=bne_eq_false_iff_eq.mpr c9
       clear c9
       by_cases c10:x7_2.length < 17592186044416
       rotate_left
       .rw[if_neg c10]at H
        cases H
       rw[if_pos c10]at H
       have LMc10:=Aside0.mk c10
       clear c10
       obtain⟨y430,hy430⟩:∃ y_:List Int,y_=(x7_2++[IntKind.u64.wrap ((rd l0 x10_2) - x5_1)]):=⟨_,rfl⟩
       replace H:(dragnetref04_By.l1 k2 l0 a1 x5_1 y430 x8_2 x9_2 (wrap64 (x10_2+1)))=some r:=hx_ hy430 H
       have Ny430:=Aside0.mk hy430
       clear hy430
       have H':=Aside0.mk H
       clear H
       have p429:0<=(x10_2:Int):=od_
       have q429:x10_2 < (l0.length:Int):=od_
       obtain⟨ad429,e429,hx429_0⟩:=Kd.at_int HR0.out x10_2 p429 q429
       obtain rfl:ad402=ad429:=(by injection e429)
       replace hx429_0:=cx_ HB.out rfl hx429_0
       replace p429:=eq_true p429
       replace q429:=eq_true q429
       go_wp2_with (first|((with_reducible refine gate_builtin (b:= .append) (xs:= #[.tmp 44,.tmp 46]) rfl ?_);at_builtin;refine Kd.R_append (Kd.int .u64) (w0:=w) w.heap.size rfl (.tmp 44) (.tmp 46) 52 48 (.int .u64 0) 8 rfl Try.underlying52 info48 rfl (by decide) (by omega) u7 x7_2 (IntKind.u64.wrap ((rd l0 x10_2) - x5_1)) [.int .u64 (IntKind.u64.wrap ((rd l0 x10_2) - x5_1))] (fun _=>True) (fun _=>False) rfl rfl ?aP (fun _ hk=>hk.elim) ?aF ?aO ?aB ?aS ?aL ?_;(case aP=>exact rfl);(case aB=>exact bw_);(case aF=>exact(fun _ _=>trivial));(case aO=>exact(Kd.ru_ HO_7.out));(case aS=>exact(pbS_ bw_));(case aL=>have:=LMc10.out;omega);intro v431 w11 ho hb hg hat;rw[<- Ny430.out]at ho;have n0_:=Aside0.mk (Kd.R_over' (Kd.ru_ HO_8.out) (Kd.R_typed (Kd.ru_ HO_7.out)) (by decide) hg);have n1_:=Aside0.mk (hb);have n2_:=Aside0.mk (ho);clear HO_8;clear HB;clear HO_7;have HO_8:=n0_;have HB:=n1_;have HO432:=n2_;clear n0_ n1_ n2_;clear ho hb hg hat))
       go_roundg k2
       case measure=>have:=HK1.out;have:=HK2.out;omega
       case rel=>exact⟨(y430),(x8_2),(x9_2),(wrap64 (x10_2+1)),rs_,rs_,H',⟨by have:=HK1.out;have:=HK2.out;omega⟩,⟨Kd.ru_ HO432.out⟩,⟨Kd.ru_ HO_8.out⟩,⟨bw_⟩⟩
      .rw[if_neg c9]at H
       have c9b0:=beq_eq_false_iff_ne.mpr c9
       have c9b1:=bne_iff_ne.mpr c9
       by_cases c12:0<=a1
       rotate_left
       .rw[if_neg c12]at H
        cases H
       rw[if_pos c12]at H
       have c12b0:=eq_true c12
       have c12b1:=decide_eq_true c12
       clear c12
       obtain⟨ji13,hji13⟩:∃ j_:Int,(shl .u64 1 a1)=j_:=⟨_,rfl⟩
       replace H:(if(ji13)=0 then(none)else(if x7_2.length < 17592186044416 then((some (x7_2++[Int.tmod (IntKind.u64.wrap ((rd l0 x10_2) - x5_1)) (ji13)]:List Int)).bind fun y433=>(if(shr .u64 (IntKind.u64.wrap ((rd l0 x10_2) - x5_1)) a1) > 0 then(if x8_2.length < 140737488355328 then((some (x8_2++[(x10_2) % 256]:List Int)).bind fun y436=>((dragnetref02_Bytes.f k2 (shr .u64 (IntKind.u64.wrap ((rd l0 x10_2) - x5_1)) a1)).bind fun t439=>(if y436.length+t439.length < 140737488355328 then(dragnetref04_By.l1 k2 l0 a1 x5_1 y433 (y436++t439) (wrap64 (x9_2+1)) (wrap64 (x10_2+1)))else(none))))else(none))else(dragnetref04_By.l1 k2 l0 a1 x5_1 y433 x8_2 x9_2 (wrap64 (x10_2+1)))))else(none)))=some r:=hj_ hji13 H
       have hji13_:(IntKind.u64.wrap (1*2 ^ min a1.toNat 64))=ji13:=hji13
       have hji13z:a1<=64->(IntKind.u64.wrap (1*2 ^ a1.toNat))=ji13:=shl_small hji13
       have hji13u:(IntKind.u64.wrap (2 ^ min a1.toNat 64))=ji13:=by have h_:=hji13_;rw[Int.one_mul]at h_;exact h_
       have hji13v:a1<=64->(IntKind.u64.wrap (2 ^ a1.toNat))=ji13:=fun hle_=>by have h_:=hji13z hle_;rw[Int.one_mul]at h_;exact h_
       by_cases c14:(ji13)=0
       .rw[if_pos c14]at H
        cases H
       .rw[if_neg c14]at H
        have c14b0:=beq_eq_false_iff_ne.mpr c14
        have c14b1:=bne_iff_ne.mpr c14
        by_cases c15:x7_2.length < 17592186044416
        rotate_left
        .rw[if_neg c15]at H
         cases H
        rw[if_pos c15]at H
        have LMc15:=Aside0.mk c15
        clear c15
        obtain⟨y433,hy433⟩:∃ y_:List Int,y_=(x7_2++[Int.tmod (IntKind.u64.wrap ((rd l0 x10_2) - x5_1)) (ji13)]):=⟨_,rfl⟩
        replace H:(if(shr .u64 (IntKind.u64.wrap ((rd l0 x10_2) - x5_1)) a1) > 0 then(if x8_2.length < 140737488355328 then((some (x8_2++[(x10_2) % 256]:List Int)).bind fun y436=>((dragnetref02_Bytes.f k2 (shr .u64 (IntKind.u64.wrap ((rd l0 x10_2) - x5_1)) a1)).bind fun t439=>(if y436.length+t439.length < 140737488355328 then(dragnetref04_By.l1 k2 l0 a1 x5_1 y433 (y436++t439) (wrap64 (x9_2+1)) (wrap64 (x10_2+1)))else(none))))else(none))else(dragnetref04_By.l1 k2 l0 a1 x5_1 y433 x8_2 x9_2 (wrap64 (x10_2+1))))=some r:=hx_ hy433 H
        have Ny433:=Aside0.mk hy433
        clear hy433
        have c16b0:=eq_true (od_:0<=a1)
        obtain⟨ji17,hji17⟩:∃ j_:Int,(shr .u64 (IntKind.u64.wrap ((rd l0 x10_2) - x5_1)) a1)=j_:=⟨_,rfl⟩
        replace H:(if(ji17) > 0 then(if x8_2.length < 140737488355328 then((some (x8_2++[(x10_2) % 256]:List Int)).bind fun y436=>((dragnetref02_Bytes.f k2 (ji17)).bind fun t439=>(if y436.length+t439.length < 140737488355328 then(dragnetref04_By.l1 k2 l0 a1 x5_1 y433 (y436++t439) (wrap64 (x9_2+1)) (wrap64 (x10_2+1)))else(none))))else(none))else(dragnetref04_By.l1 k2 l0 a1 x5_1 y433 x8_2 x9_2 (wrap64 (x10_2+1))))=some r:=hj_ hji17 H
        have hji17_:((IntKind.u64.wrap ((rd l0 x10_2) - x5_1)) / 2 ^ min a1.toNat 64)=ji17:=hji17
        have hji17z:a1<=64->((IntKind.u64.wrap ((rd l0 x10_2) - x5_1)) / 2 ^ a1.toNat)=ji17:=shr_small hji17
        by_cases c18:(ji17) > 0
        rotate_left
        .rw[if_neg c18]at H
         have c18b0:=decide_eq_false c18
         clear c18
         have H':=Aside0.mk H
         clear H
         have p429:0<=(x10_2:Int):=od_
         have q429:x10_2 < (l0.length:Int):=od_
         obtain⟨ad429,e429,hx429_0⟩:=Kd.at_int HR0.out x10_2 p429 q429
         obtain rfl:ad402=ad429:=(by injection e429)
         replace hx429_0:=cx_ HB.out rfl hx429_0
         replace p429:=eq_true p429
         replace q429:=eq_true q429
         go_wp2_with (first|((with_reducible refine gate_builtin (b:= .append) (xs:= #[.tmp 48,.tmp 53]) rfl ?_);at_builtin;refine Kd.R_append (Kd.int .u64) (w0:=w) w.heap.size rfl (.tmp 48) (.tmp 53) 52 48 (.int .u64 0) 8 rfl Try.underlying52 info48 rfl (by decide) (by omega) u7 x7_2 (Int.tmod (IntKind.u64.wrap ((rd l0 x10_2) - x5_1)) (ji13)) [.int .u64 (Int.tmod (IntKind.u64.wrap ((rd l0 x10_2) - x5_1)) (ji13))] (fun _=>True) (fun _=>False) rfl rfl ?aP (fun _ hk=>hk.elim) ?aF ?aO ?aB ?aS ?aL ?_;(case aP=>exact rfl);(case aB=>exact bw_);(case aF=>exact(fun _ _=>trivial));(case aO=>exact(Kd.ru_ HO_7.out));(case aS=>exact(pbS_ bw_));(case aL=>have:=LMc15.out;omega);intro v434 w29 ho hb hg hat;rw[<- Ny433.out]at ho;have n0_:=Aside0.mk (Kd.R_over' (Kd.ru_ HO_8.out) (Kd.R_typed (Kd.ru_ HO_7.out)) (by decide) hg);have n1_:=Aside0.mk (hb);have n2_:=Aside0.mk (ho);clear HO_8;clear HB;clear HO_7;have HO_8:=n0_;have HB:=n1_;have HO435:=n2_;clear n0_ n1_ n2_;clear ho hb hg hat))
         subst hji17 hji13
         go_roundg k2
         case measure=>have:=HK1.out;have:=HK2.out;omega
         case rel=>exact⟨(y433),(x8_2),(x9_2),(wrap64 (x10_2+1)),rs_,rs_,H',⟨by have:=HK1.out;have:=HK2.out;omega⟩,⟨Kd.ru_ HO435.out⟩,⟨Kd.ru_ HO_8.out⟩,⟨bw_⟩⟩
        rw[if_pos c18]at H
        have c18b0:=decide_eq_true c18
        clear c18
        by_cases c19:x8_2.length < 140737488355328
        rotate_left
        .rw[if_neg c19]at H
         cases H
        rw[if_pos c19]at H
        have LMc19:=Aside0.mk c19
        clear c19
        obtain⟨y436,hy436⟩:∃ y_:List Int,y_=(x8_2++[(x10_2) % 256]):=⟨_,rfl⟩
        replace H:((dragnetref02_Bytes.f k2 (ji17)).bind fun t439=>(if y436.length+t439.length < 140737488355328 then(dragnetref04_By.l1 k2 l0 a1 x5_1 y433 (y436++t439) (wrap64 (x9_2+1)) (wrap64 (x10_2+1)))else(none)))=some r:=hx_ hy436 H
        have Ny436:=Aside0.mk hy436
        clear hy436
        have c20b0:=eq_true (od_:0<=a1)
        replace H:=Option.bind_eq_some_iff.mp H
        obtain⟨t439,A210,H⟩:=H
        try dsimp only at H
        have A21:=Aside0.mk A210
        clear A210
        by_cases c22:y436.length+t439.length < 140737488355328
        rotate_left
        .rw[if_neg c22]at H
         cases H
        rw[if_pos c22]at H
        have LMc22:=Aside0.mk c22
        clear c22
        obtain⟨y442,hy442⟩:∃ y_:List Int,y_=(y436++t439):=⟨_,rfl⟩
        replace H:(dragnetref04_By.l1 k2 l0 a1 x5_1 y433 y442 (wrap64 (x9_2+1)) (wrap64 (x10_2+1)))=some r:=hx_ hy442 H
        have Ny442:=Aside0.mk hy442
        clear hy442
        have H':=Aside0.mk H
        clear H
        have p429:0<=(x10_2:Int):=od_
        have q429:x10_2 < (l0.length:Int):=od_
        obtain⟨ad429,e429,hx429_0⟩:=Kd.at_int HR0.out x10_2 p429 q429
        obtain rfl:ad402=ad429:=(by injection e429)
        replace hx429_0:=cx_ HB.out rfl hx429_0
        replace p429:=eq_true p429
        replace q429:=eq_true q429
        try go_wp2_with (first|((with_reducible refine gate_builtin (b:= .append) (xs:= #[.tmp 48,.tmp 53]) rfl ?_);at_builtin;refine Kd.R_append (Kd.int .u64) (w0:=w) w.heap.size rfl (.tmp 48) (.tmp 53) 52 48 (.int .u64 0) 8 rfl Try.underlying52 info48 rfl (by decide) (by omega) u7 x7_2 (Int.tmod (IntKind.u64.wrap ((rd l0 x10_2) - x5_1)) (ji13)) [.int .u64 (Int.tmod (IntKind.u64.wrap ((rd l0 x10_2) - x5_1)) (ji13))] (fun _=>True) (fun _=>False) rfl rfl ?aP (fun _ hk=>hk.elim) ?aF ?aO ?aB ?aS ?aL ?_;(case aP=>exact rfl);(case aB=>exact bw_);(case aF=>exact(fun _ _=>trivial));(case aO=>exact(Kd.ru_ HO_7.out));(case aS=>exact(pbS_ bw_));(case aL=>have:=LMc15.out;omega);intro v434 w23 ho hb hg hat;rw[<- Ny433.out]at ho;have n0_:=Aside0.mk (Kd.R_over' (Kd.ru_ HO_8.out) (Kd.R_typed (Kd.ru_ HO_7.out)) (by decide) hg);have n1_:=Aside0.mk (hb);have n2_:=Aside0.mk (ho);clear HO_8;clear HB;clear HO_7;have HO_8:=n0_;have HB:=n1_;have HO435:=n2_;clear n0_ n1_ n2_;clear ho hb hg hat))
        have n0_:=Aside0.mk (Kd.rD_ HO_8.out)
        have n1_:=Aside0.mk (Kd.rD_ HO435.out)
        have n2_:=Aside0.mk (pb1_ HB.out)
        clear HO_8
        clear HO435
        clear HB
        have HO_8:=n0_
        have HO435:=n1_
        have HB:=n2_
        clear n0_ n1_ n2_
        refine start_ (n:=11) (S:=fun w'=>True) (ds:=[]) #[false,false,false,false,false,false,false,false,false,false,false] (by kernel_rfl) rfl rfl trivial (fun hHeld=>?_);refine with_tabW dragnetref04_By.tab18 dragnetref04_By.bits18 (fun HT_ HW_=>?_)
        generalize w23.drew=w24 at HO_8 HO435 HB hHeld ⊢
        refine pv_ (i:=0) (N:=some 61) HT_ ?_
        refine pv_ (i:=1) (N:=some 62) HT_ ?_
        refine pv_ (i:=2) (N:=some 63) HT_ ?_
        refine pv_ (i:=5) (N:=some 66) HT_ ?_
        refine pv_ (i:=6) (N:=some 67) HT_ ?_
        refine pv_ (i:=7) (N:=some 68) HT_ ?_
        refine one_ (i:=3) (N:=some 64) #[tT,tT,tT,tT,fF,tT,tT,tT,fF,fF,fF] rfl rfl (one_of HT_.out (by kernel_rfl)) (by decide) (fun K hK=>?_)
        refine value_ (w1:=?_) (v:=?_) (by rfl) rfl ?_ ?_
        rotate_left 2
        .go_simp
         constructor
         .rfl
         .rfl
        refine hK.out _ _ trivial (fun hHeld=>?_)
        clear hK K
        refine norm_ (a':=?_) ?_ ?_
        rotate_left
        .show Act.put _ (some 64) _=_
         simp only[Act.put,List.setIfInBounds_toArray,List.set_cons_zero,List.set_cons_succ,i64_w,i32_w]
         rfl
        refine one_ (i:=4) (N:=some 65) #[tT,tT,tT,tT,tT,tT,tT,tT,fF,fF,fF] rfl rfl (one_of HT_.out (by kernel_rfl)) (by decide) (fun K hK=>?_)
        refine Kd.R_append_step (Kd.int .u8) (w0:=w) w.heap.size (by rfl) (.tmp 61) (.tmp 64) 22 5 (.int .u8 0) 1 rfl Try.underlying22 info5 rfl (by decide) (by omega) u8 x8_2 ((x10_2) % 256) [.int .u8 ((x10_2) % 256)] (fun _=>True) (fun _=>False) rfl rfl ?aP (fun _ hk=>hk.elim) ?aF ?aO ?aB ?aS ?aL ?_
        (case aP=>exact rfl)
        (case aB=>exact bw_)
        (case aF=>exact(fun _ _=>trivial))
        (case aO=>exact(Kd.ru_ HO_8.out))
        (case aS=>exact(pbS_ bw_))
        (case aL=>have:=LMc19.out;omega)
        intro v437 w25 ho hb hg hat
        rw[<- Ny436.out]at ho
        have n0_:=Aside0.mk (Kd.R_over' (Kd.ru_ HO435.out) (Kd.R_typed (Kd.ru_ HO_8.out)) (by decide) hg)
        have n1_:=Aside0.mk (hb)
        have n2_:=Aside0.mk (ho)
        clear HO435
        clear HB
        clear HO_8
        have HO435:=n0_
        have HB:=n1_
        have HO438:=n2_
        clear n0_ n1_ n2_
        clear ho hb hg hat
        refine hK.out _ _ trivial (fun hHeld=>?_)
        clear hK K
        refine norm_ (a':=?_) ?_ ?_
        rotate_left
        .show Act.put _ (some 65) _=_
         simp only[Act.put,List.setIfInBounds_toArray,List.set_cons_zero,List.set_cons_succ,i64_w,i32_w]
         rfl
        refine one_ (i:=8) (N:=some 69) #[tT,tT,tT,tT,tT,tT,tT,tT,tT,fF,fF] rfl rfl (one_of HT_.out (by kernel_rfl)) (by decide) (fun K hK=>?_)
        refine goes_ Try.func31 (by kernel_rfl) rfl #[.int .u64 ji17] (by rfl) rfl rfl (by(try simp only[List.map_toArray,List.map_cons,List.map_nil]);first|done|(simp only[hji17];rfl)|rfl|(simp only[List.length_drop,List.length_take];rfl)) ?_
        with_reducible refine(dragnetref02_Bytes.calls k2 ji17 t439 _ A21.out).mono ?_
        rintro e w26 ⟨v440,rfl,ho0,hb⟩
        refine⟨_,rfl,?_⟩
        have n0_:=Aside0.mk (Kd.R_below (Kd.ru_ HO435.out) hb)
        have n1_:=Aside0.mk (Kd.R_elder' (Kd.ru_ HO438.out) (Kd.R_base ho0) hb)
        have n2_:=Aside0.mk (Kd.R_lower (Kd.R_new' ho0 (Kd.R_lt (Kd.ru_ HO438.out))) (pbS_ bw_))
        have n3_:=Aside0.mk (below_step bw_ hb)
        clear HO435
        clear HO438
        clear HB
        have HO435:=n0_
        have HO438:=n1_
        have HO441:=n2_
        have HB:=n3_
        clear n0_ n1_ n2_ n3_
        clear hb
        clear ho0
        obtain⟨Ao28,co28,eo28⟩:=Kd.R_slice HO441.out
        (first|subst eo28|(injection eo28 with f1_ f2_ f3_;have f4_:=f1_.symm;have f5_:=f3_.symm;clear f1_ f2_ f3_;subst f4_;subst f5_))
        refine hK.out _ _ trivial (fun hHeld=>?_)
        clear hK K
        refine norm_ (a':=?_) ?_ ?_
        rotate_left
        .show Act.put _ (some 69) _=_
         simp only[Act.put,List.setIfInBounds_toArray,List.set_cons_zero,List.set_cons_succ,i64_w,i32_w]
         rfl
        refine one_ (i:=9) (N:=some 70) #[tT,tT,tT,tT,tT,tT,tT,tT,tT,tT,fF] rfl rfl (one_of HT_.out (by kernel_rfl)) (by decide) (fun K hK=>?_)
        refine Kd.R_append_rows_step (Kd.int .u8) (w0:=w) w.heap.size (by rfl) (.tmp 65) (.tmp 69) 22 5 (.int .u8 0) 1 rfl Try.underlying22 info5 rfl (by decide) (by omega) v437 y436 t439 _ _ _ (fun k_=>some k_≠(.slice Ao28 t439.length co28:Value).ownBlock) (fun _=>False) rfl rfl ?aO ?aR (fun _ _ h=>h) (fun _ h=>h.elim) ?aF ?aB ?aS ?aL ?_
        (case aR=>exact Kd.cu_ (Kd.R_reads' HO441.out).2.2)
        (case aB=>exact bw_)
        (case aF=>exact(fun k_ hk=>Kd.fresh' (Kd.R_lt (Kd.ru_ HO441.out)) k_ hk))
        (case aO=>exact(by(with_reducible repeat(first|apply Kd.rA_|apply Kd.rN_|apply Kd.rD_));exact Kd.R_mono HO438.out (fun _ hk=>hk.2)))
        (case aS=>exact(pbS_ bw_))
        (case aL=>have:=LMc22.out;omega)
        intro v443 w27 ho hb hg hat
        rw[<- Ny442.out]at ho
        have n0_:=Aside0.mk (Kd.R_over' (Kd.ru_ HO435.out) (Kd.R_typed (Kd.ru_ HO438.out)) (by decide) hg)
        have n1_:=Aside0.mk (Kd.R_after (ok:=(fun _=>True)) (Kd.ru_ HO441.out) hg hat)
        have n2_:=Aside0.mk (hb)
        have n3_:=Aside0.mk (ho)
        clear HO435
        clear HO441
        clear HB
        clear HO438
        have HO435:=n0_
        have HO441:=n1_
        have HB:=n2_
        have HO444:=n3_
        clear n0_ n1_ n2_ n3_
        clear ho hb hg hat
        refine hK.out _ _ trivial (fun hHeld=>?_)
        clear hK K
        refine norm_ (a':=?_) ?_ ?_
        rotate_left
        .show Act.put _ (some 70) _=_
         simp only[Act.put,List.setIfInBounds_toArray,List.set_cons_zero,List.set_cons_succ,i64_w,i32_w]
         rfl
        refine pv_ (i:=10) (N:=some 8) HT_ ?_
        refine done_ (done_of HT_.out (by kernel_rfl)) ?_
        try go_wp2
        subst hji17 hji13
        go_roundg k2
        case measure=>have:=HK1.out;have:=HK2.out;omega
        case rel=>exact⟨(y433),(y442),(wrap64 (x9_2+1)),(wrap64 (x10_2+1)),rs_,rs_,H',⟨by have:=HK1.out;have:=HK2.out;omega⟩,⟨Kd.ru_ HO435.out⟩,⟨by(with_reducible repeat(first|apply Kd.rA_|apply Kd.rN_|apply Kd.rD_));exact Kd.R_mono HO444.out (fun _ hk=>trivial)⟩,⟨bw_⟩⟩
def dragnetref04_Block.l0:Nat->List Int->List Int->Int->Option (List Int)
 |0,_,_,_=>none
 |k+1,x0,x3,x4=>if x4<=64 then((dragnetref04_By.f k x0 x4).bind fun t448=>(if(t448.length:Int) < (x3.length:Int)then(dragnetref04_Block.l0 k x0 t448 (wrap64 (x4+1)))else(dragnetref04_Block.l0 k x0 x3 (wrap64 (x4+1)))))else(some x3)
def dragnetref04_Block.f (k:Nat) (l0:List Int):Option (List Int):=(dragnetref04_By.f k l0 0).bind fun t445=>(dragnetref04_Block.l0 k l0 t445 1)
theorem dragnetref04_Block.mono_l:∀ k,(∀ y0 y1 y2,LeO (dragnetref04_Block.l0 k y0 y1 y2) (dragnetref04_Block.l0 (k+1) y0 y1 y2))
 |0=>fun _ _ _ r h=>by simp[dragnetref04_Block.l0]at h
 |k+1=>by
  have ih0:=dragnetref04_Block.mono_l k
  .intro y0 y1 y2
   unfold dragnetref04_Block.l0
   repeat' first
   |(with_reducible exact ih0 _ _ _)
   |(with_reducible exact dragnetref04_By.mono _ _ _)
   |(with_reducible exact LeO.refl _)
   |(with_reducible exact LeO.none _)
   |(with_reducible refine LeO.ite ?_ ?_)
   |(with_reducible refine LeO.bind ?_ (fun _=>?_))
theorem dragnetref04_Block.mono:∀ a0 k,LeO (dragnetref04_Block.f k a0) (dragnetref04_Block.f (k+1) a0):=by
 intro a0 k
 have ih0:=dragnetref04_Block.mono_l k
 unfold dragnetref04_Block.f
 repeat' first
   |(with_reducible exact ih0 _ _ _)
   |(with_reducible exact dragnetref04_By.mono _ _ _)
   |(with_reducible exact LeO.refl _)
   |(with_reducible exact LeO.none _)
   |(with_reducible refine LeO.ite ?_ ?_)
   |(with_reducible refine LeO.bind ?_ (fun _=>?_))
set_option maxHeartbeats 8000000 in
set_option maxRecDepth 100000 in
theorem dragnetref04_Block.calls (k:Nat) (A0:Option Addr) (c0:Nat) (l0:List Int) (r:List Int) (w:World) (hr0:Kd.C (Kd.int .u64) w A0 l0.length l0) (hc0:l0.length<=c0) (h:dragnetref04_Block.f k l0=some r):
  Calls Try.prog 53 #[.slice A0 l0.length c0] w fun e w'=>∃ v0_:Value,e= .returned (v0_)∧Kd.R (Kd.int .u8) 5 w' w.heap.size (fun _=>True) v0_ r∧Below w.heap.size w w':=by
 have HR0:=Aside0.mk hr0
 have HC0:=Aside0.mk hc0
 clear hr0 hc0
 have HB:=Aside0.mk (Below.refl w.heap.size w)
 have H:((dragnetref04_By.f k l0 0).bind fun t445=>(dragnetref04_Block.l0 k l0 t445 1))=some r:=h
 clear h
 replace H:=Option.bind_eq_some_iff.mp H
 obtain⟨t445,A20,H⟩:=H
 try dsimp only at H
 have A2:=Aside0.mk A20
 clear A20
 have H':=Aside0.mk H
 clear H
 go_enter Try.func53,Try.ntmps53
 go_wp2_with (first|((with_reducible refine gaC_ (f:=68) rfl ?_);refine goesL_ (some 7) rfl rfl Try.func68 (by kernel_rfl) rfl #[.slice A0 l0.length c0,.int .i64 0] rfl am_ ?_;(with_reducible refine(dragnetref04_By.calls k _ _ l0 0 t445 _ ?side1 ?side2 A2.out).mono ?_);(case side1=>exact Kd.cu_ HR0.out);(case side2=>exact HC0.out);rintro e w3 ⟨v446,rfl,ho0,hb⟩;refine⟨_,rfl,?_⟩;have HO447:=Aside0.mk (Kd.R_lower ho0 (pbS_ bw_));replace HB:=Aside0.mk (below_step bw_ hb)))
 go_loopg [3,4] k (fun kq v3 v4 w'=>∃ (x3_1:List Int) (x4_1:Int),v4= .int .i64 x4_1∧Aside0 (dragnetref04_Block.l0 kq l0 x3_1 x4_1=some r)∧Aside0 (kq<=k)∧Aside0 (Kd.R (Kd.int .u8) 5 w' w.heap.size (fun _=>True) v3 x3_1)∧Aside0 (Below w.heap.size w w'))
 case atStart=>exact⟨(t445),(1),rs_,H',⟨Nat.le_refl _⟩,⟨Kd.ru_ HO447.out⟩,⟨bw_⟩⟩
 case round=>
  clear H'
  obtain⟨x3_1,x4_1,rfl,HA,HK1,HO_3,HB⟩:=hrel
  cases gk with
  |zero=>exact absurd HA.out (by simp[dragnetref04_Block.l0])
  |succ k1=>
   have H:=HA.out
   clear HA
   simp only[dragnetref04_Block.l0]at H
   by_cases c4:x4_1<=64
   rotate_left
   .rw[if_neg c4]at H
    have c4b0:=decide_eq_false c4
    clear c4
    obtain rfl:=Option.some.inj H
    go_wp2
    go_ret
    exact⟨_,rf_,by(with_reducible repeat(first|apply Kd.rA_|apply Kd.rN_|apply Kd.rD_));exact HO_3.out,bw_⟩
   rw[if_pos c4]at H
   have c4b0:=decide_eq_true c4
   clear c4
   replace H:=Option.bind_eq_some_iff.mp H
   obtain⟨t448,A50,H⟩:=H
   try dsimp only at H
   have A5:=Aside0.mk A50
   clear A50
   by_cases c6:(t448.length:Int) < (x3_1.length:Int)
   rotate_left
   .rw[if_neg c6]at H
    have c6b0:=decide_eq_false c6
    have c6b1:decide (t448.length < x3_1.length)=false:=decide_eq_false (fun h=>c6 (Int.ofNat_lt.mpr h))
    clear c6
    have H':=Aside0.mk H
    clear H
    go_wp2_with (first|((with_reducible refine gaC_ (f:=68) rfl ?_);refine goesL_ (some 14) rfl rfl Try.func68 (by kernel_rfl) rfl #[.slice A0 l0.length c0,.int .i64 x4_1] rfl am_ ?_;(with_reducible refine(dragnetref04_By.calls k1 _ _ l0 x4_1 t448 _ ?side1 ?side2 A5.out).mono ?_);(case side1=>exact Kd.cu_ (Kd.C_below HR0.out HB.out));(case side2=>exact HC0.out);rintro e w10 ⟨v449,rfl,ho0,hb⟩;refine⟨_,rfl,?_⟩;have n0_:=Aside0.mk (Kd.R_elder' (Kd.ru_ HO_3.out) (Kd.R_base ho0) hb);have n1_:=Aside0.mk (Kd.R_lower (Kd.R_new' ho0 (Kd.R_lt (Kd.ru_ HO_3.out))) (pbS_ bw_));have n2_:=Aside0.mk (below_step bw_ hb);clear HO_3;clear HB;have HO_3:=n0_;have HO450:=n1_;have HB:=n2_;clear n0_ n1_ n2_;obtain⟨Ao11,co11,eo11⟩:=Kd.R_slice HO450.out;subst eo11;obtain⟨Ao12,co12,eo12⟩:=Kd.R_slice HO_3.out;subst eo12))
    go_roundg k1
    case measure=>have:=HK1.out;omega
    case rel=>exact⟨(x3_1),(wrap64 (x4_1+1)),rs_,H',⟨by have:=HK1.out;omega⟩,⟨by(with_reducible repeat(first|apply Kd.rA_|apply Kd.rN_|apply Kd.rD_));exact Kd.R_mono HO_3.out (fun _ hk=>trivial)⟩,⟨bw_⟩⟩
   rw[if_pos c6]at H
   have c6b0:=decide_eq_true c6
   have c6b1:decide (t448.length < x3_1.length)=true:=decide_eq_true (Int.ofNat_lt.mp c6)
   clear c6
   have H':=Aside0.mk H
   clear H
   go_wp2_with (first|((with_reducible refine gaC_ (f:=68) rfl ?_);refine goesL_ (some 14) rfl rfl Try.func68 (by kernel_rfl) rfl #[.slice A0 l0.length c0,.int .i64 x4_1] rfl am_ ?_;(with_reducible refine(dragnetref04_By.calls k1 _ _ l0 x4_1 t448 _ ?side1 ?side2 A5.out).mono ?_);(case side1=>exact Kd.cu_ (Kd.C_below HR0.out HB.out));(case side2=>exact HC0.out);rintro e w7 ⟨v449,rfl,ho0,hb⟩;refine⟨_,rfl,?_⟩;have n0_:=Aside0.mk (Kd.R_elder' (Kd.ru_ HO_3.out) (Kd.R_base ho0) hb);have n1_:=Aside0.mk (Kd.R_lower (Kd.R_new' ho0 (Kd.R_lt (Kd.ru_ HO_3.out))) (pbS_ bw_));have n2_:=Aside0.mk (below_step bw_ hb);clear HO_3;clear HB;have HO_3:=n0_;have HO450:=n1_;have HB:=n2_;clear n0_ n1_ n2_;obtain⟨Ao8,co8,eo8⟩:=Kd.R_slice HO450.out;subst eo8;obtain⟨Ao9,co9,eo9⟩:=Kd.R_slice HO_3.out;subst eo9))
   go_roundg k1
   case measure=>have:=HK1.out;omega
   case rel=>exact⟨(t448),(wrap64 (x4_1+1)),rs_,H',⟨by have:=HK1.out;omega⟩,⟨by(with_reducible repeat(first|apply Kd.rA_|apply Kd.rN_|apply Kd.rD_));exact Kd.R_mono HO450.out (fun _ hk=>trivial)⟩,⟨bw_⟩⟩
mutual
def dragnetref03_Unpack.j0:Nat->List Int->Int->Int->Bool->Option (List Int×Int)
 |0,_,_,_,_=>none
 |k+1,x0,x1,x2,x26=>if x26=true then(some (([]:List Int),1))else((dragnetref03_Size.f x1 x2).bind fun t583=>(if(x0.length:Int) < t583 then(some (([]:List Int),3))else((dragnetref03_Size.f x1 x2).bind fun t584=>(if(x0.length:Int) > t584 then(some (([]:List Int),2))else(dragnetref03_Unpack.l0 k x0 x1 x2 ([]:List Int) 0)))))
def dragnetref03_Unpack.l0:Nat->List Int->Int->Int->List Int->Int->Option (List Int×Int)
 |0,_,_,_,_,_=>none
 |k+1,x0,x1,x2,x8,x9=>if x9 < x1 then(dragnetref03_Unpack.l1 k x0 x1 x2 x8 x9 0 0)else(dragnetref03_Unpack.l2 k x0 x8 (wrap64 (x1*x2)))
def dragnetref03_Unpack.l1:Nat->List Int->Int->Int->List Int->Int->Int->Int->Option (List Int×Int)
 |0,_,_,_,_,_,_,_=>none
 |k+1,x0,x1,x2,x8,x9,x10,x11=>if x11 < x2 then(if 0<=(wrap64 (Int.tdiv (wrap64 ((wrap64 (x9*x2))+x11)) 8))then(if(wrap64 (Int.tdiv (wrap64 ((wrap64 (x9*x2))+x11)) 8)) < (x0.length:Int)then(if 0<=(Int.tmod (wrap64 ((wrap64 (x9*x2))+x11)) 8)then(if(Int.tmod (shr .u8 (rd x0 (wrap64 (Int.tdiv (wrap64 ((wrap64 (x9*x2))+x11)) 8))) (Int.tmod (wrap64 ((wrap64 (x9*x2))+x11)) 8)) 2)=1 then(if 0<=x11 then(dragnetref03_Unpack.l1 k x0 x1 x2 x8 x9 (IntKind.u64.wrap (x10+(shl .u64 1 x11))) (wrap64 (x11+1)))else(none))else(dragnetref03_Unpack.l1 k x0 x1 x2 x8 x9 x10 (wrap64 (x11+1))))else(none))else(none))else(none))else(if x8.length < 17592186044416 then(dragnetref03_Unpack.l0 k x0 x1 x2 (x8++[x10]) (wrap64 (x9+1)))else(none))
def dragnetref03_Unpack.l2:Nat->List Int->List Int->Int->Option (List Int×Int)
 |0,_,_,_=>none
 |k+1,x0,x8,x12=>if x12 < (wrap64 (8*(x0.length:Int)))then(if 0<=(wrap64 (Int.tdiv x12 8))then(if(wrap64 (Int.tdiv x12 8)) < (x0.length:Int)then(if 0<=(Int.tmod x12 8)then(if(Int.tmod (shr .u8 (rd x0 (wrap64 (Int.tdiv x12 8))) (Int.tmod x12 8)) 2)=1 then(some (([]:List Int),2))else(dragnetref03_Unpack.l2 k x0 x8 (wrap64 (x12+1))))else(none))else(none))else(none))else(some (x8,0))
end
def dragnetref03_Unpack.f (k:Nat) (l0:List Int) (a1:Int) (a2:Int):Option (List Int×Int):=if a2 < 0 then(dragnetref03_Unpack.j0 k l0 a1 a2 true)else(if a2 > 64 then(dragnetref03_Unpack.j0 k l0 a1 a2 true)else(if a1 < 0 then(dragnetref03_Unpack.j0 k l0 a1 a2 true)else(dragnetref03_Unpack.j0 k l0 a1 a2 (decide (a1 > 4096)))))
theorem dragnetref03_Unpack.mono_l:∀ k,(∀ y0 y1 y2 y3,LeO (dragnetref03_Unpack.j0 k y0 y1 y2 y3) (dragnetref03_Unpack.j0 (k+1) y0 y1 y2 y3))∧(∀ y0 y1 y2 y3 y4,LeO (dragnetref03_Unpack.l0 k y0 y1 y2 y3 y4) (dragnetref03_Unpack.l0 (k+1) y0 y1 y2 y3 y4))∧(∀ y0 y1 y2 y3 y4 y5 y6,LeO (dragnetref03_Unpack.l1 k y0 y1 y2 y3 y4 y5 y6) (dragnetref03_Unpack.l1 (k+1) y0 y1 y2 y3 y4 y5 y6))∧(∀ y0 y1 y2,LeO (dragnetref03_Unpack.l2 k y0 y1 y2) (dragnetref03_Unpack.l2 (k+1) y0 y1 y2))
 |0=>⟨fun _ _ _ _ r h=>by simp[dragnetref03_Unpack.j0]at h,fun _ _ _ _ _ r h=>by simp[dragnetref03_Unpack.l0]at h,fun _ _ _ _ _ _ _ r h=>by simp[dragnetref03_Unpack.l1]at h,fun _ _ _ r h=>by simp[dragnetref03_Unpack.l2]at h⟩
 |k+1=>by
  obtain⟨ih0,ih1,ih2,ih3⟩:=dragnetref03_Unpack.mono_l k
  refine⟨?_,?_,?_,?_⟩
  .intro y0 y1 y2 y3
   unfold dragnetref03_Unpack.j0
   repeat' first
   |(with_reducible exact ih0 _ _ _ _)
   |(with_reducible exact ih1 _ _ _ _ _)
   |(with_reducible exact ih2 _ _ _ _ _ _ _)
   |(with_reducible exact ih3 _ _ _)
   |(with_reducible exact LeO.refl _)
   |(with_reducible exact LeO.none _)
   |(with_reducible refine LeO.ite ?_ ?_)
   |(with_reducible refine LeO.bind ?_ (fun _=>?_))
  .intro y0 y1 y2 y3 y4
   unfold dragnetref03_Unpack.l0
   repeat' first
   |(with_reducible exact ih0 _ _ _ _)
   |(with_reducible exact ih1 _ _ _ _ _)
   |(with_reducible exact ih2 _ _ _ _ _ _ _)
   |(with_reducible exact ih3 _ _ _)
   |(with_reducible exact LeO.refl _)
   |(with_reducible exact LeO.none _)
   |(with_reducible refine LeO.ite ?_ ?_)
   |(with_reducible refine LeO.bind ?_ (fun _=>?_))
  .intro y0 y1 y2 y3 y4 y5 y6
   unfold dragnetref03_Unpack.l1
   repeat' first
   |(with_reducible exact ih0 _ _ _ _)
   |(with_reducible exact ih1 _ _ _ _ _)
   |(with_reducible exact ih2 _ _ _ _ _ _ _)
   |(with_reducible exact ih3 _ _ _)
   |(with_reducible exact LeO.refl _)
   |(with_reducible exact LeO.none _)
   |(with_reducible refine LeO.ite ?_ ?_)
   |(with_reducible refine LeO.bind ?_ (fun _=>?_))
  .intro y0 y1 y2
   unfold dragnetref03_Unpack.l2
   repeat' first
   |(with_reducible exact ih0 _ _ _ _)
   |(with_reducible exact ih1 _ _ _ _ _)
   |(with_reducible exact ih2 _ _ _ _ _ _ _)
   |(with_reducible exact ih3 _ _ _)
   |(with_reducible exact LeO.refl _)
   |(with_reducible exact LeO.none _)
   |(with_reducible refine LeO.ite ?_ ?_)
   |(with_reducible refine LeO.bind ?_ (fun _=>?_))
theorem dragnetref03_Unpack.mono:∀ a0 a1 a2 k,LeO (dragnetref03_Unpack.f k a0 a1 a2) (dragnetref03_Unpack.f (k+1) a0 a1 a2):=by
 intro a0 a1 a2 k
 obtain⟨ih0,ih1,ih2,ih3⟩:=dragnetref03_Unpack.mono_l k
 unfold dragnetref03_Unpack.f
 repeat' first
   |(with_reducible exact ih0 _ _ _ _)
   |(with_reducible exact ih1 _ _ _ _ _)
   |(with_reducible exact ih2 _ _ _ _ _ _ _)
   |(with_reducible exact ih3 _ _ _)
   |(with_reducible exact LeO.refl _)
   |(with_reducible exact LeO.none _)
   |(with_reducible refine LeO.ite ?_ ?_)
   |(with_reducible refine LeO.bind ?_ (fun _=>?_))
set_option maxHeartbeats 8000000 in
set_option maxRecDepth 100000 in
theorem dragnetref03_Unpack.calls (k:Nat) (A0:Option Addr) (c0:Nat) (l0:List Int) (a1:Int) (a2:Int) (r1:List Int) (r2:Int) (w:World) (hr0:Kd.C (Kd.int .u8) w A0 l0.length l0) (hc0:l0.length<=c0) (h:dragnetref03_Unpack.f k l0 a1 a2=some (r1,r2)):
  Calls Try.prog 74 #[.slice A0 l0.length c0,.int .i64 a1,.int .i64 a2] w fun e w'=>∃ v0_:Value,e= .returned (.tuple #[v0_,.int .i64 r2])∧Kd.R (Kd.int .u64) 48 w' w.heap.size (fun _=>True) v0_ r1∧Below w.heap.size w w':=by
 have HR0:=Aside0.mk hr0
 have HC0:=Aside0.mk hc0
 clear hr0 hc0
 have HB:=Aside0.mk (Below.refl w.heap.size w)
 have H:(if a2 < 0 then(dragnetref03_Unpack.j0 k l0 a1 a2 true)else(if a2 > 64 then(dragnetref03_Unpack.j0 k l0 a1 a2 true)else(if a1 < 0 then(dragnetref03_Unpack.j0 k l0 a1 a2 true)else(dragnetref03_Unpack.j0 k l0 a1 a2 (decide (a1 > 4096))))))=some (r1,r2):=h
 clear h
 have HC4:=Aside0.mk H
 clear H
 go_enter Try.func74,Try.ntmps74
 go_upto_region 1 with (fail)
 go_cut [26] (fun v26 wc=>∃ (kq:Nat) (x26_3:Bool),v26= .bool x26_3∧Aside0 (dragnetref03_Unpack.j0 kq l0 a1 a2 x26_3=some (r1,r2))∧Aside0 (kq<=k)∧Aside0 (Below w.heap.size w wc))
 case first=>
  have H:=HC4.out
  clear HC4
  by_cases c5:a2 < 0
  .rw[if_pos c5]at H
   have c5b0:=decide_eq_true c5
   clear c5
   (first|rw[c5b0]|(simp only[i64_w,i32_w];rw[c5b0])|skip)
   have H':=Aside0.mk H
   clear H
   go_wp2
   go_meet
   case rel=>exact⟨_,(true),rs_,H',⟨by first|omega|exact Nat.le_refl _⟩,⟨bw_⟩⟩
  .rw[if_neg c5]at H
   have c5b0:=decide_eq_false c5
   clear c5
   (first|rw[c5b0]|(simp only[i64_w,i32_w];rw[c5b0])|skip)
   by_cases c6:a2 > 64
   .rw[if_pos c6]at H
    have c6b0:=decide_eq_true c6
    clear c6
    have H':=Aside0.mk H
    clear H
    go_wp2
    go_meet
    case rel=>exact⟨_,(true),rs_,H',⟨by first|omega|exact Nat.le_refl _⟩,⟨bw_⟩⟩
   .rw[if_neg c6]at H
    have c6b0:=decide_eq_false c6
    clear c6
    by_cases c7:a1 < 0
    rotate_left
    .rw[if_neg c7]at H
     have c7b0:=decide_eq_false c7
     clear c7
     have H':=Aside0.mk H
     clear H
     go_wp2
     go_meet
     case rel=>exact⟨_,(decide (a1 > 4096)),rs_,H',⟨by first|omega|exact Nat.le_refl _⟩,⟨bw_⟩⟩
    rw[if_pos c7]at H
    have c7b0:=decide_eq_true c7
    clear c7
    have H':=Aside0.mk H
    clear H
    go_wp2
    go_meet
    case rel=>exact⟨_,(true),rs_,H',⟨by first|omega|exact Nat.le_refl _⟩,⟨bw_⟩⟩
 case rest=>
  clear HC4
  obtain⟨kq,x26_3,rfl,HA,HJ3,HB⟩:=hcut
  cases kq with
  |zero=>exact absurd HA.out (by simp[dragnetref03_Unpack.j0])
  |succ kj3=>
   have H:=HA.out
   clear HA
   simp only[dragnetref03_Unpack.j0]at H
   by_cases c8:x26_3=true
   .subst c8
    rw[if_pos rfl]at H
    simp only[Option.some.injEq,Prod.mk.injEq]at H
    obtain⟨rfl,rfl⟩:=H
    go_wp2
    go_ret2
    exact⟨_,rf_,ni_,bw_⟩
   .replace c8:=Bool.eq_false_iff.mpr c8
    subst c8
    rw[if_neg (show ¬ (false=true) by decide)]at H
    replace H:=Option.bind_eq_some_iff.mp H
    obtain⟨t583,A90,H⟩:=H
    try dsimp only at H
    have A9:=Aside0.mk A90
    clear A90
    by_cases c10:(l0.length:Int) < t583
    .rw[if_pos c10]at H
     have c10b0:=decide_eq_true c10
     clear c10
     simp only[Option.some.injEq,Prod.mk.injEq]at H
     obtain⟨rfl,rfl⟩:=H
     go_wp2_with (first|((with_reducible refine gaC_ (f:=73) rfl ?_);refine goesL_ (some 31) rfl rfl Try.func73 (by kernel_rfl) rfl #[.int .i64 a1,.int .i64 a2] rfl am_ ?_;(with_reducible refine(dragnetref03_Size.calls a1 a2 t583 _ A9.out).mono ?_);rintro e w' ⟨rfl,⟨nd,rfl⟩⟩;refine⟨_,rfl,?_⟩))
     go_ret2
     exact⟨_,rf_,ni_,bw_⟩
    .rw[if_neg c10]at H
     have c10b0:=decide_eq_false c10
     clear c10
     replace H:=Option.bind_eq_some_iff.mp H
     obtain⟨t584,A110,H⟩:=H
     try dsimp only at H
     have A11:=Aside0.mk A110
     clear A110
     by_cases c12:(l0.length:Int) > t584
     .rw[if_pos c12]at H
      have c12b0:=decide_eq_true c12
      clear c12
      simp only[Option.some.injEq,Prod.mk.injEq]at H
      obtain⟨rfl,rfl⟩:=H
      go_wp2_with (first|((with_reducible refine gaC_ (f:=73) rfl ?_);refine goesL_ (some 31) rfl rfl Try.func73 (by kernel_rfl) rfl #[.int .i64 a1,.int .i64 a2] rfl am_ ?_;(with_reducible refine(dragnetref03_Size.calls a1 a2 t583 _ A9.out).mono ?_);rintro e w' ⟨rfl,⟨nd,rfl⟩⟩;refine⟨_,rfl,?_⟩)|((with_reducible refine gaC_ (f:=73) rfl ?_);refine goesL_ (some 37) rfl rfl Try.func73 (by kernel_rfl) rfl #[.int .i64 a1,.int .i64 a2] rfl am_ ?_;(with_reducible refine(dragnetref03_Size.calls a1 a2 t584 _ A11.out).mono ?_);rintro e w' ⟨rfl,⟨nd,rfl⟩⟩;refine⟨_,rfl,?_⟩))
      go_ret2
      exact⟨_,rf_,ni_,bw_⟩
     .rw[if_neg c12]at H
      have c12b0:=decide_eq_false c12
      clear c12
      have H':=Aside0.mk H
      clear H
      go_wp2_with (first|((with_reducible refine gaC_ (f:=73) rfl ?_);refine goesL_ (some 31) rfl rfl Try.func73 (by kernel_rfl) rfl #[.int .i64 a1,.int .i64 a2] rfl am_ ?_;(with_reducible refine(dragnetref03_Size.calls a1 a2 t583 _ A9.out).mono ?_);rintro e w' ⟨rfl,⟨nd,rfl⟩⟩;refine⟨_,rfl,?_⟩)|((with_reducible refine gaC_ (f:=73) rfl ?_);refine goesL_ (some 37) rfl rfl Try.func73 (by kernel_rfl) rfl #[.int .i64 a1,.int .i64 a2] rfl am_ ?_;(with_reducible refine(dragnetref03_Size.calls a1 a2 t584 _ A11.out).mono ?_);rintro e w' ⟨rfl,⟨nd,rfl⟩⟩;refine⟨_,rfl,?_⟩))
      go_loopg [8,9] kj3 (fun kq v8 v9 w'=>∃ (x8_2:List Int) (x9_2:Int),v9= .int .i64 x9_2∧Aside0 (dragnetref03_Unpack.l0 kq l0 a1 a2 x8_2 x9_2=some (r1,r2))∧Aside0 (kq<=kj3)∧Aside0 (Kd.R (Kd.int .u64) 48 w' w.heap.size (fun _=>True) v8 x8_2)∧Aside0 (Below w.heap.size w w'))
      case atStart=>exact⟨(([]:List Int)),(0),rs_,H',⟨Nat.le_refl _⟩,⟨ni_⟩,⟨bw_⟩⟩
      case round=>
       clear H'
       clear c10b0
       clear c12b0
       obtain⟨x8_2,x9_2,rfl,HA,HK2,HO_8,HB⟩:=hrel
       cases gk with
       |zero=>exact absurd HA.out (by simp[dragnetref03_Unpack.l0])
       |succ k2=>
        have H:=HA.out
        clear HA
        simp only[dragnetref03_Unpack.l0]at H
        by_cases c13:x9_2 < a1
        rotate_left
        .rw[if_neg c13]at H
         have c13b0:=decide_eq_false c13
         clear c13
         have H':=Aside0.mk H
         clear H
         go_wp2
         go_loopg [12] k2 (fun kq v12 w'=>∃ (x12_3:Int),v12= .int .i64 x12_3∧Aside0 (dragnetref03_Unpack.l2 kq l0 x8_2 x12_3=some (r1,r2))∧Aside0 (kq<=k2)∧Aside0 (Kd.R (Kd.int .u64) 48 w' w.heap.size (fun _=>True) u8 x8_2)∧Aside0 (Below w.heap.size w w'))
         case atStart=>exact⟨(wrap64 (a1*a2)),rs_,H',⟨Nat.le_refl _⟩,⟨Kd.ru_ HO_8.out⟩,⟨bw_⟩⟩
         case round=>
          clear H'
          clear c13b0
          obtain⟨x12_3,rfl,HA,HK3,HO_8,HB⟩:=hrel
          cases gk with
          |zero=>exact absurd HA.out (by simp[dragnetref03_Unpack.l2])
          |succ k3=>
           have H:=HA.out
           clear HA
           simp only[dragnetref03_Unpack.l2]at H
           by_cases c26:x12_3 < (wrap64 (8*(l0.length:Int)))
           rotate_left
           .rw[if_neg c26]at H
            have c26b0:=decide_eq_false c26
            clear c26
            simp only[Option.some.injEq,Prod.mk.injEq]at H
            obtain⟨rfl,rfl⟩:=H
            go_wp2
            go_ret2
            exact⟨_,rf_,by(with_reducible repeat(first|apply Kd.rA_|apply Kd.rN_|apply Kd.rD_));exact HO_8.out,bw_⟩
           rw[if_pos c26]at H
           have c26b0:=decide_eq_true c26
           clear c26
           obtain⟨ji27,hji27⟩:∃ j_:Int,(wrap64 (Int.tdiv x12_3 8))=j_:=⟨_,rfl⟩
           replace H:(if 0<=(ji27)then(if(ji27) < (l0.length:Int)then(if 0<=(Int.tmod x12_3 8)then(if(Int.tmod (shr .u8 (rd l0 (ji27)) (Int.tmod x12_3 8)) 2)=1 then(some (([]:List Int),2))else(dragnetref03_Unpack.l2 k3 l0 x8_2 (wrap64 (x12_3+1))))else(none))else(none))else(none))=some (r1,r2):=hj_ hji27 H
           have hji27w:(IntKind.i64.wrap (Int.tdiv x12_3 8))=ji27:=(i64_w _).trans hji27
           by_cases c28:0<=(ji27)
           rotate_left
           .rw[if_neg c28]at H
            cases H
           rw[if_pos c28]at H
           have c28b0:=decide_eq_true c28
           clear c28
           by_cases c29:(ji27) < (l0.length:Int)
           rotate_left
           .rw[if_neg c29]at H
            cases H
           rw[if_pos c29]at H
           have c29b0:=decide_eq_true c29
           clear c29
           obtain⟨ji30,hji30⟩:∃ j_:Int,(Int.tmod x12_3 8)=j_:=⟨_,rfl⟩
           replace H:(if 0<=(ji30)then(if(Int.tmod (shr .u8 (rd l0 (ji27)) (ji30)) 2)=1 then(some (([]:List Int),2))else(dragnetref03_Unpack.l2 k3 l0 x8_2 (wrap64 (x12_3+1))))else(none))=some (r1,r2):=hj_ hji30 H
           by_cases c31:0<=(ji30)
           rotate_left
           .rw[if_neg c31]at H
            cases H
           rw[if_pos c31]at H
           have c31b0:=eq_true c31
           have c31b1:=decide_eq_true c31
           clear c31
           obtain⟨ji32,hji32⟩:∃ j_:Int,(shr .u8 (rd l0 (ji27)) (ji30))=j_:=⟨_,rfl⟩
           replace H:(if(Int.tmod (ji32) 2)=1 then(some (([]:List Int),2))else(dragnetref03_Unpack.l2 k3 l0 x8_2 (wrap64 (x12_3+1))))=some (r1,r2):=hj_ hji32 H
           have hji32_:((rd l0 (ji27)) / 2 ^ min (ji30).toNat 8)=ji32:=hji32
           have hji32z:(ji30)<=8->((rd l0 (ji27)) / 2 ^ (ji30).toNat)=ji32:=shr_small hji32
           by_cases c33:(Int.tmod (ji32) 2)=1
           .rw[if_pos c33]at H
            have c33b0:=beq_iff_eq.mpr c33
            have c33b1:=bne_eq_false_iff_eq.mpr c33
            clear c33
            simp only[Option.some.injEq,Prod.mk.injEq]at H
            obtain⟨rfl,rfl⟩:=H
            have p589:0<=((ji27):Int):=od_
            have q589:(ji27) < (l0.length:Int):=od_
            obtain⟨ad589,e589,hx589_0⟩:=Kd.at_int HR0.out (ji27) p589 q589
            cases e589
            replace hx589_0:=cx_ HB.out rfl hx589_0
            replace p589:=eq_true p589
            replace q589:=eq_true q589
            go_wp2
            go_ret2
            exact⟨_,by first|rfl|(simp[eWn_,eWs_]<;>rfl)|(simp only[<- hji27,<- hji30,<- hji32];first|rfl|(simp[eWn_,eWs_]<;>rfl))|(simp[*,eWn_,eWs_]<;>rfl),ni_,bw_⟩
           .rw[if_neg c33]at H
            have c33b0:=beq_eq_false_iff_ne.mpr c33
            have c33b1:=bne_iff_ne.mpr c33
            have H':=Aside0.mk H
            clear H
            have p589:0<=((ji27):Int):=od_
            have q589:(ji27) < (l0.length:Int):=od_
            obtain⟨ad589,e589,hx589_0⟩:=Kd.at_int HR0.out (ji27) p589 q589
            cases e589
            replace hx589_0:=cx_ HB.out rfl hx589_0
            replace p589:=eq_true p589
            replace q589:=eq_true q589
            go_wp2
            subst hji32 hji30 hji27
            go_roundg k3
            case measure=>have:=HJ3.out;have:=HK2.out;have:=HK3.out;omega
            case rel=>exact⟨(wrap64 (x12_3+1)),rs_,H',⟨by have:=HJ3.out;have:=HK2.out;have:=HK3.out;omega⟩,⟨Kd.ru_ HO_8.out⟩,⟨bw_⟩⟩
        rw[if_pos c13]at H
        have c13b0:=decide_eq_true c13
        clear c13
        have H':=Aside0.mk H
        clear H
        go_wp2
        go_loopg [10,11] k2 (fun kq v10 v11 w'=>∃ (x10_3:Int) (x11_3:Int),v10= .int .u64 x10_3∧v11= .int .i64 x11_3∧Aside0 (dragnetref03_Unpack.l1 kq l0 a1 a2 x8_2 x9_2 x10_3 x11_3=some (r1,r2))∧Aside0 (kq<=k2)∧Aside0 (Kd.R (Kd.int .u64) 48 w' w.heap.size (fun _=>True) u8 x8_2)∧Aside0 (Below w.heap.size w w'))
        case atStart=>exact⟨(0),(0),rs_,rs_,H',⟨Nat.le_refl _⟩,⟨Kd.ru_ HO_8.out⟩,⟨bw_⟩⟩
        case round=>
         clear H'
         clear c13b0
         obtain⟨x10_3,x11_3,rfl,rfl,HA,HK3,HO_8,HB⟩:=hrel
         cases gk with
         |zero=>exact absurd HA.out (by simp[dragnetref03_Unpack.l1])
         |succ k3=>
          have H:=HA.out
          clear HA
          simp only[dragnetref03_Unpack.l1]at H
          by_cases c14:x11_3 < a2
          rotate_left
          .rw[if_neg c14]at H
           have c14b0:=decide_eq_false c14
           clear c14
           by_cases c24:x8_2.length < 17592186044416
           rotate_left
           .rw[if_neg c24]at H
            cases H
           rw[if_pos c24]at H
           have LMc24:=Aside0.mk c24
           clear c24
           obtain⟨y586,hy586⟩:∃ y_:List Int,y_=(x8_2++[x10_3]):=⟨_,rfl⟩
           replace H:(dragnetref03_Unpack.l0 k3 l0 a1 a2 y586 (wrap64 (x9_2+1)))=some (r1,r2):=hx_ hy586 H
           have Ny586:=Aside0.mk hy586
           clear hy586
           have H':=Aside0.mk H
           clear H
           go_wp2_with (first|((with_reducible refine gate_builtin (b:= .append) (xs:= #[.tmp 71,.tmp 73]) rfl ?_);at_builtin;refine Kd.R_append (Kd.int .u64) (w0:=w) w.heap.size rfl (.tmp 71) (.tmp 73) 52 48 (.int .u64 0) 8 rfl Try.underlying52 info48 rfl (by decide) (by omega) u8 x8_2 x10_3 [.int .u64 x10_3] (fun _=>True) (fun _=>False) rfl rfl ?aP (fun _ hk=>hk.elim) ?aF ?aO ?aB ?aS ?aL ?_;(case aP=>exact rfl);(case aB=>exact bw_);(case aF=>exact(fun _ _=>trivial));(case aO=>exact(Kd.ru_ HO_8.out));(case aS=>exact(pbS_ bw_));(case aL=>have:=LMc24.out;omega);intro v587 w25 ho hb hg hat;rw[<- Ny586.out]at ho;have n0_:=Aside0.mk (hb);have n1_:=Aside0.mk (ho);clear HB;clear HO_8;have HB:=n0_;have HO588:=n1_;clear n0_ n1_;clear ho hb hg hat))
           go_roundg k3
           case measure=>have:=HJ3.out;have:=HK2.out;have:=HK3.out;omega
           case rel=>exact⟨(y586),(wrap64 (x9_2+1)),rs_,H',⟨by have:=HJ3.out;have:=HK2.out;have:=HK3.out;omega⟩,⟨Kd.ru_ HO588.out⟩,⟨bw_⟩⟩
          rw[if_pos c14]at H
          have c14b0:=decide_eq_true c14
          clear c14
          obtain⟨ji15,hji15⟩:∃ j_:Int,(wrap64 (Int.tdiv (wrap64 ((wrap64 (x9_2*a2))+x11_3)) 8))=j_:=⟨_,rfl⟩
          replace H:(if 0<=(ji15)then(if(ji15) < (l0.length:Int)then(if 0<=(Int.tmod (wrap64 ((wrap64 (x9_2*a2))+x11_3)) 8)then(if(Int.tmod (shr .u8 (rd l0 (ji15)) (Int.tmod (wrap64 ((wrap64 (x9_2*a2))+x11_3)) 8)) 2)=1 then(if 0<=x11_3 then(dragnetref03_Unpack.l1 k3 l0 a1 a2 x8_2 x9_2 (IntKind.u64.wrap (x10_3+(shl .u64 1 x11_3))) (wrap64 (x11_3+1)))else(none))else(dragnetref03_Unpack.l1 k3 l0 a1 a2 x8_2 x9_2 x10_3 (wrap64 (x11_3+1))))else(none))else(none))else(none))=some (r1,r2):=hj_ hji15 H
          have hji15w:(IntKind.i64.wrap (Int.tdiv (wrap64 ((wrap64 (x9_2*a2))+x11_3)) 8))=ji15:=(i64_w _).trans hji15
          by_cases c16:0<=(ji15)
          rotate_left
          .rw[if_neg c16]at H
           cases H
          rw[if_pos c16]at H
          have c16b0:=decide_eq_true c16
          clear c16
          by_cases c17:(ji15) < (l0.length:Int)
          rotate_left
          .rw[if_neg c17]at H
           cases H
          rw[if_pos c17]at H
          have c17b0:=decide_eq_true c17
          clear c17
          obtain⟨ji18,hji18⟩:∃ j_:Int,(Int.tmod (wrap64 ((wrap64 (x9_2*a2))+x11_3)) 8)=j_:=⟨_,rfl⟩
          replace H:(if 0<=(ji18)then(if(Int.tmod (shr .u8 (rd l0 (ji15)) (ji18)) 2)=1 then(if 0<=x11_3 then(dragnetref03_Unpack.l1 k3 l0 a1 a2 x8_2 x9_2 (IntKind.u64.wrap (x10_3+(shl .u64 1 x11_3))) (wrap64 (x11_3+1)))else(none))else(dragnetref03_Unpack.l1 k3 l0 a1 a2 x8_2 x9_2 x10_3 (wrap64 (x11_3+1))))else(none))=some (r1,r2):=hj_ hji18 H
          by_cases c19:0<=(ji18)
          rotate_left
          .rw[if_neg c19]at H
           cases H
          rw[if_pos c19]at H
          have c19b0:=eq_true c19
          have c19b1:=decide_eq_true c19
          clear c19
          obtain⟨ji20,hji20⟩:∃ j_:Int,(shr .u8 (rd l0 (ji15)) (ji18))=j_:=⟨_,rfl⟩
          replace H:(if(Int.tmod (ji20) 2)=1 then(if 0<=x11_3 then(dragnetref03_Unpack.l1 k3 l0 a1 a2 x8_2 x9_2 (IntKind.u64.wrap (x10_3+(shl .u64 1 x11_3))) (wrap64 (x11_3+1)))else(none))else(dragnetref03_Unpack.l1 k3 l0 a1 a2 x8_2 x9_2 x10_3 (wrap64 (x11_3+1))))=some (r1,r2):=hj_ hji20 H
          have hji20_:((rd l0 (ji15)) / 2 ^ min (ji18).toNat 8)=ji20:=hji20
          have hji20z:(ji18)<=8->((rd l0 (ji15)) / 2 ^ (ji18).toNat)=ji20:=shr_small hji20
          by_cases c21:(Int.tmod (ji20) 2)=1
          rotate_left
          .rw[if_neg c21]at H
           have c21b0:=beq_eq_false_iff_ne.mpr c21
           have c21b1:=bne_iff_ne.mpr c21
           have H':=Aside0.mk H
           clear H
           have p585:0<=((ji15):Int):=od_
           have q585:(ji15) < (l0.length:Int):=od_
           obtain⟨ad585,e585,hx585_0⟩:=Kd.at_int HR0.out (ji15) p585 q585
           cases e585
           replace hx585_0:=cx_ HB.out rfl hx585_0
           replace p585:=eq_true p585
           replace q585:=eq_true q585
           go_wp2
           subst hji20 hji18 hji15
           go_roundg k3
           case measure=>have:=HJ3.out;have:=HK2.out;have:=HK3.out;omega
           case rel=>exact⟨(x10_3),(wrap64 (x11_3+1)),rs_,rs_,H',⟨by have:=HJ3.out;have:=HK2.out;have:=HK3.out;omega⟩,⟨Kd.ru_ HO_8.out⟩,⟨bw_⟩⟩
          rw[if_pos c21]at H
          have c21b0:=beq_iff_eq.mpr c21
          have c21b1:=bne_eq_false_iff_eq.mpr c21
          clear c21
          by_cases c22:0<=x11_3
          rotate_left
          .rw[if_neg c22]at H
           cases H
          rw[if_pos c22]at H
          have c22b0:=eq_true c22
          have c22b1:=decide_eq_true c22
          clear c22
          obtain⟨ji23,hji23⟩:∃ j_:Int,(shl .u64 1 x11_3)=j_:=⟨_,rfl⟩
          replace H:(dragnetref03_Unpack.l1 k3 l0 a1 a2 x8_2 x9_2 (IntKind.u64.wrap (x10_3+(ji23))) (wrap64 (x11_3+1)))=some (r1,r2):=hj_ hji23 H
          have hji23_:(IntKind.u64.wrap (1*2 ^ min x11_3.toNat 64))=ji23:=hji23
          have hji23z:x11_3<=64->(IntKind.u64.wrap (1*2 ^ x11_3.toNat))=ji23:=shl_small hji23
          have hji23u:(IntKind.u64.wrap (2 ^ min x11_3.toNat 64))=ji23:=by have h_:=hji23_;rw[Int.one_mul]at h_;exact h_
          have hji23v:x11_3<=64->(IntKind.u64.wrap (2 ^ x11_3.toNat))=ji23:=fun hle_=>by have h_:=hji23z hle_;rw[Int.one_mul]at h_;exact h_
          have H':=Aside0.mk H
          clear H
          have p585:0<=((ji15):Int):=od_
          have q585:(ji15) < (l0.length:Int):=od_
          obtain⟨ad585,e585,hx585_0⟩:=Kd.at_int HR0.out (ji15) p585 q585
          cases e585
          replace hx585_0:=cx_ HB.out rfl hx585_0
          replace p585:=eq_true p585
          replace q585:=eq_true q585
          go_wp2
          subst hji23 hji20 hji18 hji15
          go_roundg k3
          case measure=>have:=HJ3.out;have:=HK2.out;have:=HK3.out;omega
          case rel=>exact⟨(IntKind.u64.wrap (x10_3+((shl .u64 1 x11_3)))),(wrap64 (x11_3+1)),(by first|rfl|(simp;done)|(simp only[<- hji23]<;>(first|rfl|simp))|(simp[*];done)),rs_,H',⟨by have:=HJ3.out;have:=HK2.out;have:=HK3.out;omega⟩,⟨Kd.ru_ HO_8.out⟩,⟨bw_⟩⟩
end Go.Proofs.Ytooeclfeallkkaa.P
end
