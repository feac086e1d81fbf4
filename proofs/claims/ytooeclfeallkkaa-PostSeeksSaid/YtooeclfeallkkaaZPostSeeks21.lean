/- Words and proofs that PostSeeks leans on; put together by wip/tools/shake.py. -/
import Derived.Test.YtooeclfeallkkaaZPostSeeks20
import Derived.Laws.BitsAllLaws
section
namespace Go.Proofs.YtooeclfeallkkaaQ
open Go.RowKit Go.Proofs.YtooeclfeallkkaaW.PrintWords Go.Proofs.YtooeclfeallkkaaW.PrintMore Go.Proofs.YtooeclfeallkkaaW.PrintLast Go.Proofs.Ytooeclfeallkkaa.P
def up (l:List Nat):List Int:=l.map fun (n:Nat)=>(n:Int)
def Lt64 (l:List Nat):Prop:=∀ x∈l,x < 2 ^ 64
@[simp] theorem up_length (l : List Nat) : (up l).length = l.length := by simp [up]
theorem up_append (a b:List Nat):up (a++b)=up a++up b:=by simp[up]
theorem up_take (l:List Nat) (n:Nat):(up l).take n=up (l.take n):=by simp[up,List.map_take]
theorem up_drop (l:List Nat) (n:Nat):(up l).drop n=up (l.drop n):=by simp[up,List.map_drop]
theorem up_inj {a b:List Nat} (h:up a=up b):a=b:=by
 have:=congrArg (List.map Int.toNat) h
 simpa[up,Function.comp_def]using this
theorem u64_up {l:List Nat} (h:Lt64 l):U64 (up l):=fun x hx=>by
 obtain⟨n,hn,rfl⟩:=List.mem_map.1 hx
 have:=h n hn
 omega
theorem up_get (l:List Nat) (i:Nat) (h:i < l.length):(up l)[i]'(by simpa using h)=(l[i]:Int):=by simp[up]
theorem rd_up (l:List Nat) (i:Nat) (h:i < l.length):rd (up l) (i:Int)=(l[i]:Int):=by
 rw[rd_nat _ _ (by simpa using h),up_get l i h]
theorem Lt64.get {l:List Nat} (h:Lt64 l) (i:Nat) (hi:i < l.length):l[i] < 18446744073709551616:=h _ (List.getElem_mem hi)
theorem Lt64.drop {l:List Nat} (h:Lt64 l) (n:Nat):Lt64 (l.drop n):=fun x hx=>h x (List.mem_of_mem_drop hx)
theorem Lt64.take {l:List Nat} (h:Lt64 l) (n:Nat):Lt64 (l.take n):=fun x hx=>h x (List.mem_of_mem_take hx)
def fill (es:List Int) (i:Nat):List Int:=es.take i++List.replicate (es.length - i) 0
theorem fill_zero (es:List Int):fill es 0=List.replicate es.length 0:=by simp[fill]
theorem fill_all (es:List Int):fill es es.length=es:=by simp[fill]
theorem fill_length (es:List Int) (i:Nat) (h:i<=es.length):(fill es i).length=es.length:=by simp[fill];omega
theorem fill_set (es:List Int) (i:Nat) (h:i < es.length):(fill es i).set i es[i]=fill es (i+1):=by
 have e:es.length - i=(es.length - (i+1))+1:=by omega
 unfold fill
 rw[e,List.replicate_succ,List.set_append_right _ _ (by simp;omega),List.length_take,Nat.min_eq_left (by omega),Nat.sub_self,List.set_cons_zero,List.take_succ_eq_append_getElem h,List.append_assoc]
 rfl
def tailOf (w:Nat):Nat->List Nat->List Int
 |_,[]=>[]
 |i,d :: ds=>(if 0 < d / 2 ^ w then(i:Int) :: numEnc (d / 2 ^ w)else[])++tailOf w (i+1) ds
def tailLen (w:Nat):List Nat->Nat
 |[]=>0
 |d :: ds=>(if 0 < d / 2 ^ w then 1+(numEnc (d / 2 ^ w)).length else 0)+tailLen w ds
def cntOf (w:Nat):List Nat->Nat
 |[]=>0
 |d :: ds=>(if 0 < d / 2 ^ w then 1 else 0)+cntOf w ds
def lowOf (w:Nat) (ds:List Nat):List Int:=up (ds.map fun d=>d % 2 ^ w)
def costOf (ds:List Nat) (w:Nat):Nat:=(ds.length*w+7) / 8+tailLen w ds
theorem length_tailOf (w:Nat):∀ (ds:List Nat) (i:Nat),(tailOf w i ds).length=tailLen w ds
 |[],_=>rfl
 |d :: ds,i=>by
  rw[tailOf,tailLen,List.length_append,length_tailOf w ds (i+1)]
  split<;>simp;omega
theorem tailOf_append (w:Nat):∀ (a:List Nat) (i:Nat) (b:List Nat),tailOf w i (a++b)=tailOf w i a++tailOf w (i+a.length) b
 |[],i,b=>by simp[tailOf]
 |d :: a,i,b=>by
  rw[List.cons_append,tailOf,tailOf,tailOf_append w a (i+1) b,List.append_assoc,List.length_cons,show i+1+a.length=i+(a.length+1) by omega]
theorem cntOf_append (w:Nat):∀ (a b:List Nat),cntOf w (a++b)=cntOf w a+cntOf w b
 |[],b=>by simp[cntOf]
 |d :: a,b=>by rw[List.cons_append,cntOf,cntOf,cntOf_append w a b];omega
theorem tailOf_snoc (w:Nat) (ds:List Nat) (i:Nat) (h:i < ds.length):
  tailOf w 0 (ds.take (i+1))=tailOf w 0 (ds.take i)++(if 0 < ds[i] / 2 ^ w then(i:Int) :: numEnc (ds[i] / 2 ^ w)else[]):=by
 rw[List.take_succ_eq_append_getElem h,tailOf_append,List.length_take,Nat.min_eq_left (by omega),Nat.zero_add]
 simp[tailOf]
theorem cntOf_snoc (w:Nat) (ds:List Nat) (i:Nat) (h:i < ds.length):cntOf w (ds.take (i+1))=cntOf w (ds.take i)+(if 0 < ds[i] / 2 ^ w then 1 else 0):=by
 rw[List.take_succ_eq_append_getElem h,cntOf_append]
 simp[cntOf]
theorem div_lt64 {d:Nat} (h:d < 2 ^ 64) (w:Nat):d / 2 ^ w < 2 ^ 64:=Nat.lt_of_le_of_lt (Nat.div_le_self _ _) h
theorem tailLen_le (w:Nat):∀ (ds:List Nat),Lt64 ds->tailLen w ds<=10*ds.length
 |[],_=>Nat.zero_le _
 |d :: ds,h=>by
  have h1:=tailLen_le w ds (fun x hx=>h x (List.mem_cons_of_mem _ hx))
  have h2:=length_numEnc_le (div_lt64 (h d List.mem_cons_self) w)
  rw[tailLen,List.length_cons]
  split<;>omega
theorem cntOf_le (w:Nat):∀ (ds:List Nat),cntOf w ds<=ds.length
 |[]=>Nat.le_refl _
 |d :: ds=>by
  have:=cntOf_le w ds
  rw[cntOf,List.length_cons]
  split<;>omega
theorem length_lowOf (w:Nat) (ds:List Nat):(lowOf w ds).length=ds.length:=by simp[lowOf]
theorem lowOf_get (w:Nat) (ds:List Nat) (i:Nat) (h:i < ds.length):(lowOf w ds)[i]'(by rw[length_lowOf];exact h)=((ds[i] % 2 ^ w:Nat):Int):=by simp[lowOf,up]
theorem u64_lowOf {ds:List Nat} (h:Lt64 ds) (w:Nat):U64 (lowOf w ds):=by
 refine u64_up fun x hx=>?_
 obtain⟨d,hd,rfl⟩:=List.mem_map.1 hx
 exact Nat.lt_of_le_of_lt (Nat.mod_le _ _) (h d hd)
theorem fit_lowOf (w:Nat) (ds:List Nat):Fit w (lowOf w ds):=fun x hx=>by
 obtain⟨n,hn,rfl⟩:=List.mem_map.1 hx
 obtain⟨d,hd,rfl⟩:=List.mem_map.1 hn
 rw[Int.toNat_natCast]
 exact Nat.mod_lt _ (two_pow_pos' _)
theorem fits64 {d w:Nat} (h:d < 2 ^ 64) (hw:64<=w):d / 2 ^ w=0:=Nat.div_eq_of_lt (Nat.lt_of_lt_of_le h (Nat.pow_le_pow_right (by decide) hw))
theorem high_eq {d w:Nat} (hd:d < 2 ^ 64) (hw:w<=64):pfor_high.f (d:Int) (w:Int)=some ((d / 2 ^ w:Nat):Int):=by
 unfold pfor_high.f
 by_cases h:w=64
 .rw[if_pos (by omega),fits64 hd (by omega)];rfl
 .rw[if_neg (by omega),if_pos (by omega),shr_u64 _ _ hw]
  simp
theorem psize_ev {v:Nat} (hv:v < 2 ^ 64):Ev (fun k=>pfor_size.f k (v:Int)) ((numEnc v).length:Int):=by
 unfold pfor_size.f
 exact Ev.bind (put_ev [] (by simp) hv) (Ev.now _)
def bestW (c:Nat->Nat):Nat->Nat
 |0=>0
 |k+1=>if c (k+1) < c (bestW c k)then k+1 else bestW c k
theorem bestW_le (c:Nat->Nat):∀ k,bestW c k<=k
 |0=>Nat.le_refl _
 |k+1=>by
  have:=bestW_le c k
  rw[bestW];split<;>omega
theorem tailLen_drop (w:Nat) (ds:List Nat) (i:Nat) (h:i < ds.length):tailLen w (ds.drop i)=(if 0 < ds[i] / 2 ^ w then 1+(numEnc (ds[i] / 2 ^ w)).length else 0)+tailLen w (ds.drop (i+1)):=by
 rw[List.drop_eq_getElem_cons h,tailLen]
theorem pwidth_inner {ds:List Nat} (hd:Lt64 ds) (hl:ds.length<=32) (best least:Int) {w:Nat} (hw:w<=64) (r:Int):∀ (m i n:Nat),i+m=ds.length->n<=1000+10*i->
  Ev (fun k=>if least < 0 then pfor_width.l0 k (up ds) (w:Int) ((n+tailLen w (ds.drop i):Nat):Int) (wrap64 ((w:Int)+1))else if((n+tailLen w (ds.drop i):Nat):Int) < least then pfor_width.l0 k (up ds) (w:Int) ((n+tailLen w (ds.drop i):Nat):Int) (wrap64 ((w:Int)+1))else pfor_width.l0 k (up ds) best least (wrap64 ((w:Int)+1))) r->
  Ev (fun k=>pfor_width.l1 k (up ds) best least (w:Int) (n:Int) (up ds) (ds.length:Int) (i:Int)) r
 |0,i,n,hi,hn,h=>by
  rw[List.drop_of_length_le (by omega)]at h
  apply Ev.succ
  simp only[pfor_width.l1]
  exact Ev.if_f (by omega) h
 |m+1,i,n,hi,hn,h=>by
  have hil:i < ds.length:=by omega
  have hx:=hd.get i hil
  rw[tailLen_drop w ds i hil]at h
  apply Ev.succ
  simp only[pfor_width.l1]
  refine Ev.if_t (by omega) (Ev.if_t (by omega) (Ev.if_t (by simp;omega) ?_))
  rw[rd_up ds i hil,inc i (by omega)]
  refine Ev.obind (high_eq hx hw) ?_
  by_cases hp:0 < ds[i] / 2 ^ w
  .rw[if_pos hp]at h
   have h9:=length_numEnc_le (div_lt64 hx w)
   refine Ev.if_t (by omega) (Ev.bind (psize_ev (div_lt64 hx w)) ?_)
   rw[show(1:Int)=((1:Nat):Int) from rfl,add64 1 _ (by omega),add64 n _ (by omega)]
   refine pwidth_inner hd hl best least hw r m (i+1) _ (by omega) (by omega) ?_
   rw[<- Nat.add_assoc]at h
   exact h
  .rw[if_neg hp,Nat.zero_add]at h
   refine Ev.if_f (by omega) ?_
   exact pwidth_inner hd hl best least hw r m (i+1) n (by omega) (by omega) h
theorem cost_small {ds:List Nat} (hd:Lt64 ds) (hl:ds.length<=32) {w:Nat} (hw:w<=64):(ds.length*w+7) / 8<=257∧costOf ds w<=600:=by
 have h1:=tailLen_le w ds hd
 have h2:ds.length*w<=32*64:=Nat.mul_le_mul hl hw
 unfold costOf
 omega
theorem pwidth_round {ds:List Nat} (hd:Lt64 ds) (hl:ds.length<=32) (best least:Int) {w:Nat} (hw:w<=64) (r:Int)
  (h:Ev (fun k=>if least < 0 then pfor_width.l0 k (up ds) (w:Int) (costOf ds w:Int) ((w+1:Nat):Int)else if(costOf ds w:Int) < least then pfor_width.l0 k (up ds) (w:Int) (costOf ds w:Int) ((w+1:Nat):Int)else pfor_width.l0 k (up ds) best least ((w+1:Nat):Int)) r):
  Ev (fun k=>pfor_width.l0 k (up ds) best least (w:Int)) r:=by
 apply Ev.succ
 simp only[pfor_width.l0]
 refine Ev.if_t (by omega) ?_
 rw[up_length,wrap_size ds.length w hw (by omega)]
 have hs:=(cost_small hd hl hw).1
 refine pwidth_inner hd hl best least hw r ds.length 0 _ (by omega) (by omega) ?_
 rw[inc w (by omega),List.drop_zero]
 exact h
theorem pwidth_loop {ds:List Nat} (hd:Lt64 ds) (hl:ds.length<=32):∀ (m w:Nat),w+m=64->
  Ev (fun k=>pfor_width.l0 k (up ds) (bestW (costOf ds) w:Int) (costOf ds (bestW (costOf ds) w):Int) ((w+1:Nat):Int)) (bestW (costOf ds) 64:Int)
 |0,w,hm=>by
  obtain rfl:w=64:=by omega
  apply Ev.succ
  simp only[pfor_width.l0]
  exact Ev.if_f (by omega) (Ev.now _)
 |m+1,w,hm=>by
  refine pwidth_round hd hl _ _ (by omega) _ ?_
  have ih:=pwidth_loop hd hl m (w+1) (by omega)
  refine Ev.if_f (by omega) ?_
  rw[bestW]at ih
  by_cases h:costOf ds (w+1) < costOf ds (bestW (costOf ds) w)
  .rw[if_pos h]at ih
   exact Ev.if_t (by omega) ih
  .rw[if_neg h]at ih
   exact Ev.if_f (by omega) ih
theorem pwidth_ev {ds:List Nat} (hd:Lt64 ds) (hl:ds.length<=32):Ev (fun k=>pfor_width.f k (up ds)) (bestW (costOf ds) 64:Int):=by
 unfold pfor_width.f
 have:=pwidth_round hd hl 0 (-1) (w:=0) (by omega) (bestW (costOf ds) 64:Int) (Ev.if_t (by decide) (pwidth_loop hd hl 64 0 (by omega)))
 exact this
theorem rd_L2_nat (ls:List (List Int)) (i:Nat) (h:i < ls.length):rd_L5 ls (i:Int)=ls[i]:=by
 unfold rd_L5
 rw[Int.toNat_natCast,List.getD_eq_getElem?_getD,List.getElem?_eq_getElem h];rfl
theorem concat_l1 (ls:List (List Int)) (hn:ls.length<=1000000):∀ (m i:Nat) (acc:List Int),i+m=ls.length->acc.length+(ls.drop i).flatten.length < 140737488355328->
  Ev (fun k=>slices_Concat_byte_byte.l1 k acc ls (ls.length:Int) (i:Int)) (acc++(ls.drop i).flatten)
 |0,i,acc,hi,hb=>by
  apply Ev.succ
  simp only[slices_Concat_byte_byte.l1]
  rw[List.drop_of_length_le (by omega)]
  simp only[List.flatten_nil,List.append_nil]
  exact Ev.if_f (by omega) (Ev.now _)
 |m+1,i,acc,hi,hb=>by
  have hil:i < ls.length:=by omega
  rw[List.drop_eq_getElem_cons hil,List.flatten_cons,List.length_append]at hb
  apply Ev.succ
  simp only[slices_Concat_byte_byte.l1]
  rw[rd_L2_nat ls i hil,inc i (by omega),List.drop_eq_getElem_cons hil,List.flatten_cons,<- List.append_assoc]
  refine Ev.if_t (by omega) (Ev.if_t (by omega) (Ev.if_t (by omega) (Ev.if_t (by omega) ?_)))
  exact concat_l1 ls hn m (i+1) _ (by omega) (by rw[List.length_append];omega)
theorem concat_l0 (ls:List (List Int)) (hn:ls.length<=1000000) (hb:ls.flatten.length < 140737488355328):∀ (m i s:Nat),i+m=ls.length->s+(ls.drop i).flatten.length=ls.flatten.length->
  Ev (fun k=>slices_Concat_byte_byte.l0 k ls (s:Int) ls (ls.length:Int) (i:Int)) ls.flatten
 |0,i,s,hi,hs=>by
  apply Ev.succ
  simp only[slices_Concat_byte_byte.l0]
  refine Ev.if_f (by omega) (Ev.obind (a:=[]) ?_ ?_)
  .unfold slices_Grow_byte_byte.f
   rw[if_pos (by omega),if_pos (by simp;omega)]
  .have:=concat_l1 ls hn ls.length 0 [] (by omega) (by simpa using hb)
   simpa using this
 |m+1,i,s,hi,hs=>by
  have hil:i < ls.length:=by omega
  rw[List.drop_eq_getElem_cons hil,List.flatten_cons,List.length_append]at hs
  apply Ev.succ
  simp only[slices_Concat_byte_byte.l0]
  rw[rd_L2_nat ls i hil,inc i (by omega),add64 s _ (by omega)]
  refine Ev.if_t (by omega) (Ev.if_t (by omega) (Ev.if_t (by omega) (Ev.if_f (by omega) ?_)))
  exact concat_l0 ls hn hb m (i+1) _ (by omega) (by omega)
theorem concat_ev (ls:List (List Int)) (hn:ls.length<=1000000) (hb:ls.flatten.length < 140737488355328):Ev (fun k=>slices_Concat_byte_byte.f k ls) ls.flatten:=by
 unfold slices_Concat_byte_byte.f
 exact concat_l0 ls hn hb ls.length 0 0 (by omega) (by simp)
def minN:Nat->List Nat->Nat
 |m,[]=>m
 |m,x :: r=>minN (min m x) r
theorem minN_le:∀ (l:List Nat) (m:Nat),minN m l<=m∧∀ x∈l,minN m l<=x
 |[],m=>⟨Nat.le_refl _,fun x h=>by cases h⟩
 |y :: r,m=>by
  have ih:=minN_le r (min m y)
  rw[minN]
  refine⟨by omega,fun x hx=>?_⟩
  rcases List.mem_cons.1 hx with rfl|h
  .omega
  .exact ih.2 x h
theorem mn_nat (a b:Nat):mn (a:Int) (b:Int)=((min a b:Nat):Int):=mn_eq a b
theorem min_loop (l:List Nat) (hn:l.length<=1000000):∀ (m i a:Nat),i+m=l.length->
  Ev (fun k=>slices_Min_uint64_uint64.l0 k (up l) (a:Int) (i:Int)) (minN a (l.drop i):Int)
 |0,i,a,hi=>by
  apply Ev.succ
  simp only[slices_Min_uint64_uint64.l0]
  rw[List.drop_of_length_le (by omega)]
  exact Ev.if_f (by simp;omega) (Ev.now _)
 |m+1,i,a,hi=>by
  have hil:i < l.length:=by omega
  apply Ev.succ
  simp only[slices_Min_uint64_uint64.l0]
  rw[rd_up l i hil,inc i (by omega),mn_nat,List.drop_eq_getElem_cons hil,minN]
  exact Ev.if_t (by simp;omega) (Ev.if_t (by omega) (min_loop l hn m (i+1) _ (by omega)))
theorem min_ev (x:Nat) (r:List Nat) (hn:r.length<=1000):Ev (fun k=>slices_Min_uint64_uint64.f k (up (x :: r))) (minN x r:Int):=by
 unfold slices_Min_uint64_uint64.f
 rw[show rd (up (x :: r)) 0=(x:Int) from rd_up (x :: r) 0 (by simp)]
 refine Ev.if_f (by simp;omega) (Ev.if_t (by simp) ?_)
 have:=min_loop (x :: r) (by simp;omega) r.length 1 x (by simp;omega)
 simpa using this
def baseOf:List Nat->Nat
 |[]=>0
 |x :: r=>minN x r
def lessOf (ns:List Nat):List Nat:=ns.map fun n=>n - baseOf ns
def byOf (base:Nat) (ds:List Nat) (w:Nat):List Int:=(ds.length:Int) :: (numEnc base++((w:Int) :: (cntOf w ds:Int) :: (packOf w (lowOf w ds)++tailOf w 0 ds)))
def widthB (ns:List Nat):Nat:=bestW (costOf (lessOf ns)) 64
def blockOf (ns:List Nat):List Int:=byOf (baseOf ns) (lessOf ns) (widthB ns)
theorem length_byOf (base:Nat) (ds:List Nat) (w:Nat):(byOf base ds w).length=3+(numEnc base).length+costOf ds w:=by
 unfold byOf costOf
 simp only[List.length_cons,List.length_append,length_packOf,length_lowOf,length_tailOf]
 rw[Nat.mul_comm w]
 omega
theorem baseOf_le (ns:List Nat) (i:Nat) (h:i < ns.length):baseOf ns<=ns[i]:=by
 cases ns with
 |nil=>simp at h
 |cons x r=>
  have:=minN_le r x
  cases i with
  |zero=>exact this.1
  |succ i=>exact this.2 _ (List.getElem_mem _)
theorem baseOf_lt {ns:List Nat} (h:Lt64 ns):baseOf ns < 2 ^ 64:=by
 cases ns with
 |nil=>decide
 |cons x r=>exact Nat.lt_of_le_of_lt (minN_le r x).1 (h x List.mem_cons_self)
theorem lt_lessOf {ns:List Nat} (h:Lt64 ns):Lt64 (lessOf ns):=fun x hx=>by
 obtain⟨n,hn,rfl⟩:=List.mem_map.1 hx
 exact Nat.lt_of_le_of_lt (Nat.sub_le _ _) (h n hn)
@[simp] theorem length_lessOf (ns : List Nat) : (lessOf ns).length = ns.length := by simp [lessOf]
theorem lessOf_get (ns:List Nat) (i:Nat) (h:i < ns.length):(lessOf ns)[i]'(by simpa using h)=ns[i] - baseOf ns:=by simp[lessOf]
theorem widthB_le (ns:List Nat):widthB ns<=64:=bestW_le _ _
theorem low_bits (d w:Nat) (hd:d < 2 ^ 64) (hw:w<=64):Go.bits .andNot .u64 (d:Int) (shl .u64 ((d / 2 ^ w:Nat):Int) (w:Int))=((d % 2 ^ w:Nat):Int):=by
 have hle:d / 2 ^ w*2 ^ w<=d:=Nat.div_mul_le_self _ _
 rw[shl_u64 _ _ hw,show(((d / 2 ^ w:Nat):Int)*2 ^ w)=((d / 2 ^ w*2 ^ w:Nat):Int) by simp,wu64 (by omega) (by omega),u64_andNot_nat d _ (by omega) (by omega)]
 congr 1
 apply Nat.eq_of_testBit_eq
 intro i
 rw[Nat.testBit_and,show 18446744073709551615 - d / 2 ^ w*2 ^ w=2 ^ 64 - (d / 2 ^ w*2 ^ w+1) by omega,Nat.testBit_two_pow_sub_succ (by omega),Nat.testBit_mod_two_pow,Nat.testBit_mul_two_pow,Nat.testBit_div_two_pow]
 by_cases hi:i < w
 .simp[hi,show ¬ w<=i by omega];omega
 .by_cases hb:d.testBit i=true
  .have:i < 64:=by
    rcases Nat.lt_or_ge i 64 with h|h
    .exact h
    .rw[Nat.testBit_lt_two_pow (Nat.lt_of_lt_of_le hd (Nat.pow_le_pow_right (by decide) h))]at hb;exact absurd hb (by decide)
   simp[hi,show w<=i by omega,hb,show i - w+w=i by omega]
  .simp[hi,hb]
theorem byte_nat (n:Nat) (h:n<=255):((n:Int)) % 256=(n:Int):=by omega
theorem blockCost_small {ns:List Nat} (h:Lt64 ns) (hl:ns.length<=32) {w:Nat} (hw:w<=64):costOf (lessOf ns) w<=600:=(cost_small (lt_lessOf h) (by simpa using hl) hw).2
theorem length_blockOf_le {ns:List Nat} (h:Lt64 ns) (hl:ns.length<=32):(blockOf ns).length<=700:=by
 have h1:=blockCost_small h hl (widthB_le ns)
 have h2:=length_numEnc_le (baseOf_lt h)
 unfold blockOf
 rw[length_byOf]
 omega
theorem put_l1 (b:List Int) (hb:b.length<=140737488352000) (l1:List Int) (ln:Nat) (hln:l1.length=ln) (h32:ln<=32) (base:Nat) (hbase:base < 2 ^ 64) {ds:List Nat} (hd:Lt64 ds) (hl:ds.length=ln) {w:Nat} (hw:w<=64):∀ (m i:Nat),i+m=ds.length->
    Ev (fun k=>pfor_PutBlock.l1 k b l1 (base:Int) (w:Int) (tailOf w 0 (ds.take i)) (cntOf w (ds.take i):Int) (fill (lowOf w ds) i) (up ds) (ds.length:Int) (i:Int)) (b++byOf base ds w,0)
  |0,i,hi=>by
    obtain rfl:i=ds.length:=by omega
    have hk:=cntOf_le w ds
    have hs:=cost_small hd (by omega) hw
    have ht:=tailLen_le w ds hd
    have h9:=length_numEnc_le hbase
    apply Ev.succ
    simp only[pfor_PutBlock.l1]
    rw[List.take_length,show fill (lowOf w ds) ds.length=lowOf w ds by rw[<- length_lowOf w ds];exact fill_all _]
    refine Ev.if_f (by omega) (Ev.bind (pack_ok (u64_lowOf hd w) (by rw[length_lowOf];omega) hw (fit_lowOf w ds)) (Ev.if_t rfl (Ev.obind (clone8 (by omega)) (Ev.if_t (by omega) ?_))))
    rw[hln,<- hl,byte_nat _ (by omega),byte_nat w (by omega),byte_nat (cntOf w ds) (by omega)]
    refine Ev.bind (put_ev (b++[(ds.length:Int)]) (by simp;omega) hbase) ?_
    simp only[Option.bind_some]
    refine Ev.if_t (by simp only[List.length_append,List.length_cons,List.length_nil];omega) ?_
    have e:[b++[(ds.length:Int)]++numEnc base++[(w:Int),(cntOf w ds:Int)],packOf w (lowOf w ds),tailOf w 0 ds].flatten=b++byOf base ds w:=by
      unfold byOf
      simp
    have hc := concat_ev [b ++ [(ds.length : Int)] ++ numEnc base ++ [(w : Int), (cntOf w ds : Int)], packOf w (lowOf w ds), tailOf w 0 ds] (by simp) (by
      rw [e, List.length_append, length_byOf]; omega)
    rw[e]at hc
    exact Ev.bind hc (Ev.now _)
  |m+1,i,hi=>by
    have hil:i < ds.length:=by omega
    have hx:=hd.get i hil
    have hk:=cntOf_le w (ds.take i)
    have ht:=tailLen_le w (ds.take i) (hd.take i)
    rw[List.length_take]at hk ht
    have ih:=put_l1 b hb l1 ln hln h32 base hbase hd hl hw m (i+1) (by omega)
    rw[tailOf_snoc w ds i hil,cntOf_snoc w ds i hil,<- fill_set _ i (by rw[length_lowOf];exact hil),lowOf_get w ds i hil]at ih
    apply Ev.succ
    simp only[pfor_PutBlock.l1]
    rw[rd_up ds i hil,inc i (by omega),Int.toNat_natCast,fill_length _ _ (by rw[length_lowOf];omega),length_lowOf,up_length]
    refine Ev.if_t (by omega) (Ev.if_t (by omega) (Ev.if_t (by omega) (Ev.obind (high_eq hx hw) (Ev.if_t (by omega) ?_))))
    simp only[Option.bind_some]
    by_cases hp:0 < ds[i] / 2 ^ w
    . rw[if_pos hp,if_pos hp]at ih
      refine Ev.if_t (by omega) (Ev.if_t (by omega) (Ev.if_t (by rw[length_tailOf];omega) ?_))
      rw[byte_nat i (by omega),inc (cntOf w (ds.take i)) (by omega),low_bits _ w hx hw,List.set_set]
      refine Ev.bind (put_ev _ (by rw[List.length_append,length_tailOf];simp;omega) (div_lt64 hx w)) ?_
      rw[List.append_assoc]
      exact ih
    . rw[if_neg hp,if_neg hp,List.append_nil,Nat.add_zero]at ih
      refine Ev.if_f (by omega) ?_
      have:ds[i] % 2 ^ w=ds[i]:=by
        have h1:=Nat.mod_add_div ds[i] (2 ^ w)
        rw[Nat.eq_zero_of_not_pos hp,Nat.mul_zero]at h1
        exact h1
      rw[this]at ih
      exact ih
theorem put_l0 (b:List Int) (hb:b.length<=140737488352000) {ns:List Nat} (hn:Lt64 ns) (h32:ns.length<=32):∀ (m i:Nat),i+m=ns.length->
  Ev (fun k=>pfor_PutBlock.l0 k b (up ns) (baseOf ns:Int) (fill (up (lessOf ns)) i) (up ns) (ns.length:Int) (i:Int)) (b++blockOf ns,0)
 |0,i,hi=>by
  obtain rfl:i=ns.length:=by omega
  apply Ev.succ
  simp only[pfor_PutBlock.l0]
  have ef:fill (up (lessOf ns)) ns.length=up (lessOf ns):=by
   have:=fill_all (up (lessOf ns))
   rwa [up_length,length_lessOf]at this
  rw[ef]
  refine Ev.if_f (by omega) (Ev.bind (pwidth_ev (lt_lessOf hn) (by simpa using h32)) (Ev.if_t (by omega) (Ev.if_t (by simp;omega) ?_)))
  have:=put_l1 b hb (up ns) ns.length (up_length ns) h32 (baseOf ns) (baseOf_lt hn) (lt_lessOf hn) (length_lessOf ns) (widthB_le ns) (lessOf ns).length 0 (by omega)
  rw[fill_zero,length_lowOf,length_lessOf]at this
  simp only[up_length,Int.toNat_natCast,length_lessOf]
  exact this
 |m+1,i,hi=>by
  have hil:i < ns.length:=by omega
  have hx:=hn.get i hil
  have hle:=baseOf_le ns i hil
  have ih:=put_l0 b hb hn h32 m (i+1) (by omega)
  rw[<- fill_set _ i (by simpa using hil),up_get (lessOf ns) i (by simpa using hil),lessOf_get ns i hil]at ih
  apply Ev.succ
  simp only[pfor_PutBlock.l0]
  rw[rd_up ns i hil,inc i (by omega),Int.toNat_natCast,fill_length _ _ (by simp;omega),wu64 (by omega) (by omega),show(ns[i]:Int) - (baseOf ns:Int)=((ns[i] - baseOf ns:Nat):Int) by omega]
  exact Ev.if_t (by omega) (Ev.if_t (by omega) (Ev.if_t (by simpa using hil) (Ev.if_t (by simpa using hil) ih)))
theorem putBlock_ok (b:List Int) (hb:b.length<=140737488352000) {ns:List Nat} (hn:Lt64 ns) (h1:1<=ns.length) (h32:ns.length<=32):Ev (fun k=>pfor_PutBlock.f k b (up ns)) (b++blockOf ns,0):=by
 unfold pfor_PutBlock.f
 refine Ev.if_f (by simp;omega) ?_
 rw[decide_eq_false (by simp;omega)]
 apply Ev.succ
 simp only[pfor_PutBlock.j0]
 refine Ev.if_f (by decide) ?_
 cases ns with
 |nil=>simp at h1
 |cons x r=>
  refine Ev.bind (min_ev x r (by simp at h32;omega)) (Ev.if_t (by omega) (Ev.if_t (by simp at h32 ⊢;omega) ?_))
  have:=put_l0 b hb hn h32 (x :: r).length 0 (by omega)
  rw[fill_zero]at this
  simp only[up_length,length_lessOf,Int.toNat_natCast]at this ⊢
  exact this
theorem rem_shl {d w:Nat} (hd:d < 2 ^ 64) (hw:w < 64): ¬ shl .u64 1 (w:Int)=0∧Int.tmod (d:Int) (shl .u64 1 (w:Int))=((d % 2 ^ w:Nat):Int):=by
 have h1:2 ^ w<=2 ^ 63:=Nat.pow_le_pow_right (by decide) (by omega)
 have h2:=two_pow_pos' w
 have e:shl .u64 1 (w:Int)=((2 ^ w:Nat):Int):=by
  rw[shl_u64 _ _ (by omega),Int.one_mul,<- cast_pow,wu64 (by omega) (by omega)]
 rw[e]
 refine⟨by omega,?_⟩
 rw[Int.tmod_eq_emod_of_nonneg (by omega)]
 omega
theorem by_l1 {ns:List Nat} (hn:Lt64 ns) (h32:ns.length<=32) {w:Nat} (hw:w<=64):∀ (m i:Nat),i+m=ns.length->
  Ev (fun k=>dragnetref04_By.l1 k (up ns) (w:Int) (baseOf ns:Int) ((lowOf w (lessOf ns)).take i) (tailOf w 0 ((lessOf ns).take i)) (cntOf w ((lessOf ns).take i):Int) (i:Int)) (byOf (baseOf ns) (lessOf ns) w)
 |0,i,hi=>by
  obtain rfl:i=ns.length:=by omega
  have hd:=lt_lessOf hn
  have hk:=cntOf_le w (lessOf ns)
  have hs:=cost_small hd (by simpa using h32) hw
  have ht:=tailLen_le w _ hd
  have h9:=length_numEnc_le (baseOf_lt hn)
  rw[length_lessOf]at hk hs ht
  apply Ev.succ
  simp only[dragnetref04_By.l1]
  rw[show(lowOf w (lessOf ns)).take ns.length=lowOf w (lessOf ns) from List.take_of_length_le (by rw[length_lowOf,length_lessOf];exact Nat.le_refl _),show(lessOf ns).take ns.length=lessOf ns from List.take_of_length_le (by rw[length_lessOf];exact Nat.le_refl _)]
  have hp:=ref_pack (u64_lowOf hd w) (by rw[length_lowOf,length_lessOf];omega) hw
  rw[if_pos (fit_lowOf w (lessOf ns))]at hp
  refine Ev.if_f (by simp) (Ev.bind hp ?_)
  simp only[Option.bind_some]
  refine Ev.bind (bytes_ev (baseOf_lt hn)) ?_
  rw[up_length,byte_nat _ (by omega),byte_nat w (by omega),byte_nat (cntOf w (lessOf ns)) (by omega)]
  have hpl:(packOf w (lowOf w (lessOf ns))).length<=257:=by rw[length_packOf,length_lowOf,length_lessOf,Nat.mul_comm];exact hs.1
  have htl:(tailOf w 0 (lessOf ns)).length<=320:=by rw[length_tailOf];omega
  refine Ev.if_t (by simp;omega) (Ev.if_t (by simp;omega) (Ev.if_t (by simp;omega) (Ev.if_t (by simp;omega) ?_)))
  refine Ev.of_eq fun _=>?_
  unfold byOf
  simp
 |m+1,i,hi=>by
  have hil:i < ns.length:=by omega
  have hil':i < (lessOf ns).length:=by simpa using hil
  have hx:=hn.get i hil
  have hle:=baseOf_le ns i hil
  have hk:=cntOf_le w ((lessOf ns).take i)
  have ht:=tailLen_le w ((lessOf ns).take i) ((lt_lessOf hn).take i)
  rw[List.length_take]at hk ht
  have ih:=by_l1 hn h32 hw m (i+1) (by omega)
  rw[tailOf_snoc w _ i hil',cntOf_snoc w _ i hil',List.take_succ_eq_append_getElem (by rw[length_lowOf];exact hil'),lowOf_get w _ i hil']at ih
  apply Ev.succ
  simp only[dragnetref04_By.l1]
  have ed:IntKind.u64.wrap (rd (up ns) (i:Int) - (baseOf ns:Int))=(((lessOf ns)[i]:Nat):Int):=by
   rw[rd_up ns i hil,wu64 (by omega) (by omega),lessOf_get ns i hil];omega
  have hd:=(lt_lessOf hn).get i hil'
  rw[ed,inc i (by omega)]
  generalize (lessOf ns)[i]=d at*
  have hlt:((lowOf w (lessOf ns)).take i).length < 17592186044416:=by rw[List.length_take];omega
  refine Ev.if_t (by simp;omega) (Ev.if_t (by omega) ?_)
  by_cases h64:w=64
  .subst h64
   have h0:d / 2 ^ 64=0:=fits64 hd (Nat.le_refl _)
   rw[h0,if_neg (by decide),if_neg (by decide),List.append_nil,Nat.add_zero,Nat.mod_eq_of_lt hd]at ih
   exact Ev.if_t rfl (Ev.if_t hlt ih)
  .obtain⟨hs0,hs1⟩:=rem_shl hd (show w < 64 by omega)
   rw[hs1]
   refine Ev.if_f (by omega) (Ev.if_t (by omega) (Ev.if_f hs0 (Ev.if_t hlt ?_)))
   simp only[Option.bind_some]
   rw[shr_u64 _ _ hw,show((d:Int) / 2 ^ w)=((d / 2 ^ w:Nat):Int) by simp]
   by_cases hp:0 < d / 2 ^ w
   .rw[if_pos hp,if_pos hp]at ih
    have h9:=length_numEnc_le (div_lt64 hd w)
    refine Ev.if_t (by omega) (Ev.if_t (by rw[length_tailOf];omega) (Ev.bind (bytes_ev (div_lt64 hd w)) (Ev.if_t (by rw[List.length_append,length_tailOf];simp;omega) ?_)))
    rw[byte_nat i (by omega),inc (cntOf w ((lessOf ns).take i)) (by omega),List.append_assoc]
    exact ih
   .rw[if_neg hp,if_neg hp,List.append_nil,Nat.add_zero]at ih
    exact Ev.if_f (by omega) ih
theorem by_l0 {ns:List Nat} (hn:Lt64 ns) (h1:1<=ns.length) (h32:ns.length<=32) {w:Nat} (hw:w<=64):∀ (m i a:Nat),i+m=ns.length->minN a (ns.drop i)=baseOf ns->
  Ev (fun k=>dragnetref04_By.l0 k (up ns) (w:Int) (a:Int) (i:Int)) (byOf (baseOf ns) (lessOf ns) w)
 |0,i,a,hi,ha=>by
  rw[List.drop_of_length_le (by omega),minN]at ha
  subst ha
  apply Ev.succ
  simp only[dragnetref04_By.l0]
  refine Ev.if_f (by simp;omega) ?_
  have:=by_l1 hn h32 hw ns.length 0 (by omega)
  exact this
 |m+1,i,a,hi,ha=>by
  have hil:i < ns.length:=by omega
  rw[List.drop_eq_getElem_cons hil,minN]at ha
  apply Ev.succ
  simp only[dragnetref04_By.l0]
  rw[rd_up ns i hil,inc i (by omega),mn_nat]
  exact Ev.if_t (by simp;omega) (Ev.if_t (by omega) (by_l0 hn h1 h32 hw m (i+1) _ (by omega) ha))
theorem by_ev {ns:List Nat} (hn:Lt64 ns) (h1:1<=ns.length) (h32:ns.length<=32) {w:Nat} (hw:w<=64):Ev (fun k=>dragnetref04_By.f k (up ns) (w:Int)) (byOf (baseOf ns) (lessOf ns) w):=by
 unfold dragnetref04_By.f
 refine Ev.if_t (by simp;omega) ?_
 cases ns with
 |nil=>simp at h1
 |cons x r=>
  rw[show rd (up (x :: r)) 0=(x:Int) from rd_up (x :: r) 0 (by simp)]
  refine by_l0 hn h1 h32 hw (x :: r).length 0 x (by omega) ?_
  simp[minN,baseOf]
theorem block_l0 {ns:List Nat} (hn:Lt64 ns) (h1:1<=ns.length) (h32:ns.length<=32):∀ (m w:Nat),w+m=64->
  Ev (fun k=>dragnetref04_Block.l0 k (up ns) (byOf (baseOf ns) (lessOf ns) (bestW (costOf (lessOf ns)) w)) ((w+1:Nat):Int)) (blockOf ns)
 |0,w,hm=>by
  obtain rfl:w=64:=by omega
  apply Ev.succ
  simp only[dragnetref04_Block.l0]
  exact Ev.if_f (by omega) (Ev.now _)
 |m+1,w,hm=>by
  have ih:=block_l0 hn h1 h32 m (w+1) (by omega)
  rw[bestW]at ih
  apply Ev.succ
  simp only[dragnetref04_Block.l0]
  rw[inc (w+1) (by omega)]
  refine Ev.if_t (by omega) (Ev.bind (by_ev hn h1 h32 (by omega)) ?_)
  rw[length_byOf,length_byOf]
  by_cases h:costOf (lessOf ns) (w+1) < costOf (lessOf ns) (bestW (costOf (lessOf ns)) w)
  .rw[if_pos h]at ih
   exact Ev.if_t (by omega) ih
  .rw[if_neg h]at ih
   exact Ev.if_f (by omega) ih
theorem block_ev {ns:List Nat} (hn:Lt64 ns) (h1:1<=ns.length) (h32:ns.length<=32):Ev (fun k=>dragnetref04_Block.f k (up ns)) (blockOf ns):=by
 unfold dragnetref04_Block.f
 exact Ev.bind (by_ev hn h1 h32 (w:=0) (by omega)) (block_l0 hn h1 h32 64 0 (by omega))
theorem in_tailOf (w:Nat):∀ (ds:List Nat) (i:Nat),Lt64 ds->i+ds.length<=255->B8 (tailOf w i ds)
 |[],i,_,_=>In.nil _
 |d :: ds,i,h,hi=>by
  rw[List.length_cons]at hi
  rw[tailOf]
  refine In.append ?_ (in_tailOf w ds (i+1) (fun x hx=>h x (List.mem_cons_of_mem _ hx)) (by omega))
  split
  .exact In.mk_cons (by omega) (in_numEnc (div_lt64 (h d List.mem_cons_self) w))
  .exact In.nil _
theorem in_byOf {base:Nat} (hb:base < 2 ^ 64) {ds:List Nat} (hd:Lt64 ds) (h32:ds.length<=32) {w:Nat} (hw:w<=64):B8 (byOf base ds w):=by
 have hk:=cntOf_le w ds
 exact In.mk_cons (by omega) (In.append (in_numEnc hb) (In.mk_cons (by omega) (In.mk_cons (by omega) (In.append (in_packOf _ _) (in_tailOf w ds 0 hd (by omega))))))
theorem in_blockOf {ns:List Nat} (hn:Lt64 ns) (h32:ns.length<=32):B8 (blockOf ns):=in_byOf (baseOf_lt hn) (lt_lessOf hn) (by simpa using h32) (widthB_le ns)
def takeN (b:List Int):Option (Nat×Nat):=if(takeOf b).2.2=0 then some ((takeOf b).1.toNat,(takeOf b).2.1.toNat)else none
theorem takeN_cases (b:List Int) (hb:B8 b):(∃ e:Int,e≠0∧takeOf b=(0,0,e)∧takeN b=none)∨
  ∃ v k:Nat,takeOf b=((v:Int),(k:Int),0)∧takeN b=some (v,k)∧v < 2 ^ 64∧1<=k∧k<=9∧k<=b.length∧numEnc v=b.take k:=by
 rcases takeOf_spec b hb with h|h|⟨v,k,h,h1,h2,h3,h4,h5⟩
 .exact .inl ⟨3,by decide,h,by unfold takeN;rw[h];rfl⟩
 .exact .inl ⟨2,by decide,h,by unfold takeN;rw[h];rfl⟩
 .exact .inr ⟨v,k,h,by unfold takeN;rw[h];simp,h1,h2,h3,h4,h5⟩
theorem wu_mod (n:Nat):IntKind.u64.wrap (n:Int)=((n % 2 ^ 64:Nat):Int):=by
 rw[IntKind.wrap_u64]
 omega
theorem rd_getD (b:List Int) (i:Nat):rd b (i:Int)=b.getD i 0:=by unfold rd;rw[Int.toNat_natCast]
theorem getD_byte {b:List Int} (hb:B8 b) (i:Nat):0<=b.getD i 0∧b.getD i 0<=255:=by
 rw[List.getD_eq_getElem?_getD]
 rcases Nat.lt_or_ge i b.length with h|h
 .rw[List.getElem?_eq_getElem h];exact hb.get i h
 .rw[List.getElem?_eq_none h];simp
def highsN (n w:Nat) (b:List Int):Nat->Nat->List Nat->Option (List Nat×Nat)
 |0,at_,l=>some (l,at_)
 |c+1,at_,l=>
  if b.length<=at_ then none else if(n:Int)<=b.getD at_ 0 then none else if w=64 then none else
  match takeN (b.drop (at_+1))with
  |none=>none
  |some (h,k)=>highsN n w b c (at_+1+k) (l.set (b.getD at_ 0).toNat ((l.getD (b.getD at_ 0).toNat 0+h*2 ^ w) % 2 ^ 64))
def unN (V w n:Nat):List Nat:=(List.range n).map fun i=>V / 2 ^ (i*w) % 2 ^ w
theorem unOf_unN (V w n:Nat):unOf V w n=up (unN V w n):=by simp[unOf,unN,up]
theorem length_unN (V w n:Nat):(unN V w n).length=n:=by simp[unN]
def addN (base:Nat) (l:List Nat):List Nat:=l.map fun x=>(x+base) % 2 ^ 64
def bodyN (b:List Int) (n base at_ w c:Nat):Option (List Nat×Nat):=
 if b.length < at_+2+(n*w+7) / 8 then none else
 if 2 ^ (n*w)<=val ((b.take (at_+2+(n*w+7) / 8)).drop (at_+2))then none else
 match highsN n w b c (at_+2+(n*w+7) / 8) (unN (val ((b.take (at_+2+(n*w+7) / 8)).drop (at_+2))) w n)with
 |none=>none
 |some (l,z)=>some (addN base l,z)
def readN (s:Bool):List Int->Option (List Nat×Nat)
 |[]=>none
 |n0 :: rest=>
  if n0 < 1 then none else if 32 < n0 then none else
  match takeN rest with
  |none=>none
  |some (base,k)=>
   if(n0 :: rest).length < 1+k+2 then none else
   if 64 < (n0 :: rest).getD (1+k) 0 then none else
   if(if s then n0 else 32) < (n0 :: rest).getD (1+k+1) 0 then none else
   bodyN (n0 :: rest) n0.toNat base (1+k) ((n0 :: rest).getD (1+k) 0).toNat ((n0 :: rest).getD (1+k+1) 0).toNat
def resR:Option (List Nat×Nat)->List Int×Int×Bool
 |none=>([],0,false)
 |some (l,z)=>(up l,(z:Int),true)
theorem up_set (l:List Nat) (i x:Nat):(up l).set i (x:Int)=up (l.set i x):=by simp[up,List.map_set]
theorem mapset (f:Nat->Nat) (ls:List Nat) (i:Nat) (h:i < ls.length):(up ((ls.take i).map f++ls.drop i)).set i (f ls[i]:Int)=up ((ls.take (i+1)).map f++ls.drop (i+1)):=by
 rw[up_set,List.set_append_right _ _ (by simp;omega),List.take_succ_eq_append_getElem h,List.map_append,List.append_assoc,List.length_map,List.length_take,Nat.min_eq_left (by omega),Nat.sub_self,List.drop_eq_getElem_cons h,List.set_cons_zero]
 rfl
theorem mapget (f:Nat->Nat) (ls:List Nat) (i:Nat) (h:i < ls.length):rd (up ((ls.take i).map f++ls.drop i)) (i:Int)=(ls[i]:Int):=by
 rw[rd_up _ i (by simp;omega)]
 rw[List.getElem_append_right (by simp;exact Nat.min_le_left _ _)]
 simp[Nat.min_eq_left (Nat.le_of_lt h)]
theorem length_mapped (f:Nat->Nat) (ls:List Nat) (i:Nat) (h:i<=ls.length):((ls.take i).map f++ls.drop i).length=ls.length:=by simp;omega
theorem read_l1 (base z:Nat) (hbase:base < 2 ^ 64) (ls:List Nat) (hl:Lt64 ls) (hn:ls.length<=4096):∀ (m i:Nat),i+m=ls.length->
  Ev (fun k=>pfor_read.l1 k (base:Int) (z:Int) (up ((ls.take i).map (fun x=>(x+base) % 2 ^ 64)++ls.drop i)) (ls.length:Int) (i:Int)) (up (addN base ls),(z:Int),true)
 |0,i,hi=>by
  obtain rfl:i=ls.length:=by omega
  apply Ev.succ
  simp only[pfor_read.l1]
  rw[List.take_length,List.drop_length,List.append_nil]
  exact Ev.if_f (by omega) (Ev.now _)
 |m+1,i,hi=>by
  have hil:i < ls.length:=by omega
  have hx:=hl.get i hil
  apply Ev.succ
  simp only[pfor_read.l1]
  rw[mapget _ ls i hil,inc i (by omega),up_length,length_mapped _ ls i (by omega),Int.toNat_natCast,<- Int.natCast_add,wu_mod,mapset _ ls i hil]
  exact Ev.if_t (by omega) (Ev.if_t (by omega) (Ev.if_t (by omega) (read_l1 base z hbase ls hl hn m (i+1) (by omega))))
theorem shl_add {x h w:Nat} (hw:w<=64):IntKind.u64.wrap ((x:Int)+shl .u64 (h:Int) (w:Int))=(((x+h*2 ^ w) % 2 ^ 64:Nat):Int):=by
 rw[shl_u64 _ _ hw,show((h:Int)*2 ^ w)=((h*2 ^ w:Nat):Int) by simp,wu_mod,<- Int.natCast_add,wu_mod]
 generalize h*2 ^ w=y
 congr 1
 omega
theorem lt64_set {l:List Nat} (h:Lt64 l) (i y:Nat):Lt64 (l.set i (y % 2 ^ 64)):=fun x hx=>by
 rcases List.mem_or_eq_of_mem_set hx with h1|h1
 .exact h x h1
 .subst h1;exact Nat.mod_lt _ (by decide)
theorem up_getD (l:List Nat) (i:Nat):rd (up l) (i:Int)=((l.getD i 0:Nat):Int):=by
 rw[rd_getD,List.getD_eq_getElem?_getD,List.getD_eq_getElem?_getD,up,List.getElem?_map]
 cases l[i]? <;>simp
def resH (base:Nat):Option (List Nat×Nat)->List Int×Int×Bool
 |none=>([],0,false)
 |some (l,z)=>(up (addN base l),(z:Int),true)
theorem read_highs (b:List Int) (hb:B8 b) (hbl:b.length<=140737488355328) {n w base:Nat} (hn:n<=32) (hw:w<=64) (hbase:base < 2 ^ 64):∀ (c at_:Nat) (l:List Nat),c<=255->l.length=n->Lt64 l->at_<=b.length->
  Ev (fun k=>pfor_read.l0 k b (n:Int) (base:Int) (at_:Int) (w:Int) (c:Int) (up l)) (resH base (highsN n w b c at_ l))
 |0,at_,l,hc,hl,hlt,hat=>by
  apply Ev.succ
  simp only[pfor_read.l0]
  refine Ev.if_f (by decide) ?_
  have:=read_l1 base at_ hbase l hlt (by omega) l.length 0 (by omega)
  simp only[up_length]
  simpa[highsN,resH]using this
 |c+1,at_,l,hc,hl,hlt,hat=>by
  have hbad:Ev (fun k=>pfor_read.j3 k b (n:Int) (base:Int) (at_:Int) (w:Int) ((c+1:Nat):Int) (up l) true) ([],0,false):=by
   apply Ev.succ
   simp only[pfor_read.j3]
   exact Ev.if_t (by simp) (Ev.now _)
  apply Ev.succ
  simp only[pfor_read.l0]
  rw[highsN]
  refine Ev.if_t (by omega) ?_
  by_cases h1:b.length<=at_
  .rw[if_pos h1]
   exact Ev.if_t (by omega) hbad
  .rw[if_neg h1]
   have hx:=getD_byte hb at_
   rw[rd_getD]
   generalize hxx:b.getD at_ 0=x at*
   rw[w64 (by omega) (by omega)]
   refine Ev.if_f (by omega) (Ev.if_t (by omega) (Ev.if_t (by omega) ?_))
   by_cases h2:(n:Int)<=x
   .rw[if_pos h2]
    exact Ev.if_t (by omega) hbad
   .rw[if_neg h2]
    refine Ev.if_f (by omega) ?_
    by_cases h3:w=64
    .rw[if_pos h3,show((w:Int)==64)=true by simp;omega]
     exact hbad
    .rw[if_neg h3,show((w:Int)==64)=false by simp;omega]
     apply Ev.succ
     simp only[pfor_read.j3]
     rw[rd_getD,hxx,w64 (x:=x) (by omega) (by omega),inc at_ (by omega),Int.toNat_natCast]
     refine Ev.if_f (by decide) (Ev.if_t (by omega) (Ev.if_t (by omega) (Ev.if_t (by omega) (Ev.if_t (by omega) (Ev.bind (take_ev _ (hb.drop _) (by rw[List.length_drop];omega)) ?_)))))
     rcases takeN_cases (b.drop (at_+1)) (hb.drop _)with ⟨e,he,h4,h5⟩|⟨v,k,h4,h5,hv,hk1,hk9,hkl,_⟩
     .rw[h4,h5]
      exact Ev.if_f he (Ev.now _)
     .rw[h4,h5]
      obtain⟨i,rfl⟩:=Int.eq_ofNat_of_zero_le hx.1
      rw[List.length_drop]at hkl
      refine Ev.if_t rfl (Ev.if_t (by omega) (Ev.if_t (by simp;omega) (Ev.if_t (by omega) ?_)))
      simp only[Int.toNat_natCast]
      rw[show(1:Int)=((1:Nat):Int) from rfl,add64 1 k (by omega),add64 at_ _ (by omega),sub64 (c+1) 1 (by omega) (by omega),up_getD,shl_add hw,up_set]
      have ih:=read_highs b hb hbl hn hw hbase c (at_+(1+k)) (l.set i ((l.getD i 0+v*2 ^ w) % 2 ^ 64)) (by omega) (by simpa using hl) (lt64_set hlt _ _) (by omega)
      rw[<- Nat.add_assoc]at ih ⊢
      exact ih
theorem unpack_seg (seg:List Int) (n w:Nat) (hn:n<=4096) (hw:w<=64) (hl:seg.length=(n*w+7) / 8):unpackOf seg (n:Int) (w:Int)=if 2 ^ (n*w)<=val seg then([],2)else(up (unN (val seg) w n),0):=by
 unfold unpackOf
 simp only[Int.toNat_natCast]
 rw[if_neg (by omega),if_neg (by omega),if_neg (by omega),unOf_unN]
theorem lt_unN (V w n:Nat) (hw:w<=64):Lt64 (unN V w n):=fun x hx=>by
 obtain⟨i,_,rfl⟩:=List.mem_map.1 hx
 exact Nat.lt_of_lt_of_le (Nat.mod_lt _ (two_pow_pos' _)) (Nat.pow_le_pow_right (by decide) hw)
theorem length_seg (b:List Int) (a s:Nat) (h:a+s<=b.length):((b.take (a+s)).drop a).length=s:=by simp;omega
theorem read_j1 (b:List Int) (hb:B8 b) (hbl:b.length<=140737488355328) {n w base at_ c:Nat} (hn:n<=32) (hw:w<=64) (hbase:base < 2 ^ 64) (hat:at_+2<=b.length) (ew:b.getD at_ 0=(w:Int)) (ec:b.getD (at_+1) 0=(c:Int)) (hc:c<=255):
  Ev (fun k=>pfor_read.j1 k b (n:Int) (base:Int) (at_:Int) false) (resR (bodyN b n base at_ w c)):=by
 have hnw:n*w<=32*64:=Nat.mul_le_mul hn hw
 apply Ev.succ
 simp only[pfor_read.j1]
 rw[inc at_ (by omega),show(2:Int)=((2:Nat):Int) from rfl,add64 at_ 2 (by omega),rd_getD,rd_getD,ew,ec,w64 (x:=(w:Int)) (by omega) (by omega),w64 (x:=(c:Int)) (by omega) (by omega),wrap_size n w hw (by omega),add64 (at_+2) _ (by omega)]
 refine Ev.if_f (by decide) (Ev.if_t (by omega) (Ev.if_t (by omega) (Ev.if_t (by omega) (Ev.if_t (by omega) ?_))))
 unfold bodyN
 by_cases h1:b.length < at_+2+(n*w+7) / 8
 .rw[if_pos h1]
  exact Ev.if_t (by omega) (Ev.now _)
 .rw[if_neg h1,Int.toNat_natCast,Int.toNat_natCast]
  refine Ev.if_f (by omega) (Ev.if_t (by omega) (Ev.if_t (by omega) (Ev.if_t (by omega) ?_)))
  have hsl:=length_seg b (at_+2) ((n*w+7) / 8) (by omega)
  have hu:=unpack_ev ((b.take (at_+2+(n*w+7) / 8)).drop (at_+2)) ((hb.take _).drop _) (by omega) (n:Int) (w:Int)
  rw[unpack_seg _ n w (by omega) hw hsl]at hu
  generalize val ((b.take (at_+2+(n*w+7) / 8)).drop (at_+2))=V at*
  refine Ev.bind hu ?_
  by_cases h2:2 ^ (n*w)<=V
  .rw[if_pos h2,if_pos h2]
   exact Ev.if_f (by show ¬ (2:Int)=0;decide) (Ev.now _)
  .rw[if_neg h2,if_neg h2]
   refine Ev.if_t rfl ?_
   have:=read_highs b hb hbl hn hw hbase c (at_+2+(n*w+7) / 8) (unN V w n) hc (length_unN _ _ _) (lt_unN _ _ _ hw) (by omega)
   cases hh:highsN n w b c (at_+2+(n*w+7) / 8) (unN V w n)with
   |none=>rw[hh]at this;exact this
   |some p=>rw[hh]at this;exact this
theorem read_ev (b:List Int) (hb:B8 b) (hbl:b.length<=140737488355328):Ev (fun k=>pfor_read.f k b) (resR (readN true b)):=by
 have hj0:Ev (fun k=>pfor_read.j0 k b true) (resR none):=by
  apply Ev.succ
  simp only[pfor_read.j0]
  exact Ev.if_t (by simp) (Ev.now _)
 have hj1:∀ n base at_:Int,Ev (fun k=>pfor_read.j1 k b n base at_ true) (resR none):=by
  intro n base at_
  apply Ev.succ
  simp only[pfor_read.j1]
  exact Ev.if_t (by simp) (Ev.now _)
 unfold pfor_read.f
 cases b with
 |nil=>exact Ev.if_t (by simp) hj0
 |cons n0 rest=>
  obtain⟨hx,hr⟩:=hb.cons
  have e0:rd (n0 :: rest) 0=n0:=rfl
  have hlen:(n0 :: rest).length=rest.length+1:=rfl
  rw[readN,e0]
  refine Ev.if_f (by omega) (Ev.if_t (by omega) ?_)
  by_cases h1:n0 < 1
  .rw[if_pos h1];exact Ev.if_t h1 hj0
  rw[if_neg h1]
  refine Ev.if_f h1 ?_
  by_cases h2:32 < n0
  .rw[if_pos h2,decide_eq_true (by omega)];exact hj0
  rw[if_neg h2,decide_eq_false (by omega)]
  apply Ev.succ
  simp only[pfor_read.j0]
  rw[e0,List.drop_one,List.tail_cons,w64 (x:=n0) (by omega) (by omega)]
  refine Ev.if_f (by decide) (Ev.if_t (by omega) (Ev.if_t (by omega) (Ev.bind (take_ev rest hr (by omega)) ?_)))
  rcases takeN_cases rest hr with ⟨e,he,h4,h5⟩|⟨v,k,h4,h5,hv,hk1,hk9,hkl,_⟩
  .rw[h4,h5]
   exact Ev.if_f he (hj1 _ _ _)
  .rw[h4,h5]
   refine Ev.if_t rfl ?_
   simp only[]
   rw[show(1:Int)=((1:Nat):Int) from rfl,add64 1 k (by omega),show(2:Int)=((2:Nat):Int) from rfl,add64 (1+k) 2 (by omega),add64 (1+k) 1 (by omega),rd_getD,rd_getD]
   have hw:=getD_byte hb (1+k)
   have hc:=getD_byte hb (1+k+1)
   by_cases h6:(n0 :: rest).length < 1+k+2
   .rw[if_pos h6];exact Ev.if_t (by omega) (hj1 _ _ _)
   rw[if_neg h6]
   refine Ev.if_f (by omega) (Ev.if_t (by omega) (Ev.if_t (by omega) ?_))
   obtain⟨w,ew⟩:=Int.eq_ofNat_of_zero_le hw.1
   obtain⟨c,ec⟩:=Int.eq_ofNat_of_zero_le hc.1
   rw[ew]at hw
   rw[ec]at hc
   rw[ew,ec]
   by_cases h7:64 < (w:Int)
   .rw[if_pos h7];exact Ev.if_t (by omega) (hj1 _ _ _)
   rw[if_neg h7]
   refine Ev.if_f (by omega) (Ev.if_t (by omega) (Ev.if_t (by omega) ?_))
   rw[w64 (x:=(c:Int)) (by omega) (by omega)]
   simp only[if_true]
   by_cases h8:n0 < (c:Int)
   .rw[if_pos h8,decide_eq_true (by omega)];exact hj1 _ _ _
   .rw[if_neg h8,decide_eq_false (by omega)]
    obtain⟨n,rfl⟩:=Int.eq_ofNat_of_zero_le hx.1
    simp only[Int.toNat_natCast]
    exact read_j1 _ hb hbl (by omega) (by omega) hv (by omega) ew ec (by omega)
def takeB (s:Bool) (b:List Int):List Int×Int×Int:=
 match readN s b with
 |none=>([],0,2)
 |some (l,z)=>if blockOf l=b.take z then(up l,(z:Int),0)else([],0,2)
theorem highsN_some (n w:Nat) (b:List Int) (hb:B8 b):∀ (c at_:Nat) (l l2:List Nat) (z:Nat),at_<=b.length->l.length=n->highsN n w b c at_ l=some (l2,z)->l2.length=n∧z<=b.length
 |0,at_,l,l2,z,ha,hl,h=>by
  simp only[highsN,Option.some.injEq,Prod.mk.injEq]at h
  obtain⟨rfl,rfl⟩:=h
  exact⟨hl,ha⟩
 |c+1,at_,l,l2,z,ha,hl,h=>by
  rw[highsN]at h
  by_cases h1:b.length<=at_
  .rw[if_pos h1]at h;cases h
  rw[if_neg h1]at h
  by_cases h2:(n:Int)<=b.getD at_ 0
  .rw[if_pos h2]at h;cases h
  rw[if_neg h2]at h
  by_cases h3:w=64
  .rw[if_pos h3]at h;cases h
  rw[if_neg h3]at h
  rcases takeN_cases (b.drop (at_+1)) (hb.drop _)with ⟨e,he,h4,h5⟩|⟨v,k,h4,h5,hv,hk1,hk9,hkl,_⟩
  .rw[h5]at h;cases h
  .rw[h5]at h
   rw[List.length_drop]at hkl
   exact highsN_some n w b hb c _ _ l2 z (by omega) (by simpa using hl) h
theorem lt_addN (base:Nat) (l:List Nat):Lt64 (addN base l):=fun x hx=>by
 obtain⟨y,_,rfl⟩:=List.mem_map.1 hx
 exact Nat.mod_lt _ (by decide)
theorem bodyN_some {b:List Int} (hb:B8 b) {n base at_ w c:Nat} {l:List Nat} {z:Nat} (h:bodyN b n base at_ w c=some (l,z)):l.length=n∧z<=b.length∧Lt64 l:=by
 unfold bodyN at h
 by_cases h1:b.length < at_+2+(n*w+7) / 8
 .rw[if_pos h1]at h;cases h
 rw[if_neg h1]at h
 by_cases h2:2 ^ (n*w)<=val ((b.take (at_+2+(n*w+7) / 8)).drop (at_+2))
 .rw[if_pos h2]at h;cases h
 rw[if_neg h2]at h
 cases hh:highsN n w b c (at_+2+(n*w+7) / 8) (unN (val ((b.take (at_+2+(n*w+7) / 8)).drop (at_+2))) w n)with
 |none=>rw[hh]at h;cases h
 |some p=>
  obtain⟨l2,z2⟩:=p
  rw[hh]at h
  simp only[Option.some.injEq,Prod.mk.injEq]at h
  obtain⟨rfl,rfl⟩:=h
  have:=highsN_some n w b hb c _ _ l2 z2 (by omega) (length_unN _ _ _) hh
  exact⟨by simp[addN,this.1],this.2,lt_addN _ _⟩
theorem readN_some {s:Bool} {b:List Int} (hb:B8 b) {l:List Nat} {z:Nat} (h:readN s b=some (l,z)):1<=l.length∧l.length<=32∧z<=b.length∧Lt64 l:=by
 cases b with
 |nil=>cases h
 |cons n0 rest=>
  rw[readN]at h
  by_cases h1:n0 < 1
  .rw[if_pos h1]at h;cases h
  rw[if_neg h1]at h
  by_cases h2:32 < n0
  .rw[if_pos h2]at h;cases h
  rw[if_neg h2]at h
  cases ht:takeN rest with
  |none=>rw[ht]at h;cases h
  |some p=>
   obtain⟨base,k⟩:=p
   rw[ht]at h
   simp only[]at h
   by_cases h3:(n0 :: rest).length < 1+k+2
   .rw[if_pos h3]at h;cases h
   rw[if_neg h3]at h
   by_cases h4:64 < (n0 :: rest).getD (1+k) 0
   .rw[if_pos h4]at h;cases h
   rw[if_neg h4]at h
   by_cases h5:(if s=true then n0 else 32) < (n0 :: rest).getD (1+k+1) 0
   .rw[if_pos h5]at h;cases h
   rw[if_neg h5]at h
   have:=bodyN_some hb h
   exact⟨by omega,by omega,this.2.1,this.2.2⟩
theorem equal8 {a b:List Int} (ha:B8 a) (hb:B8 b):bytes_Equal.f a b=some (decide (a=b)):=same8 ha hb
theorem takeBlock_ev (b:List Int) (hb:B8 b) (hbl:b.length<=140737488355328):Ev (fun k=>pfor_TakeBlock.f k b) (takeB true b):=by
 unfold pfor_TakeBlock.f takeB
 refine Ev.bind (read_ev b hb hbl) ?_
 cases hr:readN true b with
 |none=>exact Ev.if_f (by simp[resR]) (Ev.now _)
 |some p=>
  obtain⟨l,z⟩:=p
  obtain⟨h1,h2,h3,h4⟩:=readN_some hb hr
  simp only[resR]
  refine Ev.if_t (by simp) (Ev.bind (putBlock_ok [] (by simp) h4 h1 h2) ?_)
  rw[Int.toNat_natCast]
  simp only[List.nil_append]
  refine Ev.if_t (by simp) (Ev.if_t (by omega) (Ev.if_t (by omega) (Ev.obind (equal8 (in_blockOf h4 h2) (hb.take z)) ?_)))
  by_cases h:blockOf l=b.take z
  .rw[if_pos h];exact Ev.if_t (decide_eq_true h) (Ev.now _)
  .rw[if_neg h];exact Ev.if_f (by simpa using h) (Ev.now _)
theorem number_bad (k:Nat) (b:List Int) (z most:Int):dragnetref02_Reader_Number.f k b z true most=some (0,z,true):=by
 unfold dragnetref02_Reader_Number.f
 rw[if_pos rfl]
theorem count_bad (k:Nat) (b:List Int) (z most:Int):dragnetref02_Reader_Count.f k b z true most=some (0,z,true):=by
 unfold dragnetref02_Reader_Count.f
 rw[number_bad]
 show some (wrap64 0,z,true)=some (0,z,true)
 rw[w64 (by decide) (by decide)]
theorem number_ev (b:List Int) (hb:B8 b) (hbl:b.length<=140737488355328) (z:Nat) (hz:z<=b.length) (most:Nat):
  (takeN (b.drop z)=none∧Ev (fun k=>dragnetref02_Reader_Number.f k b (z:Int) false (most:Int)) (0,(z:Int),true))∨
  ∃ v k:Nat,takeN (b.drop z)=some (v,k)∧v < 2 ^ 64∧1<=k∧z+k<=b.length∧numEnc v=(b.drop z).take k∧
   Ev (fun k=>dragnetref02_Reader_Number.f k b (z:Int) false (most:Int)) (if most < v then(0,((z+k:Nat):Int),true)else((v:Int),((z+k:Nat):Int),false)):=by
 rcases takeN_cases (b.drop z) (hb.drop _)with ⟨e,he,h4,h5⟩|⟨v,k,h4,h5,hv,hk1,hk9,hkl,hn⟩
 .refine .inl ⟨h5,?_⟩
  unfold dragnetref02_Reader_Number.f
  rw[Int.toNat_natCast]
  refine Ev.if_f (by decide) (Ev.if_t (by omega) (Ev.if_t (by omega) (Ev.bind (ref_take_ev _ (hb.drop _) (by rw[List.length_drop];omega)) ?_)))
  rw[h4]
  refine Ev.if_f he ?_
  simp only[Int.add_zero]
  rw[w64 (by omega) (by omega)]
  exact Ev.now _
 .rw[List.length_drop]at hkl
  refine .inr ⟨v,k,h5,hv,hk1,by omega,hn,?_⟩
  unfold dragnetref02_Reader_Number.f
  rw[Int.toNat_natCast]
  refine Ev.if_f (by decide) (Ev.if_t (by omega) (Ev.if_t (by omega) (Ev.bind (ref_take_ev _ (hb.drop _) (by rw[List.length_drop];omega)) ?_)))
  rw[h4]
  refine Ev.if_t rfl ?_
  simp only[]
  rw[add64 z k (by omega)]
  by_cases h:most < v
  .rw[if_pos h,decide_eq_true (by omega)]
   exact Ev.if_t (by omega) (Ev.now _)
  .rw[if_neg h,decide_eq_false (by omega)]
   exact Ev.if_f (by omega) (Ev.now _)
theorem number_max (b:List Int) (hb:B8 b) (hbl:b.length<=140737488355328) (z:Nat) (hz:z<=b.length):
  (takeN (b.drop z)=none∧Ev (fun k=>dragnetref02_Reader_Number.f k b (z:Int) false 18446744073709551615) (0,(z:Int),true))∨
  ∃ v k:Nat,takeN (b.drop z)=some (v,k)∧v < 2 ^ 64∧1<=k∧z+k<=b.length∧
   Ev (fun k=>dragnetref02_Reader_Number.f k b (z:Int) false 18446744073709551615) ((v:Int),((z+k:Nat):Int),false):=by
 rcases number_ev b hb hbl z hz 18446744073709551615 with h|⟨v,k,h1,h2,h3,h4,_,h5⟩
 .exact .inl h
 .rw[if_neg (by omega)]at h5
  exact .inr ⟨v,k,h1,h2,h3,h4,h5⟩
theorem count_ev (b:List Int) (hb:B8 b) (hbl:b.length<=140737488355328) (z:Nat) (hz:z<=b.length) (most:Nat) (hm:most<=247):
  (¬ (z < b.length∧b.getD z 0<=(most:Int))∧∃ y:Int,Ev (fun k=>dragnetref02_Reader_Count.f k b (z:Int) false (most:Int)) (0,y,true))∨
  (z < b.length∧b.getD z 0<=(most:Int)∧Ev (fun k=>dragnetref02_Reader_Count.f k b (z:Int) false (most:Int)) (b.getD z 0,((z+1:Nat):Int),false)):=by
 have hw:∀ v:Int,0<=v->v<=247->wrap64 v=v:=fun v h0 h1=>w64 (by omega) (by omega)
 unfold dragnetref02_Reader_Count.f
 rw[wu64 (x:=(most:Int)) (by omega) (by omega)]
 rcases number_ev b hb hbl z hz most with ⟨h1,h2⟩|⟨v,k,h1,h2,h3,h4,h6,h5⟩
 .refine .inl ⟨fun ⟨ha,hc⟩=>?_,_,Ev.bind h2 (Ev.of_eq fun _=>by rw[hw _ (by simp) (by simp)])⟩
  rw[List.drop_eq_getElem_cons ha]at h1
  rw[List.getD_eq_getElem?_getD,List.getElem?_eq_getElem ha]at hc
  unfold takeN at h1
  rw[takeOf_small (by simpa using(by have:b[z]<=(most:Int):=hc;omega:b[z]<=247))]at h1
  simp at h1
 .have ha:z < b.length:=by omega
  have hx:=hb.get z ha
  have eg:b.getD z 0=b[z]:=by rw[List.getD_eq_getElem?_getD,List.getElem?_eq_getElem ha];rfl
  rw[eg]
  by_cases h7:b[z]<=247
  .rw[List.drop_eq_getElem_cons ha]at h1
   unfold takeN at h1
   rw[takeOf_small h7]at h1
   simp only[if_true,Option.some.injEq,Prod.mk.injEq]at h1
   obtain⟨rfl,rfl⟩:=h1
   by_cases h8:b[z]<=(most:Int)
   .rw[if_neg (by omega)]at h5
    refine .inr ⟨ha,h8,Ev.bind h5 ?_⟩
    simp only[]
    rw[Int.toNat_of_nonneg hx.1,hw _ hx.1 (by omega)]
    exact Ev.now _
   .rw[if_pos (by omega)]at h5
    exact .inl ⟨fun h=>h8 h.2,_,Ev.bind h5 (Ev.of_eq fun _=>by rw[hw _ (by simp) (by simp)])⟩
  .have hv:most < v:=by
    rcases Nat.lt_or_ge 247 v with h|h
    .omega
    .exfalso
     unfold numEnc at h6
     rw[if_pos h,List.drop_eq_getElem_cons ha]at h6
     cases k with
     |zero=>omega
     |succ k=>
      rw[List.take_succ_cons]at h6
      have:=(List.cons.inj h6).1
      omega
   rw[if_pos hv]at h5
   exact .inl ⟨fun h=>by omega,_,Ev.bind h5 (Ev.of_eq fun _=>by rw[hw _ (by simp) (by simp)])⟩
def resT (b:List Int) (base:Nat):Option (List Nat×Nat)->List Int×Int×Int
 |none=>([],0,2)
 |some (l,z)=>if blockOf (addN base l)=b.take z then(up (addN base l),(z:Int),0)else([],0,2)
theorem ref_l1 (b:List Int) (hb:B8 b) (hbl:b.length<=140737488355328) (base z:Nat) (hz:z<=b.length) (hbase:base < 2 ^ 64) (ls:List Nat) (hl:Lt64 ls) (h1:1<=ls.length) (h32:ls.length<=32):∀ (m i:Nat),i+m=ls.length->
  Ev (fun k=>dragnetref04_TakeBlock.l1 k b (ls.length:Int) (base:Int) (up ((ls.take i).map (fun x=>(x+base) % 2 ^ 64)++ls.drop i)) (i:Int) b (z:Int) false) (resT b base (some (ls,z)))
 |0,i,hi=>by
  obtain rfl:i=ls.length:=by omega
  apply Ev.succ
  simp only[dragnetref04_TakeBlock.l1]
  rw[List.take_length,List.drop_length,List.append_nil,Int.toNat_natCast]
  have hlen:(addN base ls).length=ls.length:=by simp[addN]
  rw[show List.map (fun x=>(x+base) % 2 ^ 64) ls=addN base ls from rfl]
  refine Ev.if_f (by omega) (Ev.bind (block_ev (lt_addN base ls) (by omega) (by omega)) (Ev.if_t (by omega) (Ev.if_t (by omega) (Ev.obind (same8 (in_blockOf (lt_addN base ls) (by omega)) (hb.take z)) ?_))))
  unfold resT
  by_cases h:blockOf (addN base ls)=b.take z
  .simp only[h,if_true]
   exact Ev.if_t (by simp) (Ev.now _)
  .simp only[h,if_false]
   exact Ev.if_f (by simpa using h) (Ev.now _)
 |m+1,i,hi=>by
  have hil:i < ls.length:=by omega
  apply Ev.succ
  simp only[dragnetref04_TakeBlock.l1]
  rw[mapget _ ls i hil,inc i (by omega),up_length,length_mapped _ ls i (by omega),Int.toNat_natCast,<- Int.natCast_add,wu_mod,mapset _ ls i hil]
  exact Ev.if_t (by omega) (Ev.if_t (by omega) (Ev.if_t (by omega) (ref_l1 b hb hbl base z hz hbase ls hl h1 h32 m (i+1) (by omega))))
theorem ref_highs (b:List Int) (hb:B8 b) (hbl:b.length<=140737488355328) {n w base:Nat} (h1:1<=n) (hn:n<=32) (hw:w<=64) (hbase:base < 2 ^ 64):∀ (c at_:Nat) (l:List Nat),c<=255->l.length=n->Lt64 l->at_<=b.length->
  Ev (fun k=>dragnetref04_TakeBlock.l0 k b (n:Int) (base:Int) (w:Int) (c:Int) (up l) b (at_:Int) false) (resT b base (highsN n w b c at_ l))
 |0,at_,l,hc,hl,hlt,hat=>by
  apply Ev.succ
  simp only[dragnetref04_TakeBlock.l0]
  refine Ev.if_f (by decide) ?_
  have:=ref_l1 b hb hbl base at_ hat hbase l hlt (by omega) (by omega) l.length 0 (by omega)
  rw[hl]at this
  simpa[highsN]using this
 |c+1,at_,l,hc,hl,hlt,hat=>by
  have hx:=getD_byte hb at_
  apply Ev.succ
  simp only[dragnetref04_TakeBlock.l0]
  refine Ev.if_t (by omega) ?_
  rcases count_ev b hb hbl at_ hat 31 (by decide)with ⟨h2,y,h3⟩|⟨h2,h3,h4⟩
  .have e:highsN n w b (c+1) at_ l=none:=by
    rw[highsN]
    by_cases h5:b.length<=at_
    .rw[if_pos h5]
    .rw[if_neg h5,if_pos]
     rcases Int.lt_or_le (b.getD at_ 0) (n:Int)with h|h
     .exact absurd ⟨by omega,by omega⟩ h2
     .exact h
   rw[e]
   exact Ev.bind h3 (Ev.bind (Ev.of_eq fun k=>number_bad k b y _) (Ev.if_t (by simp) (Ev.now _)))
  .rw[highsN,if_neg (by omega)]
   generalize hxx:b.getD at_ 0=x at*
   refine Ev.bind h4 ?_
   rcases number_max b hb hbl (at_+1) (by omega)with ⟨h5,h6⟩|⟨v,k,h5,hv,hk,hkl,h6⟩
   .rw[h5]
    have e:(if(n:Int)<=x then none else if w=64 then none else(none:Option (List Nat×Nat)))=none:=by split<;>(try split)<;>rfl
    simp only[e]
    exact Ev.bind h6 (Ev.if_t (by simp) (Ev.now _))
   .rw[h5]
    refine Ev.bind h6 (Ev.if_f (by simp) ?_)
    simp only[]
    by_cases h7:(n:Int)<=x
    .rw[if_pos h7];exact Ev.if_t (by omega) (Ev.now _)
    rw[if_neg h7]
    refine Ev.if_f (by omega) ?_
    by_cases h8:w=64
    .rw[if_pos h8];exact Ev.if_t (by omega) (Ev.now _)
    rw[if_neg h8]
    obtain⟨i,rfl⟩:=Int.eq_ofNat_of_zero_le hx.1
    refine Ev.if_f (by omega) (Ev.if_t (by omega) (Ev.if_t (by simp;omega) (Ev.if_t (by omega) ?_)))
    simp only[Int.toNat_natCast]
    have e1:wrap64 (((c+1:Nat):Int) - 1)=(c:Int):=by rw[w64 (by omega) (by omega)];omega
    rw[e1,up_getD,shl_add hw,up_set]
    exact ref_highs b hb hbl h1 hn hw hbase c (at_+1+k) (l.set i ((l.getD i 0+v*2 ^ w) % 2 ^ 64)) (by omega) (by simpa using hl) (lt64_set hlt _ _) (by omega)
theorem ref_j0_bad (b:List Int) (n base w c z:Int) (y:Bool):Ev (fun k=>dragnetref04_TakeBlock.j0 k b n base w c true b z y) ([],0,2):=by
 apply Ev.succ
 simp only[dragnetref04_TakeBlock.j0]
 exact Ev.if_t (by simp) (Ev.now _)
theorem ref_j0 (b:List Int) (hb:B8 b) (hbl:b.length<=140737488355328) {n w base at_ c:Nat} (h1:1<=n) (hn:n<=32) (hw:w<=64) (hbase:base < 2 ^ 64) (hat:at_+2+(n*w+7) / 8<=b.length) (hc:c<=255):
  Ev (fun k=>dragnetref04_TakeBlock.j0 k b (n:Int) (base:Int) (w:Int) (c:Int) false b ((at_+2:Nat):Int) false) (match bodyN b n base at_ w c with|none=>([],0,2)|some (l,z)=>if blockOf l=b.take z then(up l,(z:Int),0)else([],0,2)):=by
 have hnw:n*w<=32*64:=Nat.mul_le_mul hn hw
 apply Ev.succ
 simp only[dragnetref04_TakeBlock.j0]
 refine Ev.if_f (by decide) (Ev.obind (ref_size n w (by omega)) ?_)
 rw[add64 (at_+2) _ (by omega),Int.toNat_natCast,Int.toNat_natCast]
 refine Ev.if_t (by omega) (Ev.if_t (by omega) (Ev.if_t (by omega) ?_))
 unfold bodyN
 rw[if_neg (by omega)]
 have hsl:=length_seg b (at_+2) ((n*w+7) / 8) (by omega)
 have hu:=ref_unpack ((b.take (at_+2+(n*w+7) / 8)).drop (at_+2)) ((hb.take _).drop _) (by omega) (n:Int) (w:Int) (by omega) (by omega)
 rw[unpack_seg _ n w (by omega) hw hsl]at hu
 generalize val ((b.take (at_+2+(n*w+7) / 8)).drop (at_+2))=V at*
 refine Ev.bind hu ?_
 by_cases h2:2 ^ (n*w)<=V
 .rw[if_pos h2,if_pos h2]
  exact Ev.if_f (by show ¬ (2:Int)=0;decide) (Ev.now _)
 .rw[if_neg h2,if_neg h2]
  refine Ev.if_t rfl ?_
  have:=ref_highs b hb hbl h1 hn hw hbase c (at_+2+(n*w+7) / 8) (unN V w n) hc (length_unN _ _ _) (lt_unN _ _ _ hw) (by omega)
  cases hh:highsN n w b c (at_+2+(n*w+7) / 8) (unN V w n)with
  |none=>rw[hh]at this;exact this
  |some p=>rw[hh]at this;exact this
theorem ref_takeBlock_ev (b:List Int) (hb:B8 b) (hbl:b.length<=140737488355328):Ev (fun k=>dragnetref04_TakeBlock.f k b) (takeB false b):=by
 unfold dragnetref04_TakeBlock.f
 have nb_:∀ (y most:Int),Ev (fun k=>dragnetref02_Reader_Number.f k b y true most) (0,y,true):=fun y most=>Ev.of_eq fun k=>number_bad k b y most
 have cb_:∀ (y most:Int),Ev (fun k=>dragnetref02_Reader_Count.f k b y true most) (0,y,true):=fun y most=>Ev.of_eq fun k=>count_bad k b y most
 rcases count_ev b hb hbl 0 (Nat.zero_le _) 32 (by decide)with ⟨h2,y,h3⟩|⟨h2,h3,h4⟩
 .have e:readN false b=none:=by
   cases b with
   |nil=>rfl
   |cons n0 rest=>
    rw[readN]
    by_cases h5:n0 < 1
    .rw[if_pos h5]
    .rw[if_neg h5,if_pos]
     rcases Int.lt_or_le 32 n0 with h|h
     .exact h
     .exact absurd ⟨by simp,by simpa using h⟩ h2
  unfold takeB
  rw[e]
  refine Ev.bind h3 (Ev.bind (nb_ _ _) (Ev.bind (cb_ _ _) (Ev.bind (cb_ _ _) (Ev.if_t (by simp) (ref_j0_bad _ _ _ _ _ _ _)))))
 .refine Ev.bind h4 ?_
  cases b with
  |nil=>simp at h2
  |cons n0 rest=>
   obtain⟨hx,hr⟩:=hb.cons
   simp only[List.getD_cons_zero]at h3 h4 ⊢
   obtain⟨n,rfl⟩:=Int.eq_ofNat_of_zero_le hx.1
   unfold takeB
   rw[readN]
   rcases number_max ((n:Int) :: rest) hb hbl 1 (by simp)with ⟨h5,h6⟩|⟨v,k,h5,hv,hk,hkl,h6⟩
   .rw[List.drop_one,List.tail_cons]at h5
    rw[h5]
    have e:(if(n:Int) < 1 then none else if 32 < (n:Int)then none else(none:Option (List Nat×Nat)))=none:=by split<;>(try split)<;>rfl
    simp only[e]
    exact Ev.bind h6 (Ev.bind (cb_ _ _) (Ev.bind (cb_ _ _) (Ev.if_t (by simp) (ref_j0_bad _ _ _ _ _ _ _))))
   .rw[List.drop_one,List.tail_cons]at h5
    rw[h5]
    refine Ev.bind h6 ?_
    simp only[]
    have hlen:((n:Int) :: rest).length=rest.length+1:=rfl
    have hwb:=getD_byte hb (1+k)
    have hcb:=getD_byte hb (1+k+1)
    by_cases hn1:(n:Int) < 1
    .
     rw[if_pos hn1]
     obtain rfl:n=0:=by omega
     rcases count_ev _ hb hbl (1+k) hkl 64 (by decide)with ⟨_,y,h7⟩|⟨h7,h8,h9⟩
     .exact Ev.bind h7 (Ev.bind (cb_ _ _) (Ev.if_t (by simp) (ref_j0_bad _ _ _ _ _ _ _)))
     .refine Ev.bind h9 ?_
      rcases count_ev _ hb hbl (1+k+1) (by omega) 32 (by decide)with ⟨_,y,h10⟩|⟨_,_,h10⟩
      .exact Ev.bind h10 (Ev.if_t (by simp) (ref_j0_bad _ _ _ _ _ _ _))
      .exact Ev.bind h10 (Ev.if_f (by simp) (Ev.if_t rfl (ref_j0_bad _ _ _ _ _ _ _)))
    .rw[if_neg hn1,if_neg (show ¬ 32 < (n:Int) by omega)]
     rcases count_ev _ hb hbl (1+k) hkl 64 (by decide)with ⟨hno,y,h7⟩|⟨h7,h8,h9⟩
     .have e:∀ X:Option (List Nat×Nat),(if((n:Int) :: rest).length < 1+k+2 then none else if 64 < ((n:Int) :: rest).getD (1+k) 0 then none else X)=none:=by
       intro X
       by_cases h:((n:Int) :: rest).length < 1+k+2
       .rw[if_pos h]
       .rw[if_neg h,if_pos]
        rcases Int.lt_or_le 64 (((n:Int) :: rest).getD (1+k) 0)with h1|h1
        .exact h1
        .exact absurd ⟨by omega,by omega⟩ hno
      rw[e]
      exact Ev.bind h7 (Ev.bind (cb_ _ _) (Ev.if_t (by simp) (ref_j0_bad _ _ _ _ _ _ _)))
     .refine Ev.bind h9 ?_
      obtain⟨w,ew⟩:=Int.eq_ofNat_of_zero_le hwb.1
      rw[ew]at h8 h9 ⊢
      rw[if_neg (show ¬ (64:Int) < (w:Int) by omega)]
      rcases count_ev _ hb hbl (1+k+1) (by omega) 32 (by decide)with ⟨hno,y,h10⟩|⟨h10,h11,h12⟩
      .have e:∀ X:Option (List Nat×Nat),(if((n:Int) :: rest).length < 1+k+2 then none else if(if false=true then(n:Int)else 32) < ((n:Int) :: rest).getD (1+k+1) 0 then none else X)=none:=by
        intro X
        by_cases h:((n:Int) :: rest).length < 1+k+2
        .rw[if_pos h]
        .rw[if_neg h,if_pos]
         rw[if_neg (by decide)]
         rcases Int.lt_or_le 32 (((n:Int) :: rest).getD (1+k+1) 0)with h1|h1
         .exact h1
         .exact absurd ⟨by omega,by omega⟩ hno
       rw[e]
       exact Ev.bind h10 (Ev.if_t (by simp) (ref_j0_bad _ _ _ _ _ _ _))
      .refine Ev.bind h12 ?_
       obtain⟨c,ec⟩:=Int.eq_ofNat_of_zero_le hcb.1
       rw[ec]at h11 ⊢
       rw[if_neg (show ¬ ((n:Int) :: rest).length < 1+k+2 by omega),if_neg (show ¬ (if false=true then(n:Int)else 32) < (c:Int) by rw[if_neg (by decide)];omega)]
       simp only[Int.toNat_natCast]
       refine Ev.if_f (by simp) (Ev.if_f (by omega) (Ev.obind (ref_size n w (by have:=Nat.mul_le_mul (show n<=32 by omega) (show w<=64 by omega);omega)) ?_))
       rw[sub64 ((n:Int) :: rest).length (1+k+1+1) (by omega) (by omega)]
       by_cases hfit:((n:Int) :: rest).length < 1+k+2+(n*w+7) / 8
       .rw[decide_eq_true (by omega)]
        unfold bodyN
        rw[if_pos hfit]
        exact ref_j0_bad _ _ _ _ _ _ _
       .rw[decide_eq_false (by omega)]
        exact ref_j0 _ hb hbl (by omega) (by omega) (by omega) hv (by omega) (by omega)
theorem byOf_at (base:Nat) (ds:List Nat) (w:Nat) (more:List Int):∃ rest,byOf base ds w++more=(ds.length:Int) :: (numEnc base++rest)∧rest=(w:Int) :: (cntOf w ds:Int) :: (packOf w (lowOf w ds)++tailOf w 0 ds++more):=by
 refine⟨_,?_,rfl⟩
 unfold byOf
 simp
theorem getD_app {α:Type} (a b:List α) (i:Nat) (d:α):(a++b).getD (a.length+i) d=b.getD i d:=by
 rw[List.getD_eq_getElem?_getD,List.getD_eq_getElem?_getD,List.getElem?_append_right (by omega),show a.length+i - a.length=i by omega]
theorem takeN_of {b:List Int} {v k:Nat} (h:takeOf b=((v:Int),(k:Int),0)):takeN b=some (v,k):=by
 unfold takeN
 rw[h]
 simp only[if_true,Int.toNat_natCast]
theorem getD_at {α:Type} (x:α) (a:List α) (b:List α) (i:Nat) (d:α):(x :: (a++b)).getD (1+a.length+i) d=b.getD i d:=by
 rw[show 1+a.length+i=(a.length+i)+1 by omega,List.getD_cons_succ,getD_app]
theorem takeB_eq (b:List Int) (hb:B8 b):takeB true b=takeB false b:=by
 cases b with
 |nil=>rfl
 |cons n0 rest=>
  obtain⟨hx,hr⟩:=hb.cons
  unfold takeB
  rw[readN,readN]
  by_cases h1:n0 < 1
  .rw[if_pos h1,if_pos h1]
  rw[if_neg h1,if_neg h1]
  by_cases h2:32 < n0
  .rw[if_pos h2,if_pos h2]
  rw[if_neg h2,if_neg h2]
  cases ht:takeN rest with
  |none=>rfl
  |some p=>
   obtain⟨base,k⟩:=p
   simp only[]
   by_cases h3:(n0 :: rest).length < 1+k+2
   .rw[if_pos h3,if_pos h3]
   rw[if_neg h3,if_neg h3]
   by_cases h4:64 < (n0 :: rest).getD (1+k) 0
   .rw[if_pos h4,if_pos h4]
   rw[if_neg h4,if_neg h4]
   simp only[if_true,Bool.false_eq_true,if_false]
   by_cases h5:n0 < (n0 :: rest).getD (1+k+1) 0
   .rw[if_pos h5]
    by_cases h6:32 < (n0 :: rest).getD (1+k+1) 0
    .rw[if_pos h6]
    rw[if_neg h6]
    cases hr2:bodyN (n0 :: rest) n0.toNat base (1+k) ((n0 :: rest).getD (1+k) 0).toNat ((n0 :: rest).getD (1+k+1) 0).toNat with
    |none=>rfl
    |some q=>
     obtain⟨l,z⟩:=q
     obtain⟨g1,g2,g3⟩:=bodyN_some hb hr2
     simp only[]
     rw[if_neg]
     intro he
     obtain⟨r2,e1,e2⟩:=byOf_at (baseOf l) (lessOf l) (widthB l) ((n0 :: rest).drop z)
     have e3:n0 :: rest=(l.length:Int) :: (numEnc (baseOf l)++r2):=by
      rw[<- length_lessOf l,<- e1]
      have:=List.take_append_drop z (n0 :: rest)
      rw[<- he]at this
      exact this.symm
     obtain⟨_,e4⟩:=List.cons.inj e3
     have e5:takeN rest=some (baseOf l,(numEnc (baseOf l)).length):=by
      rw[e4]
      exact takeN_of (takeOf_enc (baseOf_lt g3) _)
     rw[ht]at e5
     simp only[Option.some.injEq,Prod.mk.injEq]at e5
     rw[e3,e5.2,getD_at,e2]at h5
     have hk:=cntOf_le (widthB l) (lessOf l)
     rw[length_lessOf]at hk
     simp at h5
     omega
   .rw[if_neg h5,if_neg (by omega)]
def lowN (w:Nat) (ds:List Nat):List Nat:=ds.map fun d=>d % 2 ^ w
theorem highs_tail (n w:Nat) (hw:w<=64) (b more:List Int):∀ (ds done:List Nat) (at_:Nat),Lt64 ds->done.length+ds.length=n->n<=255->b.drop at_=tailOf w done.length ds++more->at_<=b.length->
  highsN n w b (cntOf w ds) at_ (done++lowN w ds)=some (done++ds,at_+tailLen w ds)
 |[],done,at_,_,_,_,_,_=>by simp[cntOf,lowN,highsN,tailLen]
 |d :: ds,done,at_,hd,hn,h255,hb,hat=>by
  have hx:d < 2 ^ 64:=hd d List.mem_cons_self
  have hd':Lt64 ds:=fun x hx=>hd x (List.mem_cons_of_mem _ hx)
  have ih:=highs_tail n w hw b more ds (done++[d])
  rw[List.length_append,List.length_singleton,List.append_assoc,List.append_assoc,List.singleton_append,List.singleton_append]at ih
  rw[List.length_cons]at hn
  rw[tailOf]at hb
  rw[cntOf,tailLen]
  by_cases hp:0 < d / 2 ^ w
  .rw[if_pos hp,List.cons_append,List.cons_append,List.append_assoc]at hb
   rw[if_pos hp,if_pos hp,Nat.add_comm 1,highsN]
   have hlt:at_ < b.length:=by
    rcases Nat.lt_or_ge at_ b.length with h|h
    .exact h
    .rw[List.drop_of_length_le h]at hb;cases hb
   have hg:b.getD at_ 0=(done.length:Int):=by
    rw[List.drop_eq_getElem_cons hlt]at hb
    rw[List.getD_eq_getElem?_getD,List.getElem?_eq_getElem hlt]
    exact(List.cons.inj hb).1
   have hdr:b.drop (at_+1)=numEnc (d / 2 ^ w)++(tailOf w (done.length+1) ds++more):=by
    rw[List.drop_eq_getElem_cons hlt]at hb
    exact(List.cons.inj hb).2
   have hw64:w≠64:=by
    rintro rfl
    rw[fits64 hx (Nat.le_refl _)]at hp
    omega
   have ht:takeN (b.drop (at_+1))=some (d / 2 ^ w,(numEnc (d / 2 ^ w)).length):=by
    rw[hdr]
    exact takeN_of (takeOf_enc (div_lt64 hx w) _)
   rw[if_neg (by omega),hg,if_neg (by omega),if_neg hw64,ht]
   simp only[Int.toNat_natCast]
   have e1:(done++lowN w (d :: ds)).getD done.length 0=d % 2 ^ w:=by
    have:=getD_app done (lowN w (d :: ds)) 0 0;rw[Nat.add_zero]at this;rw[this];rfl
   have e2:d % 2 ^ w+d / 2 ^ w*2 ^ w=d:=by rw[Nat.mul_comm];exact Nat.mod_add_div d (2 ^ w)
   have e3:(done++lowN w (d :: ds)).set done.length d=done++d :: lowN w ds:=by
    rw[List.set_append_right _ _ (Nat.le_refl _),Nat.sub_self];rfl
   rw[e1,e2,Nat.mod_eq_of_lt hx,e3,ih _ hd' (by omega) h255 ?_ ?_]
   .congr 2;omega
   .have:=(List.drop_drop (i:=(numEnc (d / 2 ^ w)).length) (j:=at_+1) (l:=b)).symm
    rw[this,hdr,List.drop_left]
   .have:=congrArg List.length hdr
    rw[List.length_drop,List.length_append]at this
    omega
  .rw[if_neg hp,List.nil_append]at hb
   rw[if_neg hp,if_neg hp,Nat.zero_add,Nat.zero_add]
   have e:d % 2 ^ w=d:=by
    have h1:=Nat.mod_add_div d (2 ^ w)
    rw[Nat.eq_zero_of_not_pos hp,Nat.mul_zero]at h1
    exact h1
   have e1:lowN w (d :: ds)=d :: lowN w ds:=by simp[lowN,e]
   rw[e1]
   exact ih _ hd' (by omega) h255 hb hat
theorem val_packOf {w:Nat} {l:List Int} (hf:Fit w l):val (packOf w l)=pval w l:=by
 have:=pval_lt w hf
 rw[packOf,val_digits,p256]
 exact Nat.mod_eq_of_lt (Nat.lt_of_lt_of_le this (Nat.pow_le_pow_right (by decide) (by omega)))
theorem unN_low (w:Nat) (ds:List Nat):unN (pval w (lowOf w ds)) w ds.length=lowN w ds:=by
 have h := unOf_pval w (fit_lowOf w ds) (fun x hx => by
  obtain⟨n,_,rfl⟩:=List.mem_map.1 hx
  omega)
 rw[length_lowOf,unOf_unN]at h
 exact up_inj h
theorem addN_less {ns:List Nat} (hn:Lt64 ns):addN (baseOf ns) (lessOf ns)=ns:=by
 unfold addN lessOf
 rw[List.map_map]
 conv=>rhs;rw[<- List.map_id ns]
 refine List.map_congr_left fun x hx=>?_
 obtain⟨i,hi,rfl⟩:=List.getElem_of_mem hx
 have h1:=baseOf_le ns i hi
 have h2:=hn.get i hi
 simp only[Function.comp,id]
 rw[Nat.sub_add_cancel h1,Nat.mod_eq_of_lt h2]
theorem bodyN_back {ns:List Nat} (hn:Lt64 ns) (h32:ns.length<=32) (b more:List Int) (at_:Nat)
  (hb:b.drop (at_+2)=packOf (widthB ns) (lowOf (widthB ns) (lessOf ns))++(tailOf (widthB ns) 0 (lessOf ns)++more)) (hat:at_+2<=b.length):
  bodyN b ns.length (baseOf ns) at_ (widthB ns) (cntOf (widthB ns) (lessOf ns))=some (ns,at_+2+costOf (lessOf ns) (widthB ns)):=by
 have hw:=widthB_le ns
 generalize widthB ns=w at*
 have hs:(packOf w (lowOf w (lessOf ns))).length=(ns.length*w+7) / 8:=by rw[length_packOf,length_lowOf,length_lessOf,Nat.mul_comm]
 have hlen:=congrArg List.length hb
 rw[List.length_drop,List.length_append,hs]at hlen
 have hseg:(b.take (at_+2+(ns.length*w+7) / 8)).drop (at_+2)=packOf w (lowOf w (lessOf ns)):=by
  rw[List.drop_take,hb,show at_+2+(ns.length*w+7) / 8 - (at_+2)=(ns.length*w+7) / 8 by omega,<- hs,List.take_left]
 have hdr:b.drop (at_+2+(ns.length*w+7) / 8)=tailOf w 0 (lessOf ns)++more:=by
  rw[<- List.drop_drop,hb,<- hs,List.drop_left]
 have hv:=pval_lt w (fit_lowOf w (lessOf ns))
 rw[length_lowOf,length_lessOf,Nat.mul_comm]at hv
 unfold bodyN
 rw[if_neg (by omega),hseg,val_packOf (fit_lowOf _ _),if_neg (by omega)]
 have hu:=unN_low w (lessOf ns)
 rw[length_lessOf]at hu
 have ht:=highs_tail ns.length w hw b more (lessOf ns) [] (at_+2+(ns.length*w+7) / 8) (lt_lessOf hn) (by simp) (by omega) hdr (by omega)
 simp only[List.nil_append]at ht
 rw[hu,ht]
 simp only[]
 rw[addN_less hn]
 unfold costOf
 rw[length_lessOf]
 congr 2
 omega
theorem readN_back {ns:List Nat} (hn:Lt64 ns) (h1:1<=ns.length) (h32:ns.length<=32) (more:List Int):readN true (blockOf ns++more)=some (ns,(blockOf ns).length):=by
 have hw:=widthB_le ns
 have hk:=cntOf_le (widthB ns) (lessOf ns)
 have hlen:(blockOf ns).length=3+(numEnc (baseOf ns)).length+costOf (lessOf ns) (widthB ns):=length_byOf _ _ _
 obtain⟨r2,e1,e2⟩:=byOf_at (baseOf ns) (lessOf ns) (widthB ns) more
 have e3:blockOf ns++more=(ns.length:Int) :: (numEnc (baseOf ns)++r2):=by
  rw[<- length_lessOf ns,<- e1];rfl
 rw[length_lessOf]at hk
 rw[e3,readN,if_neg (by omega),if_neg (by omega),takeN_of (takeOf_enc (baseOf_lt hn) r2)]
 simp only[]
 have g0:((ns.length:Int) :: (numEnc (baseOf ns)++r2)).getD (1+(numEnc (baseOf ns)).length) 0=(widthB ns:Int):=by
  have:=getD_at (ns.length:Int) (numEnc (baseOf ns)) r2 0 0
  rw[Nat.add_zero]at this
  rw[this,e2];rfl
 have g1:((ns.length:Int) :: (numEnc (baseOf ns)++r2)).getD (1+(numEnc (baseOf ns)).length+1) 0=(cntOf (widthB ns) (lessOf ns):Int):=by
  rw[getD_at,e2];rfl
 rw[g0,g1,if_neg (by rw[List.length_cons,List.length_append,e2];simp;omega),if_neg (by omega)]
 simp only[if_true]
 rw[if_neg (by omega)]
 simp only[Int.toNat_natCast]
 have hd:((ns.length:Int) :: (numEnc (baseOf ns)++r2)).drop (1+(numEnc (baseOf ns)).length+2)=packOf (widthB ns) (lowOf (widthB ns) (lessOf ns))++(tailOf (widthB ns) 0 (lessOf ns)++more):=by
  rw[show 1+(numEnc (baseOf ns)).length+2=(numEnc (baseOf ns)).length+2+1 by omega,List.drop_succ_cons,<- List.drop_drop,List.drop_left,e2,List.append_assoc]
  rfl
 rw[bodyN_back hn h32 _ more _ hd (by rw[List.length_cons,List.length_append,e2];simp;omega),hlen]
 congr 2
 omega
theorem takeB_back {ns:List Nat} (hn:Lt64 ns) (h1:1<=ns.length) (h32:ns.length<=32) (more:List Int):takeB true (blockOf ns++more)=(up ns,((blockOf ns).length:Int),0):=by
 unfold takeB
 rw[readN_back hn h1 h32 more]
 simp only[]
 rw[if_pos (List.take_left).symm]
theorem takeB_spec {b:List Int} (hb:B8 b):takeB true b=([],0,2)∨∃ (ns:List Nat) (z:Nat),takeB true b=(up ns,(z:Int),0)∧Lt64 ns∧1<=ns.length∧ns.length<=32∧z<=b.length∧blockOf ns=b.take z∧4<=z:=by
 unfold takeB
 cases hr:readN true b with
 |none=>exact .inl rfl
 |some p=>
  obtain⟨l,z⟩:=p
  obtain⟨h1,h2,h3,h4⟩:=readN_some hb hr
  simp only[]
  by_cases h:blockOf l=b.take z
  .rw[if_pos h]
   refine .inr ⟨l,z,rfl,h4,h1,h2,h3,h,?_⟩
   have hlen:=congrArg List.length h
   have hbl:(blockOf l).length=3+(numEnc (baseOf l)).length+costOf (lessOf l) (widthB l):=length_byOf _ _ _
   rw[List.length_take,hbl]at hlen
   have:1<=(numEnc (baseOf l)).length:=by rw[length_numEnc];split<;>omega
   omega
  .rw[if_neg h];exact .inl rfl
def blocksF:Nat->List Nat->List Int
 |0,_=>[]
 |m+1,ns=>if ns.length=0 then[]else blockOf (ns.take 32)++blocksF m (ns.drop 32)
def listOf (m:Nat) (ns:List Nat):List Int:=numEnc ns.length++blocksF m ns
theorem blocksF_len (m:Nat):∀ (ns:List Nat),Lt64 ns->(blocksF m ns).length<=700*ns.length:=by
 induction m with
 |zero=>intro ns _;exact Nat.zero_le _
 |succ m ih=>
  intro ns h
  rw[blocksF]
  by_cases h0:ns.length=0
  .rw[if_pos h0];exact Nat.zero_le _
  .rw[if_neg h0,List.length_append]
   have h1:=length_blockOf_le (h.take 32) (by rw[List.length_take];omega)
   have h2:=ih (ns.drop 32) (h.drop 32)
   rw[List.length_drop]at h2
   omega
theorem in_blocksF (m:Nat):∀ (ns:List Nat),Lt64 ns->B8 (blocksF m ns):=by
 induction m with
 |zero=>intro ns _;exact In.nil _
 |succ m ih=>
  intro ns h
  rw[blocksF]
  by_cases h0:ns.length=0
  .rw[if_pos h0];exact In.nil _
  .rw[if_neg h0]
   exact In.append (in_blockOf (h.take 32) (by rw[List.length_take];omega)) (ih _ (h.drop 32))
theorem in_listOf {m:Nat} {ns:List Nat} (h:Lt64 ns) (hn:ns.length<=1000000):B8 (listOf m ns):=In.append (in_numEnc (by omega)) (in_blocksF m ns h)
theorem listOf_len {m:Nat} {ns:List Nat} (h:Lt64 ns) (hn:ns.length<=1000000):(listOf m ns).length<=9+700*ns.length:=by
 have h1:=length_numEnc_le (v:=ns.length) (by omega)
 have h2:=blocksF_len m ns h
 unfold listOf
 rw[List.length_append]
 omega
theorem putList_l0:∀ (m:Nat) (ns:List Nat) (out:List Int),Lt64 ns->ns.length<=32*m->out.length+700*ns.length<=140737488352000->Ev (fun k=>pfor_PutList.l0 k out (up ns)) (out++blocksF m ns)
 |0,ns,out,h,hm,hb=>by
  apply Ev.succ
  simp only[pfor_PutList.l0]
  refine Ev.if_t (by rw[up_length];omega) ?_
  rw[blocksF,List.append_nil]
  exact Ev.now _
 |m+1,ns,out,h,hm,hb=>by
  apply Ev.succ
  simp only[pfor_PutList.l0]
  rw[blocksF]
  by_cases h0:ns.length=0
  .rw[if_pos h0,List.append_nil]
   exact Ev.if_t (by rw[up_length];omega) (Ev.now _)
  .rw[if_neg h0]
   have h1:=length_blockOf_le (h.take 32) (by rw[List.length_take];omega)
   refine Ev.if_f (by rw[up_length];omega) ?_
   rw[up_take,up_drop]
   refine Ev.bind (putBlock_ok out (by omega) (h.take 32) (by rw[List.length_take];omega) (by rw[List.length_take];omega)) ?_
   have ih:=putList_l0 m (ns.drop 32) (out++blockOf (ns.take 32)) (h.drop 32) (by rw[List.length_drop];omega) (by rw[List.length_append,List.length_drop];omega)
   rw[List.append_assoc]at ih
   exact ih
theorem putList_ok (b:List Int) (hB:B8 b) {ns:List Nat} (h:Lt64 ns) (hb:b.length+2000+1000*ns.length<=140737488350000):pfor_PutList.Ok b (up ns):=by
 refine⟨hB,by rw[up_length];omega,fun acc ha hal j hj=>?_⟩
 rw[up_length]at hal hj
 have hc1:1<=((ns.drop (32*j)).take 32).length:=by simp;omega
 have hc2:((ns.drop (32*j)).take 32).length<=32:=by simp;omega
 have hc3:Lt64 ((ns.drop (32*j)).take 32):=(h.drop _).take _
 obtain⟨k,hk⟩:=(putBlock_ok acc (by omega) hc3 hc1 hc2).rounds
 refine⟨k,(acc++blockOf ((ns.drop (32*j)).take 32),0),?_,?_,?_⟩
 .rw[up_drop,up_take];exact hk
 .exact In.append ha (in_blockOf hc3 hc2)
 .have:=length_blockOf_le hc3 hc2
  simp only[List.length_append]
  omega
theorem putList_ev (b:List Int) (hB:B8 b) {ns:List Nat} (h:Lt64 ns) {m:Nat} (hm:ns.length<=32*m) (hb:b.length+2000+1000*ns.length<=140737488350000):Ev (fun k=>pfor_PutList.f k b (up ns)) (b++listOf m ns):=by
 have hl:ns.length < 2 ^ 64:=by omega
 have h9:=length_numEnc_le hl
 refine Ev.fn (f:=fun k=>(num_Put.f k b ((up ns).length:Int)).bind fun t=>if(∀ x∈t,0<=x∧x<=255)∧t.length<=b.length+1000 then pfor_PutList.l0 k t (up ns)else none) ?_ (fun k=>?_)
 .rw[up_length]
  refine Ev.bind (put_ev b (by omega) hl) (Ev.if_t ⟨In.append hB (in_numEnc hl),by rw[List.length_append];omega⟩ ?_)
  have:=putList_l0 m ns (b++numEnc ns.length) h hm (by rw[List.length_append];omega)
  rw[List.append_assoc]at this
  exact this
 .unfold pfor_PutList.f
  rw[if_pos (putList_ok b hB h hb)]
def takeLF (b:List Int):Nat->Nat->List Nat->Nat->List Int×Int×Int
 |0,_,_,_=>([],0,2)
 |f+1,at_,acc,left=>
  if left=0 then(up acc,(at_:Int),0)else
  if(takeB true (b.drop at_)).2.2=0 then
   if(takeB true (b.drop at_)).1.length=min left 32 then takeLF b f (at_+(takeB true (b.drop at_)).2.1.toNat) (acc++((takeB true (b.drop at_)).1.map Int.toNat)) (left - (takeB true (b.drop at_)).1.length)
   else([],0,2)
  else([],0,2)
theorem up_toNat (ns:List Nat):(up ns).map Int.toNat=ns:=by
 simp[up,Function.comp_def]
theorem take_l0 (b:List Int) (hB:B8 b) (hbl:b.length<=10000000):∀ (f at_ left:Nat) (acc:List Nat),b.length - at_ < f->at_<=b.length->acc.length<=32*at_->left<=9223372036854775807->
  Ev (fun k=>pfor_TakeList.l0 k b (at_:Int) (up acc) (left:Int)) (takeLF b f at_ acc left)
 |0,at_,left,acc,hf,_,_,_=>by omega
 |f+1,at_,left,acc,hf,hat,hacc,hleft=>by
  apply Ev.succ
  simp only[pfor_TakeList.l0]
  rw[takeLF]
  by_cases h0:left=0
  .rw[if_pos h0]
   exact Ev.if_f (by omega) (Ev.now _)
  rw[if_neg h0,Int.toNat_natCast]
  refine Ev.if_t (by omega) (Ev.if_t (by omega) (Ev.if_t (by omega) (Ev.bind (takeBlock_ev (b.drop at_) (hB.drop _) (by rw[List.length_drop];omega)) ?_)))
  rcases takeB_spec (hB.drop at_)with h|⟨ns,z,h,hlt,h1,h32,hz,_,h4⟩
  .rw[h]
   exact Ev.if_f (by show ¬ (2:Int)=0;decide) (by rw[if_neg (by show ¬ (2:Int)=0;decide)];exact Ev.now _)
  .rw[h]
   rw[List.length_drop]at hz
   simp only[up_length,up_toNat,Int.toNat_natCast,if_true]
   rw[show(32:Int)=((32:Nat):Int) from rfl,mn_nat]
   by_cases h5:ns.length=min left 32
   .rw[if_pos h5]
    refine Ev.if_t (by omega) (Ev.if_t (by omega) ?_)
    have e:wrap64 ((left:Int) - (ns.length:Int))=((left - ns.length:Nat):Int):=by rw[w64 (by omega) (by omega)];omega
    rw[add64 at_ z (by omega),e,<- up_append]
    exact take_l0 b hB hbl f (at_+z) (left - ns.length) (acc++ns) (by omega) (by omega) (by rw[List.length_append];omega) (by omega)
   .rw[if_neg h5]
    exact Ev.if_f (by omega) (Ev.now _)
theorem ref_take_l0 (b:List Int) (hB:B8 b) (hbl:b.length<=10000000) (n:Nat) (hn:n<=9223372036854775807):∀ (f at_:Nat) (acc:List Nat),b.length - at_ < f->at_<=b.length->acc.length<=32*at_->acc.length<=n->
  Ev (fun k=>dragnetref04_TakeList.l0 k b (n:Int) (at_:Int) (up acc)) (takeLF b f at_ acc (n - acc.length))
 |0,at_,acc,hf,_,_,_=>by omega
 |f+1,at_,acc,hf,hat,hacc,hle=>by
  apply Ev.succ
  simp only[dragnetref04_TakeList.l0]
  rw[takeLF,up_length,wu64 (x:=(acc.length:Int)) (by omega) (by omega)]
  by_cases h0:n - acc.length=0
  .rw[if_pos h0]
   exact Ev.if_f (by omega) (Ev.now _)
  rw[if_neg h0,Int.toNat_natCast]
  have hr:=ref_takeBlock_ev (b.drop at_) (hB.drop _) (by rw[List.length_drop];omega)
  rw[<- takeB_eq _ (hB.drop _)]at hr
  refine Ev.if_t (by omega) (Ev.if_t (by omega) (Ev.if_t (by omega) (Ev.bind hr ?_)))
  rcases takeB_spec (hB.drop at_)with h|⟨ns,z,h,hlt,h1,h32,hz,_,h4⟩
  .rw[h]
   exact Ev.if_f (by show ¬ (2:Int)=0;decide) (by rw[if_neg (by show ¬ (2:Int)=0;decide)];exact Ev.now _)
  .rw[h]
   rw[List.length_drop]at hz
   simp only[up_length,up_toNat,Int.toNat_natCast,if_true]
   have e1:IntKind.u64.wrap ((n:Int) - (acc.length:Int))=((n - acc.length:Nat):Int):=by rw[wu64 (by omega) (by omega)];omega
   rw[e1,wu64 (x:=(ns.length:Int)) (by omega) (by omega),show(32:Int)=((32:Nat):Int) from rfl,mn_nat]
   by_cases h5:ns.length=min (n - acc.length) 32
   .rw[if_pos h5]
    refine Ev.if_t (by omega) (Ev.if_t (by omega) ?_)
    rw[add64 at_ z (by omega),<- up_append]
    have ih:=ref_take_l0 b hB hbl n hn f (at_+z) (acc++ns) (by omega) (by omega) (by rw[List.length_append];omega) (by rw[List.length_append];omega)
    rw[List.length_append,<- Nat.sub_sub]at ih
    exact ih
   .rw[if_neg h5]
    exact Ev.if_f (by omega) (Ev.now _)
def takeLOf (b:List Int) (most:Int):List Int×Int×Int:=
 if most < 0 then([],0,1)else
 match takeN b with
 |none=>([],0,2)
 |some (c,at_)=>if most < (c:Int)then([],0,5)else takeLF b (b.length+1) at_ [] c
theorem takeList_ev (b:List Int) (hB:B8 b) (hbl:b.length<=10000000) (most:Int) (hm:most<=9223372036854775807):Ev (fun k=>pfor_TakeList.f k b most) (takeLOf b most):=by
 unfold pfor_TakeList.f takeLOf
 by_cases h:most < 0
 .rw[if_pos h];exact Ev.if_t h (Ev.now _)
 rw[if_neg h]
 refine Ev.if_f h (Ev.bind (take_ev b hB (by omega)) ?_)
 rcases takeN_cases b hB with ⟨e,he,h4,h5⟩|⟨v,k,h4,h5,hv,hk1,hk9,hkl,_⟩
 .rw[h4,h5];exact Ev.if_f he (Ev.now _)
 .rw[h4,h5]
  refine Ev.if_t rfl ?_
  simp only[]
  rw[wu64 (x:=most) (by omega) (by omega)]
  by_cases h6:most < (v:Int)
  .rw[if_pos h6];exact Ev.if_t (by omega) (Ev.now _)
  .rw[if_neg h6,w64 (x:=(v:Int)) (by omega) (by omega)]
   exact Ev.if_f (by omega) (take_l0 b hB hbl (b.length+1) k v [] (by omega) hkl (by simp) (by omega))
theorem ref_takeList_ev (b:List Int) (hB:B8 b) (hbl:b.length<=10000000) (most:Int) (hm:most<=9223372036854775807):Ev (fun k=>dragnetref04_TakeList.f k b most) (takeLOf b most):=by
 unfold dragnetref04_TakeList.f takeLOf
 by_cases h:most < 0
 .rw[if_pos h];exact Ev.if_t h (Ev.now _)
 rw[if_neg h]
 refine Ev.if_f h (Ev.bind (ref_take_ev b hB (by omega)) ?_)
 rcases takeN_cases b hB with ⟨e,he,h4,h5⟩|⟨v,k,h4,h5,hv,hk1,hk9,hkl,_⟩
 .rw[h4,h5];exact Ev.if_f he (Ev.now _)
 .rw[h4,h5]
  refine Ev.if_t rfl ?_
  simp only[]
  rw[wu64 (x:=most) (by omega) (by omega)]
  by_cases h6:most < (v:Int)
  .rw[if_pos h6];exact Ev.if_t (by omega) (Ev.now _)
  .rw[if_neg h6]
   exact Ev.if_f (by omega) (ref_take_l0 b hB hbl v (by omega) (b.length+1) k [] (by omega) hkl (by simp) (by simp))
theorem takeLF_spec (b:List Int) (hB:B8 b):∀ (f at_ left:Nat) (acc:List Nat),at_<=b.length->Lt64 acc->acc.length<=32*at_->
  takeLF b f at_ acc left=([],0,2)∨∃ (ns:List Nat) (z:Nat),takeLF b f at_ acc left=(up ns,(z:Int),0)∧Lt64 ns∧ns.length=acc.length+left∧z<=b.length∧at_<=z∧ns.length<=32*z
 |0,_,_,_,_,_,_=> .inl rfl
 |f+1,at_,left,acc,hat,hacc,hal=>by
  rw[takeLF]
  by_cases h0:left=0
  .rw[if_pos h0]
   exact .inr ⟨acc,at_,rfl,hacc,by omega,hat,Nat.le_refl _,hal⟩
  rw[if_neg h0]
  rcases takeB_spec (hB.drop at_)with h|⟨ns,z,h,hlt,h1,h32,hz,_,h4⟩
  .rw[h]
   exact .inl (if_neg (by show ¬ (2:Int)=0;decide))
  .rw[h]
   rw[List.length_drop]at hz
   simp only[up_length,up_toNat,Int.toNat_natCast,if_true]
   by_cases h5:ns.length=min left 32
   .rw[if_pos h5]
    have hap:Lt64 (acc++ns):=fun x hx=>by
     rcases List.mem_append.1 hx with h|h
     .exact hacc x h
     .exact hlt x h
    rcases takeLF_spec b hB f (at_+z) (left - ns.length) (acc++ns) (by omega) hap (by rw[List.length_append];omega)with g|⟨ms,y,g1,g2,g3,g4,g5,g6⟩
    .exact .inl g
    .rw[List.length_append]at g3
     exact .inr ⟨ms,y,g1,g2,by omega,g4,by omega,g6⟩
   .rw[if_neg h5];exact .inl rfl
theorem takeLOf_spec (b:List Int) (hB:B8 b) (most:Int):(∃ e:Int,(e=1∨e=2∨e=5)∧takeLOf b most=([],0,e))∨∃ (ns:List Nat) (z:Nat),takeLOf b most=(up ns,(z:Int),0)∧Lt64 ns∧(ns.length:Int)<=most∧z<=b.length∧1<=z∧ns.length<=32*z:=by
 unfold takeLOf
 by_cases h:most < 0
 .rw[if_pos h];exact .inl ⟨1,by omega,rfl⟩
 rw[if_neg h]
 rcases takeN_cases b hB with ⟨e,he,h4,h5⟩|⟨v,k,h4,h5,hv,hk1,hk9,hkl,_⟩
 .rw[h5];exact .inl ⟨2,by omega,rfl⟩
 .rw[h5]
  simp only[]
  by_cases h6:most < (v:Int)
  .rw[if_pos h6];exact .inl ⟨5,by omega,rfl⟩
  .rw[if_neg h6]
   rcases takeLF_spec b hB (b.length+1) k v [] hkl (fun x hx=>by cases hx) (by simp)with g|⟨ms,y,g1,g2,g3,g4,g5,g6⟩
   .exact .inl ⟨2,by omega,g⟩
   .simp at g3
    exact .inr ⟨ms,y,g1,g2,by omega,g4,by omega,g6⟩
theorem takeLF_back (b more:List Int):∀ (m f at_:Nat) (ns acc:List Nat),Lt64 ns->ns.length<=32*m->b.drop at_=blocksF m ns++more->at_<=b.length->b.length - at_ < f->
  takeLF b f at_ acc ns.length=(up (acc++ns),((at_+(blocksF m ns).length:Nat):Int),0)
 |0,f,at_,ns,acc,h,hm,hb,hat,hf=>by
  obtain rfl:ns=[]:=List.eq_nil_of_length_eq_zero (by omega)
  cases f with
  |zero=>omega
  |succ f=>simp[takeLF,blocksF]
 |m+1,f,at_,ns,acc,h,hm,hb,hat,hf=>by
  cases f with
  |zero=>omega
  |succ f=>
   rw[takeLF]
   rw[blocksF]at hb ⊢
   by_cases h0:ns.length=0
   .obtain rfl:ns=[]:=List.eq_nil_of_length_eq_zero h0
    simp
   .rw[if_neg h0]at hb ⊢
    rw[if_neg h0]
    have hc1:1<=(ns.take 32).length:=by simp;omega
    have hc2:(ns.take 32).length<=32:=by simp;omega
    have hlen:=congrArg List.length hb
    rw[List.length_drop,List.length_append,List.length_append]at hlen
    have hpos:1<=(blockOf (ns.take 32)).length:=by
     have:(blockOf (ns.take 32)).length=3+(numEnc (baseOf (ns.take 32))).length+costOf (lessOf (ns.take 32)) (widthB (ns.take 32)):=length_byOf _ _ _
     omega
    rw[List.append_assoc]at hb
    rw[hb,takeB_back (h.take 32) hc1 hc2]
    simp only[up_length,up_toNat,Int.toNat_natCast,if_true]
    rw[if_pos (by simp;omega)]
    have ih:=takeLF_back b more m f (at_+(blockOf (ns.take 32)).length) (ns.drop 32) (acc++ns.take 32) (h.drop 32) (by rw[List.length_drop];omega) (by rw[<- List.drop_drop,hb,List.drop_left]) (by omega) (by omega)
    rw[show(ns.drop 32).length=ns.length - (ns.take 32).length by simp;omega,List.append_assoc,List.take_append_drop]at ih
    rw[ih,List.length_append]
    congr 2
    omega
theorem takeLOf_back {ns:List Nat} (h:Lt64 ns) {m:Nat} (hm:ns.length<=32*m) (hn:ns.length<=1000000) (more:List Int) {most:Int} (hmost:(ns.length:Int)<=most):takeLOf (listOf m ns++more) most=(up ns,((listOf m ns).length:Int),0):=by
 have hl:ns.length < 2 ^ 64:=by omega
 unfold takeLOf listOf
 rw[if_neg (by omega),List.append_assoc,takeN_of (takeOf_enc hl _)]
 simp only[]
 rw[if_neg (by omega)]
 have:=takeLF_back (numEnc ns.length++(blocksF m ns++more)) more m ((numEnc ns.length++(blocksF m ns++more)).length+1) (numEnc ns.length).length ns [] h hm (by rw[List.drop_left]) (by simp) (by omega)
 rw[this,List.nil_append,List.length_append]
theorem rdT_nat (l:List S37) (i:Nat) (h:i < l.length):rd_T37 l (i:Int)=l[i]:=by
 unfold rd_T37
 rw[Int.toNat_natCast,List.getD_eq_getElem?_getD,List.getElem?_eq_getElem h]
 rfl
def risesF (most:Int):Int->List Int->Bool
 |_,[]=>true
 |at_,x :: r=>decide (at_ < x) && (decide (x<=most) && risesF most x r)
def formedF:Int->List S37->Bool
 |_,[]=>true
 |doc,p :: r=>decide (doc < p.f0) && (decide (p.f0<=4095) && ((!p.f1.isEmpty) && (risesF 2147483647 (-1) p.f1 && formedF p.f0 r)))
def formedOf (l:List S37):Bool:=formedF (-1) l
theorem formed_l1 (doc:Int) (l:List S37) (i:Nat) (pl:List Int) (hp:pl.length<=9223372036854775000) (r:Bool)
  (hend:risesF 2147483647 (-1) pl=true->Ev (fun k=>post_Formed.l0 k doc l (l.length:Int) (wrap64 ((i:Int)+1))) r) (hbad:risesF 2147483647 (-1) pl=false->r=false):
  ∀ (d j:Nat) (at_:Int),j+d=pl.length->risesF 2147483647 (-1) pl=risesF 2147483647 at_ (pl.drop j)->
   Ev (fun k=>post_Formed.l1 k doc at_ l (l.length:Int) (i:Int) pl (pl.length:Int) (j:Int)) r
 |0,j,at_,hj,he=>by
  apply Ev.succ
  simp only[post_Formed.l1]
  rw[List.drop_of_length_le (by omega)]at he
  exact Ev.if_f (by omega) (hend he)
 |d+1,j,at_,hj,he=>by
  have hjl:j < pl.length:=by omega
  rw[List.drop_eq_getElem_cons hjl,risesF]at he
  apply Ev.succ
  simp only[post_Formed.l1]
  rw[rd_nat pl j hjl,inc j (by omega)]
  refine Ev.if_t (by omega) (Ev.if_t (by omega) (Ev.if_t (by omega) ?_))
  by_cases h1:pl[j]<=at_
  .rw[decide_eq_false (by omega),Bool.false_and]at he
   obtain rfl:=hbad he
   exact Ev.if_t h1 (Ev.now _)
  .by_cases h2:pl[j] > 2147483647
   .rw[decide_eq_false (p:=pl[j]<=2147483647) (by omega),Bool.false_and,Bool.and_false]at he
    obtain rfl:=hbad he
    exact Ev.if_f h1 (Ev.if_t h2 (Ev.now _))
   .rw[decide_eq_true (p:=at_ < pl[j]) (by omega),decide_eq_true (p:=pl[j]<=2147483647) (by omega),Bool.true_and,Bool.true_and]at he
    exact Ev.if_f h1 (Ev.if_f h2 (formed_l1 doc l i pl hp r hend hbad d (j+1) pl[j] (by omega) he))
def PLen (l:List S37):Prop:=∀ p∈l,p.f1.length<=9223372036854775000
theorem formed_l0 (l:List S37) (hl:PLen l) (hn:l.length<=9223372036854775000):∀ (d i:Nat) (doc:Int),i+d=l.length->
  Ev (fun k=>post_Formed.l0 k doc l (l.length:Int) (i:Int)) (formedF doc (l.drop i))
 |0,i,doc,hi=>by
  apply Ev.succ
  simp only[post_Formed.l0]
  rw[List.drop_of_length_le (by omega)]
  exact Ev.if_f (by omega) (Ev.now _)
 |d+1,i,doc,hi=>by
  have hil:i < l.length:=by omega
  have hp:=hl _ (List.getElem_mem hil)
  apply Ev.succ
  simp only[post_Formed.l0]
  rw[rdT_nat l i hil,List.drop_eq_getElem_cons hil,formedF]
  have bad:∀ (x:Int) (pl:List Int),Ev (fun k=>post_Formed.j1 k l (l.length:Int) (i:Int) true x pl) false:=fun x pl=>by
   apply Ev.succ
   simp only[post_Formed.j1]
   exact Ev.if_t (by trivial) (Ev.now _)
  refine Ev.if_t (by omega) (Ev.if_t (by omega) (Ev.if_t (by omega) ?_))
  by_cases h1:l[i].f0<=doc
  .rw[decide_eq_false (by omega),Bool.false_and]
   exact Ev.if_t h1 (bad _ _)
  .rw[decide_eq_true (p:=doc < l[i].f0) (by omega),Bool.true_and]
   refine Ev.if_f h1 ?_
   by_cases h2:l[i].f0 > 4095
   .rw[decide_eq_false (by omega),Bool.false_and]
    exact Ev.if_t h2 (bad _ _)
   .rw[decide_eq_true (p:=l[i].f0<=4095) (by omega),Bool.true_and]
    refine Ev.if_f h2 ?_
    by_cases h3:l[i].f1=[]
    .rw[h3]
     exact bad _ _
    .have e3:((l[i].f1.length:Int)==0)=false:=by
      have:=List.length_pos_iff.2 h3
      simp
      exact h3
     have e4:l[i].f1.isEmpty=false:=by simpa using h3
     rw[e3,e4,Bool.not_false,Bool.true_and]
     apply Ev.succ
     simp only[post_Formed.j1]
     refine Ev.if_f (by decide) (formed_l1 l[i].f0 l i l[i].f1 hp _ (fun h=>?_) (fun h=>by rw[h,Bool.false_and]) l[i].f1.length 0 (-1) (by omega) (by rw[List.drop_zero]))
     rw[h,Bool.true_and,inc i (by omega)]
     exact formed_l0 l hl hn d (i+1) l[i].f0 (by omega)
theorem formed_ev (l:List S37) (hl:PLen l) (hn:l.length<=9223372036854775000):Ev (fun k=>post_Formed.f k l) (formedOf l):=by
 unfold post_Formed.f
 exact formed_l0 l hl hn l.length 0 (-1) (by omega)
theorem rises_l0 (l:List Int) (most:Int) (hn:l.length<=9223372036854775000):∀ (d i:Nat) (at_:Int),i+d=l.length-> -1<=at_->(0 < i->l[i - 1]? =some at_)->(i=0->at_= -1)->
  Ev (fun k=>dragnetref13_rises.l0 k l most (i:Int)) (risesF most at_ (l.drop i))
 |0,i,at_,hi,_,_,_=>by
  apply Ev.succ
  simp only[dragnetref13_rises.l0]
  rw[List.drop_of_length_le (by omega)]
  exact Ev.if_f (by omega) (Ev.now _)
 |d+1,i,at_,hi,ha,hpos,hz=>by
  have hil:i < l.length:=by omega
  apply Ev.succ
  simp only[dragnetref13_rises.l0]
  rw[rd_nat l i hil,List.drop_eq_getElem_cons hil,risesF,inc i (by omega)]
  refine Ev.if_t (by omega) (Ev.if_t (by omega) ?_)
  by_cases h1:l[i] < 0
  .rw[decide_eq_false (by omega),Bool.false_and]
   exact Ev.if_t h1 (Ev.now _)
  .refine Ev.if_f h1 ?_
   by_cases h2:l[i] > most
   .rw[decide_eq_false (p:=l[i]<=most) (by omega),Bool.false_and,Bool.and_false]
    exact Ev.if_t h2 (Ev.now _)
   .refine Ev.if_f h2 ?_
    rw[decide_eq_true (p:=l[i]<=most) (by omega),Bool.true_and]
    by_cases h0:i=0
    .subst h0
     obtain rfl:=hz rfl
     rw[decide_eq_true (p:=(-1:Int) < l[0]) (by omega),Bool.true_and]
     exact Ev.if_f (by omega) (rises_l0 l most hn d 1 l[0] (by omega) (by omega) (fun _=>List.getElem?_eq_getElem hil) (fun h=>by omega))
    .have e:l[i - 1]'(by omega)=at_:=by
      have e_:=hpos (by omega)
      rw[List.getElem?_eq_getElem (by omega)]at e_
      exact Option.some.inj e_
     have ei:wrap64 ((i:Int) - 1)=((i - 1:Nat):Int):=sub64 i 1 (by omega) (by omega)
     rw[ei,rd_nat l (i - 1) (by omega),e]
     refine Ev.if_t (by omega) (Ev.if_t (by omega) (Ev.if_t (by omega) ?_))
     by_cases h3:at_≥l[i]
     .rw[decide_eq_false (by omega),Bool.false_and]
      exact Ev.if_t h3 (Ev.now _)
     .rw[decide_eq_true (p:=at_ < l[i]) (by omega),Bool.true_and]
      exact Ev.if_f h3 (rises_l0 l most hn d (i+1) l[i] (by omega) (by omega) (fun _=>by rw[Nat.add_sub_cancel];exact List.getElem?_eq_getElem hil) (fun h=>by omega))
theorem rises_ev (l:List Int) (most:Int) (hn:l.length<=9223372036854775000):Ev (fun k=>dragnetref13_rises.f k l most) (risesF most (-1) l):=by
 unfold dragnetref13_rises.f
 exact rises_l0 l most hn l.length 0 (-1) (by omega) (by omega) (fun h=>by omega) (fun _=>rfl)
def docsOf (l:List S37):List Int:=l.map (·.f0)
theorem docs_l0 (l:List S37) (hn:l.length < 17592186044416):∀ (d i:Nat),i+d=l.length->
  Ev (fun k=>dragnetref13_Docs.l0 k l ((docsOf l).take i) (i:Int)) (docsOf l)
 |0,i,hi=>by
  apply Ev.succ
  simp only[dragnetref13_Docs.l0]
  rw[List.take_of_length_le (by unfold docsOf;simp;omega)]
  exact Ev.if_f (by omega) (Ev.now _)
 |d+1,i,hi=>by
  have hil:i < l.length:=by omega
  have ih:=docs_l0 l hn d (i+1) (by omega)
  rw[List.take_succ_eq_append_getElem (by unfold docsOf;simpa using hil),show(docsOf l)[i]'(by unfold docsOf;simpa using hil)=l[i].f0 from by simp[docsOf]]at ih
  apply Ev.succ
  simp only[dragnetref13_Docs.l0]
  rw[rdT_nat l i hil,inc i (by omega)]
  exact Ev.if_t (by omega) (Ev.if_t (by omega) (Ev.if_t (by rw[List.length_take];omega) ih))
theorem docs_ev (l:List S37) (hn:l.length < 17592186044416):Ev (fun k=>dragnetref13_Docs.f k l) (docsOf l):=by
 unfold dragnetref13_Docs.f
 have:=docs_l0 l hn l.length 0 (by omega)
 rwa [List.take_zero]at this
def placesOk (l:List S37):Bool:=l.all fun p=>(!p.f1.isEmpty) && risesF 2147483647 (-1) p.f1
theorem formedF_split:∀ (l:List S37) (at_:Int),formedF at_ l=(placesOk l && risesF 4095 at_ (docsOf l))
 |[],_=>rfl
 |p :: r,at_=>by
  have ih:=formedF_split r p.f0
  unfold placesOk docsOf at ih ⊢
  rw[formedF,ih,List.all_cons,List.map_cons,risesF]
  cases decide (at_ < p.f0)<;>cases decide (p.f0<=4095)<;>cases p.f1.isEmpty<;>cases risesF 2147483647 (-1) p.f1<;>simp
theorem ref_formed_l0 (l:List S37) (hl:PLen l) (hn:l.length < 17592186044416):∀ (d i:Nat),i+d=l.length->
  Ev (fun k=>dragnetref13_Formed.l0 k l (i:Int)) (placesOk (l.drop i) && risesF 4095 (-1) (docsOf l))
 |0,i,hi=>by
  apply Ev.succ
  simp only[dragnetref13_Formed.l0]
  rw[List.drop_of_length_le (by omega)]
  exact Ev.if_f (by omega) (Ev.bind (docs_ev l hn) (Ev.bind (rises_ev _ _ (by unfold docsOf;simp;omega)) (Ev.of_eq fun _=>by simp[placesOk])))
 |d+1,i,hi=>by
  have hil:i < l.length:=by omega
  have hp:=hl _ (List.getElem_mem hil)
  have ih:=ref_formed_l0 l hl hn d (i+1) (by omega)
  apply Ev.succ
  simp only[dragnetref13_Formed.l0]
  rw[rdT_nat l i hil,List.drop_eq_getElem_cons hil,inc i (by omega),placesOk,List.all_cons]
  unfold placesOk at ih
  refine Ev.if_t (by omega) (Ev.if_t (by omega) ?_)
  by_cases h3:l[i].f1=[]
  .rw[h3]
   exact Ev.if_t rfl (Ev.now _)
  .have:=List.length_pos_iff.2 h3
   have e4:l[i].f1.isEmpty=false:=by simpa using h3
   rw[e4,Bool.not_false,Bool.true_and]
   refine Ev.if_f (by omega) (Ev.bind (rises_ev _ _ hp) ?_)
   cases h:risesF 2147483647 (-1) l[i].f1 with
   |true=>
    rw[Bool.true_and]
    exact Ev.if_t rfl ih
   |false=>exact Ev.if_f (by decide) (Ev.now _)
theorem ref_formed_ev (l:List S37) (hl:PLen l) (hn:l.length < 17592186044416):Ev (fun k=>dragnetref13_Formed.f k l) (formedOf l):=by
 unfold dragnetref13_Formed.f formedOf
 rw[formedF_split]
 exact ref_formed_l0 l hl hn l.length 0 (by omega)
theorem wu_nat (x:Int):∃ n:Nat,n < 2 ^ 64∧IntKind.u64.wrap x=(n:Int):=by
 refine⟨(IntKind.u64.wrap x).toNat,?_,?_⟩<;>simp only[IntKind.wrap,IntKind.bits,IntKind.signed,Bool.false_and,Bool.false_eq_true,if_false]<;>omega
def un (x:Int):Nat:=(IntKind.u64.wrap x).toNat
theorem un_lt (x:Int):un x < 2 ^ 64:=by
 obtain⟨n,h,e⟩:=wu_nat x
 unfold un
 rw[e,Int.toNat_natCast]
 exact h
theorem un_eq (x:Int):IntKind.u64.wrap x=(un x:Int):=by
 obtain⟨n,h,e⟩:=wu_nat x
 unfold un
 rw[e,Int.toNat_natCast]
theorem un_small {x:Int} (h0:0<=x) (h1:x<=9223372036854775807):un x=x.toNat:=by unfold un;rw[wu64 h0 (by omega)]
def gapN (x at_:Int):Nat:=un (wrap64 (wrap64 (x - at_) - 1))
def gapsN:Int->List Int->List Nat
 |_,[]=>[]
 |at_,x :: r=>gapN x at_ :: gapsN x r
@[simp] theorem gapsN_length : ∀ (l : List Int) (at_ : Int), (gapsN at_ l).length = l.length
 | [], _ => rfl
 | x :: r, _ => by rw [gapsN, List.length_cons, List.length_cons, gapsN_length r x]
theorem lt_gapsN:∀ (l:List Int) (at_:Int),Lt64 (gapsN at_ l)
 |[],_=>fun x h=>by cases h
 |x :: r,_=>fun y h=>by
  rw[gapsN,List.mem_cons]at h
  rcases h with rfl|h
  .exact un_lt _
  .exact lt_gapsN r x y h
def cntsN (ch:List S37):List Nat:=ch.map fun p=>un (wrap64 ((p.f1.length:Int) - 1))
def plN (ch:List S37):List Nat:=ch.flatMap fun p=>gapsN (-1) p.f1
def lastD (at_:Int) (ch:List S37):Int:=(ch.getLast?.map (·.f0)).getD at_
theorem lt_cntsN (ch:List S37):Lt64 (cntsN ch):=fun x h=>by
 obtain⟨p,_,rfl⟩:=List.mem_map.1 h
 exact un_lt _
theorem lt_plN (ch:List S37):Lt64 (plN ch):=fun x h=>by
 obtain⟨p,_,h⟩:=List.mem_flatMap.1 h
 exact lt_gapsN _ _ x h
@[simp] theorem docsOf_length (l : List S37) : (docsOf l).length = l.length := by simp [docsOf]
@[simp] theorem cntsN_length (l : List S37) : (cntsN l).length = l.length := by simp [cntsN]
theorem plN_length:∀ (ch:List S37),(∀ p∈ch,p.f1.length<=4096)->(plN ch).length<=4096*ch.length
 |[],_=>Nat.le_refl _
 |p :: r,h=>by
  have ih:=plN_length r (fun q hq=>h q (List.mem_cons_of_mem _ hq))
  have h1:=h p List.mem_cons_self
  unfold plN at ih ⊢
  rw[List.flatMap_cons,List.length_append,List.length_cons,gapsN_length]
  omega
theorem inner_eq:∀ (l:List Int) (at_:Int) (acc:List Int),(l.foldl post_Put.inner (at_,acc)).2=acc++up (gapsN at_ l)
 |[],_,acc=>by simp[gapsN,up]
 |x :: r,at_,acc=>by
  rw[List.foldl_cons,gapsN,post_Put.inner,inner_eq r x]
  simp only[up,List.map_cons,List.append_assoc,List.singleton_append]
  rw[un_eq]
  rfl
theorem outer_eq:∀ (ch:List S37) (at_:Int) (d c p:List Int),ch.foldl post_Put.outer (at_,d,c,p)=(lastD at_ ch,d++up (gapsN at_ (docsOf ch)),c++up (cntsN ch),p++up (plN ch))
 |[],_,d,c,p=>by simp[lastD,gapsN,docsOf,cntsN,plN,up]
 |x :: r,at_,d,c,p=>by
  rw[List.foldl_cons,post_Put.outer,outer_eq r x.f0,inner_eq]
  have e:lastD x.f0 r=lastD at_ (x :: r):=by
   unfold lastD
   cases r with
   |nil=>rfl
   |cons y r=>rw[List.getLast?_cons_cons,List.getLast?_eq_some_getLast (List.cons_ne_nil y r)];rfl
  rw[e]
  simp only[docsOf,List.map_cons,gapsN,cntsN,plN,List.flatMap_cons,up,List.map_append,List.append_assoc,List.singleton_append,un_eq]
  rfl
theorem packed_eq (ch:List S37) (at_:Int):post_Put.packed ch at_=(lastD at_ ch,up (gapsN at_ (docsOf ch)),up (cntsN ch),up (plN ch)):=by
 unfold post_Put.packed
 rw[outer_eq]
 rfl
def bodyP (at_:Int) (ch:List S37):List Int:=blockOf (gapsN at_ (docsOf ch))++(blockOf (cntsN ch)++listOf (plN ch).length (plN ch))
def blkP (at_:Int) (ch:List S37):List Int:=numEnc (un (lastD at_ ch))++(numEnc (bodyP at_ ch).length++bodyP at_ ch)
structure Chunk (ch:List S37):Prop where
 pos:1<=ch.length
 le:ch.length<=32
 pl:∀ p∈ch,p.f1.length<=4096
theorem Chunk.np {ch:List S37} (h:Chunk ch):(plN ch).length<=131072:=by
 have:=plN_length ch h.pl
 have:=h.le
 omega
theorem bodyP_len {ch:List S37} (h:Chunk ch) (at_:Int):(bodyP at_ ch).length<=100000000:=by
 have h1:=length_blockOf_le (lt_gapsN (docsOf ch) at_) (by simpa using h.le)
 have h2:=length_blockOf_le (lt_cntsN ch) (by simpa using h.le)
 have h3:=listOf_len (m:=(plN ch).length) (lt_plN ch) (by have:=h.np;omega)
 have h4:=h.np
 unfold bodyP
 rw[List.length_append,List.length_append]
 omega
theorem in_bodyP {ch:List S37} (h:Chunk ch) (at_:Int):B8 (bodyP at_ ch):=
 In.append (in_blockOf (lt_gapsN _ _) (by simpa using h.le)) (In.append (in_blockOf (lt_cntsN _) (by simpa using h.le)) (in_listOf (lt_plN _) (by have:=h.np;omega)))
theorem blkP_len {ch:List S37} (h:Chunk ch) (at_:Int):(blkP at_ ch).length<=100000100:=by
 have h1:=bodyP_len h at_
 have h2:=length_numEnc_le (un_lt (lastD at_ ch))
 have h3:=length_numEnc_le (v:=(bodyP at_ ch).length) (by omega)
 unfold blkP
 rw[List.length_append,List.length_append]
 omega
theorem in_blkP {ch:List S37} (h:Chunk ch) (at_:Int):B8 (blkP at_ ch):=by
 have h1:=bodyP_len h at_
 exact In.append (in_numEnc (un_lt _)) (In.append (in_numEnc (by omega)) (in_bodyP h at_))
theorem step_ev (out:List Int) (ho:out.length<=140737000000000) {ch:List S37} (h:Chunk ch) (at_:Int):Ev (fun k=>post_Put.step k out at_ ch) (out++blkP at_ ch,lastD at_ ch):=by
 have hb:=bodyP_len h at_
 have h4:=h.np
 unfold post_Put.step
 rw[packed_eq]
 dsimp only
 have h1:=putBlock_ok [] (by simp) (lt_gapsN (docsOf ch) at_) (by simpa using h.pos) (by simpa using h.le)
 rw[List.nil_append]at h1
 have hl1:=length_blockOf_le (lt_gapsN (docsOf ch) at_) (by simpa using h.le)
 have hl2:=length_blockOf_le (lt_cntsN ch) (by simpa using h.le)
 refine Ev.bind h1 (Ev.if_t rfl (Ev.bind (putBlock_ok _ (by dsimp only;omega) (lt_cntsN ch) (by simpa using h.pos) (by simpa using h.le)) (Ev.if_t rfl ?_)))
 rw[un_eq]
 have hn:=length_numEnc_le (un_lt (lastD at_ ch))
 refine Ev.bind (put_ev out (by omega) (un_lt _)) (Ev.bind (putList_ev _ (In.append (in_blockOf (lt_gapsN _ _) (by simpa using h.le)) (in_blockOf (lt_cntsN _) (by simpa using h.le))) (lt_plN ch) (m:=(plN ch).length) (by omega) (by rw[List.length_append];omega)) ?_)
 have e:blockOf (gapsN at_ (docsOf ch))++blockOf (cntsN ch)++listOf (plN ch).length (plN ch)=bodyP at_ ch:=by unfold bodyP;rw[List.append_assoc]
 rw[e]
 refine Ev.bind (putRow_ev _ _ (by rw[List.length_append];omega)) ?_
 have e2:out++numEnc (un (lastD at_ ch))++numEnc (bodyP at_ ch).length++bodyP at_ ch=out++blkP at_ ch:=by unfold blkP;simp only[List.append_assoc]
 rw[e2]
 exact Ev.now _
def blksP:Nat->Int->List S37->List Int
 |0,_,_=>[]
 |m+1,at_,l=>if l.length=0 then[]else blkP at_ (l.take 32)++blksP m (lastD at_ (l.take 32)) (l.drop 32)
def bytesP (l:List S37):List Int:=numEnc l.length++blksP l.length (-1) l
def PL (l:List S37):Prop:=∀ p∈l,p.f1.length<=4096
theorem PL.take {l:List S37} (h:PL l) (n:Nat):PL (l.take n):=fun p hp=>h p (List.mem_of_mem_take hp)
theorem PL.drop {l:List S37} (h:PL l) (n:Nat):PL (l.drop n):=fun p hp=>h p (List.mem_of_mem_drop hp)
theorem chunkP {l:List S37} (h:PL l) (h0: ¬ l.length=0):Chunk (l.take 32):=⟨by rw[List.length_take];omega,by rw[List.length_take];omega,h.take 32⟩
theorem in_blksP:∀ (m:Nat) (at_:Int) (l:List S37),PL l->B8 (blksP m at_ l)
 |0,_,_,_=>In.nil _
 |m+1,at_,l,h=>by
  rw[blksP]
  by_cases h0:l.length=0
  .rw[if_pos h0];exact In.nil _
  .rw[if_neg h0]
   exact In.append (in_blkP (chunkP h h0) at_) (in_blksP m _ _ (h.drop 32))
theorem in_bytesP {l:List S37} (h:PL l) (hn:l.length<=4096):B8 (bytesP l):=In.append (in_numEnc (by omega)) (in_blksP _ _ _ h)
theorem put_l0_ev:∀ (m:Nat) (l:List S37) (out:List Int) (at_:Int),PL l->l.length<=32*m->out.length+100000100*l.length<=140737000000000->Ev (fun k=>post_Put.l0 k out at_ l) (out++blksP m at_ l)
 |0,l,out,at_,h,hm,ho=>by
  apply Ev.succ
  simp only[post_Put.l0]
  rw[blksP,List.append_nil]
  exact Ev.if_t (by omega) (Ev.now _)
 |m+1,l,out,at_,h,hm,ho=>by
  apply Ev.succ
  simp only[post_Put.l0]
  rw[blksP]
  by_cases h0:l.length=0
  .rw[if_pos h0,List.append_nil]
   exact Ev.if_t h0 (Ev.now _)
  .rw[if_neg h0]
   have h1:=blkP_len (chunkP h h0) at_
   refine Ev.if_f h0 (Ev.bind (step_ev out (by omega) (chunkP h h0) at_) ?_)
   have ih:=put_l0_ev m (l.drop 32) (out++blkP at_ (l.take 32)) (lastD at_ (l.take 32)) (h.drop 32) (by rw[List.length_drop];omega) (by rw[List.length_append,List.length_drop];omega)
   rw[List.append_assoc]at ih
   exact ih
theorem put_ok {b:List Int} {l:List S37} (h:PL l) (hn:l.length<=1000) (hb:b.length<=1000000000000):post_Put.Ok b l:=by
 refine⟨by omega,h,fun acc at_ ha hal j hj=>?_⟩
 have hc:Chunk (post_Put.chunk l j):=by
  unfold post_Put.chunk
  exact⟨by simp;omega,by simp;omega,(h.drop _).take _⟩
 obtain⟨k,hk⟩:=(step_ev acc (by omega) hc at_).rounds
 refine⟨k,_,hk,In.append ha (in_blkP hc at_),?_⟩
 have:=blkP_len hc at_
 rw[List.length_append]
 omega
theorem putP_ev (b:List Int) (hB:B8 b) {l:List S37} (h:PL l) (hn:l.length<=1000) (hb:b.length<=1000000000000):Ev (fun k=>post_Put.f k b l) (if formedOf l then(b++bytesP l,0)else([],1)):=by
 have hl:l.length < 2 ^ 64:=by omega
 have h9:=length_numEnc_le hl
 refine Ev.fn (f:=fun k=>(post_Formed.f k l).bind fun ok=>if ok=true then(num_Put.f k b (l.length:Int)).bind fun t=>if(∀ x∈t,0<=x∧x<=255)∧t.length<=b.length+1000 then(post_Put.l0 k t (-1) l).bind fun r=>some (r,0)else none else some ([],1)) ?_ (fun k=>?_)
 .refine Ev.bind (formed_ev l (fun p hp=>by have:=h p hp;omega) (by omega)) ?_
  cases formedOf l with
  |false=>exact Ev.if_f (by decide) (Ev.of_eq fun _=>rfl)
  |true=>
   refine Ev.if_t rfl (Ev.bind (put_ev b (by omega) hl) (Ev.if_t ⟨In.append hB (in_numEnc hl),by rw[List.length_append];omega⟩ ?_))
   have h0:=put_l0_ev l.length l (b++numEnc l.length) (-1) h (by omega) (by rw[List.length_append];omega)
   rw[List.append_assoc]at h0
   exact Ev.bind h0 (Ev.now _)
 .unfold post_Put.f
  congr 1
  funext ok
  rw[if_pos (put_ok h hn hb)]
  cases ok with
  |false=>rfl
  |true=>
   simp only[if_true]
   congr 1
   funext t
   by_cases ht:(∀ x∈t,0<=x∧x<=255)∧t.length<=b.length+1000
   .rw[if_pos ht,if_pos ht]
   .rw[if_neg ht,if_neg ht]
theorem lastD_get {ch:List S37} (h:1<=ch.length) (at_:Int):lastD at_ ch=(ch[ch.length - 1]'(by omega)).f0:=by
 unfold lastD
 rw[List.getLast?_eq_getElem?,List.getElem?_eq_getElem (by omega)]
 rfl
def placesF:Int->List Nat->List Int
 |_,[]=>[]
 |at_,g :: r=>(at_+g+1) :: placesF (at_+g+1) r
def tooFar (l:List Nat):Bool:=l.any fun x=>decide (2147483647 < x)
def postsF:List Nat->List Nat->List Nat->Int->Option (List S37×List Nat×Int)
 |[],_,pl,at_=>some ([],pl,at_)
 |_ :: _,[],_,_=>none
 |g :: ds,c :: cs,pl,at_=>if 4095 < g∨pl.length<=c then none else if tooFar (pl.take (c+1))=true then none else
   (postsF ds cs (pl.drop (c+1)) (at_+g+1)).map fun r=>(⟨at_+g+1,placesF (-1) (pl.take (c+1))⟩ :: r.1,r.2)
theorem placesF_length:∀ (l:List Nat) (at_:Int),(placesF at_ l).length=l.length
 |[],_=>rfl
 |g :: r,at_=>by rw[placesF,List.length_cons,List.length_cons,placesF_length r]
theorem postsF_len:∀ (ds cs pl:List Nat) (at_:Int) (l:List S37) (rest:List Nat) (z:Int),postsF ds cs pl at_=some (l,rest,z)->l.length=ds.length∧(∀ p∈l,p.f1.length<=pl.length)∧z=lastD at_ l
 |[],cs,pl,at_,l,rest,z,h=>by
  simp only[postsF,Option.some.injEq,Prod.mk.injEq]at h
  obtain⟨rfl,rfl,rfl⟩:=h
  exact⟨rfl,fun p hp=>(by cases hp),rfl⟩
 |_ :: _,[],pl,at_,l,rest,z,h=>by simp[postsF]at h
 |g :: ds,c :: cs,pl,at_,l,rest,z,h=>by
  rw[postsF]at h
  by_cases h1:4095 < g∨pl.length<=c
  .rw[if_pos h1]at h;cases h
  rw[if_neg h1]at h
  by_cases h2:tooFar (pl.take (c+1))=true
  .rw[if_pos h2]at h;cases h
  rw[if_neg h2]at h
  obtain⟨⟨l2,rest2,z2⟩,h3,h4⟩:=Option.map_eq_some_iff.1 h
  simp only[Prod.mk.injEq]at h4
  obtain⟨rfl,rfl,rfl⟩:=h4
  obtain⟨i1,i2,i3⟩:=postsF_len ds cs _ _ l2 rest2 z2 h3
  refine⟨by simp[i1],fun p hp=>?_,?_⟩
  .rcases List.mem_cons.1 hp with rfl|hp
   .rw[placesF_length];simp
    omega
   .have:=i2 p hp
    rw[List.length_drop]at this
    omega
  .rw[i3]
   unfold lastD
   cases l2 with
   |nil=>rfl
   |cons y r=>rw[List.getLast?_cons_cons,List.getLast?_eq_some_getLast (List.cons_ne_nil y r)];rfl
def finP (at_ last:Int) (acc:List S37) (ds cs pl:List Nat):List S37×Bool:=
 match postsF ds cs pl at_ with
 |none=>([],false)
 |some (l,rest,z)=>(acc++l,rest.isEmpty && (decide (z=last) && formedOf (acc++l)))
def unpackOf' (b:List Int) (n at_ last:Int):List S37×Bool:=
 if(takeB true b).2.2=0∧((takeB true b).1.length:Int)=n then
  (if (takeB true (b.drop (takeB true b).2.1.toNat)).2.2 = 0 ∧ ((takeB true (b.drop (takeB true b).2.1.toNat)).1.length : Int) = n then
   (if (takeLOf (b.drop ((takeB true b).2.1 + (takeB true (b.drop (takeB true b).2.1.toNat)).2.1).toNat) (64 * (b.length : Int))).2.2 = 0 ∧
     (takeB true b).2.1+(takeB true (b.drop (takeB true b).2.1.toNat)).2.1+(takeLOf (b.drop ((takeB true b).2.1+(takeB true (b.drop (takeB true b).2.1.toNat)).2.1).toNat) (64*(b.length:Int))).2.1=(b.length:Int)then
    finP at_ last [] ((takeB true b).1.map Int.toNat) ((takeB true (b.drop (takeB true b).2.1.toNat)).1.map Int.toNat) ((takeLOf (b.drop ((takeB true b).2.1+(takeB true (b.drop (takeB true b).2.1.toNat)).2.1).toNat) (64*(b.length:Int))).1.map Int.toNat)
   else ([], false))
  else ([], false))
 else([],false)
theorem tooFar_cons (x:Nat) (l:List Nat):tooFar (x :: l)=(decide (2147483647 < x) || tooFar l):=rfl
theorem unpack_l1 (cs:List Nat) (pl ds:List Nat) (acc:List S37) (dn:Int) (i:Nat) (n ah last:Int) (b:List Int) (q4:Int) (c:Nat) (hc:cs[i]? =some c) (hcp:c < pl.length) (hpl:pl.length<=1000000000) (hi:i<=1000) (ha:acc.length<=1000) (r:List S37×Bool)
  (hbad:tooFar (pl.take (c+1))=true->r=([],false)) (hgood:tooFar (pl.take (c+1))=false->Ev (fun k=>post_unpack.l0 k (up cs) (up (pl.drop (c+1))) (acc++[⟨dn,placesF (-1) (pl.take (c+1))⟩]) dn (up ds) (ds.length:Int) ((i+1:Nat):Int) n ah last b q4) r):
  ∀ (d j:Nat) (at_:Int) (pls:List Int),j+d=c+1->pls.length=j-> -1<=at_->at_<=2147483648*(j:Int)->placesF (-1) (pl.take (c+1))=pls++placesF at_ ((pl.take (c+1)).drop j)->tooFar (pl.take (c+1))=tooFar ((pl.take (c+1)).drop j)->
   Ev (fun k=>post_unpack.l1 k (up cs) (up pl) acc dn (i:Int) at_ (up ds) (ds.length:Int) (i:Int) (up (pl.take (c+1))) ((up (pl.take (c+1))).length:Int) (j:Int) n ah last b q4 dn pls) r
 |0,j,at_,pls,hj,hpn,h0,h1,he,ht=>by
  have hyl:(pl.take (c+1)).length=c+1:=by rw[List.length_take];omega
  have hil:i < cs.length:=(List.getElem?_eq_some_iff.1 hc).1
  have hci:cs[i]=c:=(List.getElem?_eq_some_iff.1 hc).2
  apply Ev.succ
  simp only[post_unpack.l1]
  rw[List.drop_of_length_le (by omega)]at he ht
  rw[placesF,List.append_nil]at he
  subst he
  rw[rd_up cs i hil,hci,wu64 (x:=(c:Int)+1) (by omega) (by omega),inc i (by omega),up_drop]
  have g:=hgood ht
  refine Ev.if_f (by rw[up_length,hyl];omega) (Ev.if_t (by omega) (Ev.if_t (by simpa using hil) (Ev.if_t (by omega) (Ev.if_t (by simp;omega) (Ev.if_t (by omega) ?_)))))
  exact g
 |d+1,j,at_,pls,hj,hpn,h0,h1,he,ht=>by
  have hyl:(pl.take (c+1)).length=c+1:=by rw[List.length_take];omega
  have hjl:j < (pl.take (c+1)).length:=by omega
  rw[List.drop_eq_getElem_cons hjl]at he ht
  rw[placesF]at he
  rw[tooFar_cons]at ht
  apply Ev.succ
  simp only[post_unpack.l1]
  rw[rd_up _ j hjl,inc j (by omega)]
  refine Ev.if_t (by rw[up_length];omega) (Ev.if_t (by omega) (Ev.if_t (by rw[up_length];omega) ?_))
  obtain⟨g,hg⟩:∃ g,(pl.take (c+1))[j]=g:=⟨_,rfl⟩
  rw[hg]at he ht ⊢
  by_cases hx:2147483647 < g
  .rw[decide_eq_true hx,Bool.true_or]at ht
   obtain rfl:=hbad ht
   exact Ev.if_t (by omega) (Ev.now _)
  .rw[decide_eq_false hx,Bool.false_or]at ht
   rw[w64 (x:=(g:Int)) (by omega) (by omega),w64 (x:=(g:Int)+1) (by omega) (by omega),w64 (x:=at_+((g:Int)+1)) (by omega) (by omega),show at_+((g:Int)+1)=at_+g+1 by omega]
   refine Ev.if_f (by omega) (Ev.if_t (by omega) (unpack_l1 cs pl ds acc dn i n ah last b q4 c hc hcp hpl hi ha r hbad hgood d (j+1) (at_+g+1) (pls++[at_+g+1]) (by omega) (by simp;omega) (by omega) (by omega) ?_ ht))
   rw[he,List.append_assoc]
   rfl
theorem unpack_l0 (cs ds:List Nat) (hd:ds.length<=32) (hcl:cs.length=ds.length) (hcn:Lt64 cs) (n ah last:Int) (b:List Int) (q4:Int):∀ (m i:Nat) (pl:List Nat) (acc:List S37) (at_:Int),i+m=ds.length->acc.length=i->pl.length<=1000000000->
    (∀ p∈acc,p.f1.length<=1000000000)-> -1000000<=at_->at_<=1000000+4096*(i:Int)->
    Ev (fun k=>post_unpack.l0 k (up cs) (up pl) acc at_ (up ds) (ds.length:Int) (i:Int) n ah last b q4) (finP at_ last acc (ds.drop i) (cs.drop i) pl)
  |0,i,pl,acc,at_,hi,hal,hpl,hap,h0,h1=>by
    apply Ev.succ
    simp only[post_unpack.l0,finP]
    rw[List.drop_of_length_le (by omega),postsF]
    simp only[List.append_nil]
    refine Ev.if_f (by omega) ?_
    by_cases hp:pl=[]
    . subst hp
      refine Ev.if_t rfl ?_
      by_cases hz:at_=last
      . rw[decide_eq_true hz,Bool.true_and]
        exact Ev.if_t hz (Ev.bind (formed_ev acc (fun p hp=>by have:=hap p hp;omega) (by omega)) (Ev.of_eq fun _=>by simp))
      . rw[decide_eq_false hz,Bool.false_and]
        exact Ev.if_f hz (Ev.of_eq fun _=>by simp)
    . have:pl.isEmpty=false:=by simpa using hp
      rw[this,Bool.false_and]
      have:=List.length_pos_iff.2 hp
      exact Ev.if_f (by rw[up_length];omega) (Ev.now _)
  |m+1,i,pl,acc,at_,hi,hal,hpl,hap,h0,h1=>by
    have hid:i < ds.length:=by omega
    have hic:i < cs.length:=by omega
    have hlt:=hcn.get i hic
    obtain⟨g,hg⟩:∃ g,ds[i]=g:=⟨_,rfl⟩
    obtain⟨c,hc⟩:∃ c,cs[i]=c:=⟨_,rfl⟩
    have bad:∀ x:Int,Ev (fun k=>post_unpack.j4 k (up cs) (up pl) acc at_ (i:Int) x (up ds) (ds.length:Int) (i:Int) true n ah last b q4) ([],false):=fun x=>by
      apply Ev.succ
      simp only[post_unpack.j4]
      exact Ev.if_t (by trivial) (Ev.now _)
    apply Ev.succ
    simp only[post_unpack.l0,finP]
    rw[rd_up ds i hid,rd_up cs i hic,List.drop_eq_getElem_cons hid,List.drop_eq_getElem_cons hic,postsF,up_length pl,wu64 (x:=(pl.length:Int)) (by omega) (by omega)]
    rw[hg]
    rw[hc]at hlt ⊢
    refine Ev.if_t (by omega) (Ev.if_t (by omega) (Ev.if_t (by rw[up_length];omega) ?_))
    by_cases h2:4095 < g
    . rw[if_pos (Or.inl h2)]
      exact Ev.if_t (by omega) (bad _)
    . refine Ev.if_f (by omega) (Ev.if_t (by rw[up_length];omega) ?_)
      by_cases h3:pl.length<=c
      . rw[if_pos (Or.inr h3),decide_eq_true (by omega)]
        exact bad _
      . rw[if_neg (by omega),decide_eq_false (by omega)]
        apply Ev.succ
        simp only[post_unpack.j4]
        rw[rd_up cs i hic,hc,wu64 (x:=(c:Int)+1) (by omega) (by omega),show((c:Int)+1).toNat=c+1 by omega,up_take,w64 (x:=(g:Int)) (by omega) (by omega),w64 (x:=(g:Int)+1) (by omega) (by omega),w64 (x:=at_+((g:Int)+1)) (by omega) (by omega),show at_+((g:Int)+1)=at_+g+1 by omega]
        refine Ev.if_f (by decide) (Ev.if_t (by omega) (Ev.if_t (by rw[up_length];omega) (Ev.if_t (by omega) (Ev.if_t (by rw[up_length];omega) (Ev.bind (Ev.now _) ?_)))))
        refine unpack_l1 cs pl ds acc (at_+g+1) i n ah last b q4 c (by rw[List.getElem?_eq_getElem hic,hc]) (by omega) hpl (by omega) (by omega) _ (fun h=>?_) (fun h=>?_) (c+1) 0 (-1) [] (by omega) rfl (by omega) (by omega) (by rw[List.drop_zero,List.nil_append]) (by rw[List.drop_zero])
        . rw[if_pos h]
        . rw[if_neg (by rw[h];decide)]
          have ih:=unpack_l0 cs ds hd hcl hcn n ah last b q4 m (i+1) (pl.drop (c+1)) (acc++[⟨at_+g+1,placesF (-1) (pl.take (c+1))⟩]) (at_+g+1) (by omega) (by simp;omega) (by rw[List.length_drop];omega)
            (fun p hp => by
              rcases List.mem_append.1 hp with hp|hp
              . exact hap p hp
              . obtain rfl:=List.mem_singleton.1 hp
                rw[placesF_length,List.length_take]
                omega) (by omega) (by omega)
          have e:finP (at_+g+1) last (acc++[⟨at_+g+1,placesF (-1) (pl.take (c+1))⟩]) (ds.drop (i+1)) (cs.drop (i+1)) (pl.drop (c+1))=
              (match (postsF (ds.drop (i + 1)) (cs.drop (i + 1)) (pl.drop (c + 1)) (at_ + g + 1)).map fun r => (({ f0 := at_ + g + 1, f1 := placesF (-1) (pl.take (c + 1)) } : S37) :: r.1, r.2) with
                |none=>([],false)
                | some (l, rest, z) => (acc ++ l, rest.isEmpty && (decide (z = last) && formedOf (acc ++ l)))) := by
            unfold finP
            cases postsF (ds.drop (i+1)) (cs.drop (i+1)) (pl.drop (c+1)) (at_+g+1)with
            |none=>rfl
            |some x=>
              obtain⟨l,rest,z⟩:=x
              simp only[Option.map_some,List.append_assoc,List.singleton_append]
          rw[e]at ih
          exact ih
theorem map_up (ns:List Nat):(up ns).map Int.toNat=ns:=up_toNat ns
theorem unpackP_ev (b:List Int) (hB:B8 b) (hbl:b.length<=10000000) (n at_ last q4:Int) (_:n<=32) (h0: -1000000<=at_) (h1:at_<=1000000):Ev (fun k=>post_unpack.f k n at_ last b q4) (unpackOf' b n at_ last):=by
 have bad0:∀ (c:List Int) (z:Int),Ev (fun k=>post_unpack.j0 k c z true n at_ last b q4) ([],false):=fun c z=>by
  apply Ev.succ
  simp only[post_unpack.j0]
  exact Ev.if_t (by trivial) (Ev.now _)
 have bad1:∀ (c:List Int) (z:Int) (c2:List Int) (z2:Int),Ev (fun k=>post_unpack.j1 k c z c2 z2 true n at_ last b q4) ([],false):=fun c z c2 z2=>by
  apply Ev.succ
  simp only[post_unpack.j1]
  exact Ev.if_t (by trivial) (Ev.now _)
 have bad2:∀ (c c2 c3:List Int),Ev (fun k=>post_unpack.j2 k c c2 c3 true n at_ last b q4) ([],false):=fun c c2 c3=>by
  apply Ev.succ
  simp only[post_unpack.j2]
  exact Ev.if_t (by trivial) (Ev.now _)
 unfold post_unpack.f unpackOf'
 refine Ev.bind (takeBlock_ev b hB (by omega)) ?_
 rcases takeB_spec hB with e|⟨ds,z,e,hd,d1,d32,hz,_,hz4⟩
 .rw[e]
  rw[if_neg (fun h=>absurd h.1 (by decide))]
  exact Ev.if_f (by decide) (bad0 _ _)
 rw[e]
 simp only[up_length,Int.toNat_natCast]
 refine Ev.if_t (by trivial) ?_
 by_cases hdn:(ds.length:Int)=n
 case neg=>
  rw[if_neg (fun h=>hdn h.2),show((ds.length:Int) != n)=true by simpa using hdn]
  exact bad0 _ _
 rw[if_pos ⟨by trivial,hdn⟩,show((ds.length:Int) != n)=false by simpa using hdn]
 apply Ev.succ
 simp only[post_unpack.j0]
 rw[Int.toNat_natCast]
 refine Ev.if_f (by decide) (Ev.if_t (by omega) (Ev.if_t (by omega) (Ev.bind (takeBlock_ev _ (hB.drop z) (by rw[List.length_drop];omega)) ?_)))
 rcases takeB_spec (hB.drop z)with e2|⟨cs,z2,e2,hc,c1,c32,hz2,_,_⟩
 .rw[e2]
  rw[if_neg (fun h=>absurd h.1 (by decide))]
  exact Ev.if_f (by decide) (bad1 _ _ _ _)
 rw[e2]
 rw[List.length_drop]at hz2
 simp only[up_length]
 refine Ev.if_t (by trivial) ?_
 by_cases hcn:(cs.length:Int)=n
 case neg=>
  rw[if_neg (fun h=>hcn h.2),show((cs.length:Int) != n)=true by simpa using hcn]
  exact bad1 _ _ _ _
 rw[if_pos ⟨by trivial,hcn⟩,show((cs.length:Int) != n)=false by simpa using hcn]
 apply Ev.succ
 simp only[post_unpack.j1]
 rw[add64 z z2 (by omega),w64 (x:=64*(b.length:Int)) (by omega) (by omega),Int.toNat_natCast,show((z:Int)+(z2:Int)).toNat=z+z2 by omega]
 refine Ev.if_f (by decide) (Ev.if_t (by omega) (Ev.if_t (by omega) (Ev.bind (takeList_ev _ (hB.drop _) (by rw[List.length_drop];omega) _ (by omega)) ?_)))
 rcases takeLOf_spec (b.drop (z+z2)) (hB.drop _) (64*(b.length:Int))with ⟨x,hx,e3⟩|⟨pl,z3,e3,hp,hpm,hz3,_,hp32⟩
 .rw[e3]
  have hx0: ¬ x=0:=by omega
  rw[if_neg (fun h=>hx0 h.1)]
  exact Ev.if_f hx0 (bad2 _ _ _)
 rw[e3]
 rw[List.length_drop]at hz3
 simp only[]
 refine Ev.if_t (by trivial) ?_
 rw[show wrap64 (((z+z2:Nat):Int)+(z3:Int))=((z+z2+z3:Nat):Int) from add64 (z+z2) z3 (by omega)]
 by_cases hs:z+z2+z3=b.length
 case neg=>
  rw[if_neg (fun h=>hs (by omega)),show(((z+z2+z3:Nat):Int) != (b.length:Int))=true by simp;omega]
  exact bad2 _ _ _
 rw[if_pos ⟨by trivial,by omega⟩,show(((z+z2+z3:Nat):Int) != (b.length:Int))=false by simp;omega]
 apply Ev.succ
 simp only[post_unpack.j2,map_up]
 refine Ev.if_f (by decide) (Ev.if_t (by omega) (Ev.if_t (by omega) ?_))
 have:=unpack_l0 cs ds d32 (by omega) hc n at_ last b q4 ds.length 0 pl [] at_ (by omega) rfl (by omega) (fun p hp=>by cases hp) h0 (by omega)
 rw[List.drop_zero,List.drop_zero]at this
 rw[up_length,List.replicate_zero]
 exact this
theorem finP_cons {at_ last:Int} {acc:List S37} {g c:Nat} {ds cs pl:List Nat} (h1: ¬ 4095 < g) (h2: ¬ pl.length<=c) (h3:tooFar (pl.take (c+1))=false):
  finP at_ last acc (g :: ds) (c :: cs) pl=finP (at_+g+1) last (acc++[⟨at_+g+1,placesF (-1) (pl.take (c+1))⟩]) ds cs (pl.drop (c+1)):=by
 unfold finP
 rw[postsF,if_neg (by omega),if_neg (by rw[h3];decide)]
 cases postsF ds cs (pl.drop (c+1)) (at_+g+1)with
 |none=>rfl
 |some x=>
  obtain⟨l,rest,z⟩:=x
  simp only[Option.map_some,List.append_assoc,List.singleton_append]
theorem finP_bad {at_ last:Int} {acc:List S37} {g c:Nat} {ds cs pl:List Nat} (h:4095 < g∨pl.length<=c∨tooFar (pl.take (c+1))=true):finP at_ last acc (g :: ds) (c :: cs) pl=([],false):=by
 unfold finP
 rw[postsF]
 by_cases h1:4095 < g∨pl.length<=c
 .rw[if_pos h1]
 .rw[if_neg h1,if_pos (by rcases h with h|h|h<;>first|exact h|(exact absurd (Or.inl h) h1)|(exact absurd (Or.inr h) h1))]
theorem refread_l1 (cs:List Nat) (pl ds:List Nat) (acc:List S37) (dn:Int) (i:Nat) (n last:Int) (b:List Int) (c:Nat) (hc:cs[i]? =some c) (hcp:c < pl.length) (hpl:pl.length<=1000000000) (hi:i<=1000) (ha:acc.length<=1000) (r:List S37×Bool)
  (hbad:tooFar (pl.take (c+1))=true->r=([],false)) (hgood:tooFar (pl.take (c+1))=false->Ev (fun k=>dragnetref13_read.l0 k n dn (up ds) (up cs) (up (pl.drop (c+1))) (acc++[⟨dn,placesF (-1) (pl.take (c+1))⟩]) ((i+1:Nat):Int) last b) r):
  ∀ (d j:Nat) (at_:Int) (pls:List Int),j+d=c+1->pls.length=j-> -1<=at_->at_<=2147483648*(j:Int)->placesF (-1) (pl.take (c+1))=pls++placesF at_ ((pl.take (c+1)).drop j)->tooFar (pl.take (c+1))=tooFar ((pl.take (c+1)).drop j)->
   Ev (fun k=>dragnetref13_read.l1 k n dn (up ds) (up cs) (up pl) acc (i:Int) at_ (j:Int) last b dn pls) r
 |0,j,at_,pls,hj,hpn,h0,h1,he,ht=>by
  have hyl:(pl.take (c+1)).length=c+1:=by rw[List.length_take];omega
  have hil:i < cs.length:=(List.getElem?_eq_some_iff.1 hc).1
  have hci:cs[i]=c:=(List.getElem?_eq_some_iff.1 hc).2
  apply Ev.succ
  simp only[dragnetref13_read.l1]
  rw[List.drop_of_length_le (by omega)]at he ht
  rw[placesF,List.append_nil]at he
  subst he
  rw[rd_up cs i hil,hci,wu64 (x:=(c:Int)+1) (by omega) (by omega),inc i (by omega),up_drop,show((c:Int)+1).toNat=c+1 by omega]
  have g:=hgood ht
  exact Ev.if_t (by omega) (Ev.if_t (by simpa using hil) (Ev.if_f (by omega) (Ev.if_t (by omega) (Ev.if_t (by simp;omega) (Ev.if_t (by omega) g)))))
 |d+1,j,at_,pls,hj,hpn,h0,h1,he,ht=>by
  have hyl:(pl.take (c+1)).length=c+1:=by rw[List.length_take];omega
  have hjl:j < (pl.take (c+1)).length:=by omega
  have hil:i < cs.length:=(List.getElem?_eq_some_iff.1 hc).1
  have hci:cs[i]=c:=(List.getElem?_eq_some_iff.1 hc).2
  have hjp:j < pl.length:=by omega
  rw[List.drop_eq_getElem_cons hjl]at he ht
  rw[placesF]at he
  rw[tooFar_cons]at ht
  rw[List.getElem_take]at he ht
  apply Ev.succ
  simp only[dragnetref13_read.l1]
  rw[rd_up cs i hil,hci,rd_up pl j hjp,wu64 (x:=(j:Int)+1) (by omega) (by omega)]
  refine Ev.if_t (by omega) (Ev.if_t (by simpa using hil) (Ev.if_t (by omega) (Ev.if_t (by omega) (Ev.if_t (by simpa using hjp) ?_))))
  obtain⟨g,hg⟩:∃ g,pl[j]=g:=⟨_,rfl⟩
  rw[hg]at he ht ⊢
  by_cases hx:2147483647 < g
  .rw[decide_eq_true hx,Bool.true_or]at ht
   obtain rfl:=hbad ht
   exact Ev.if_t (by omega) (Ev.now _)
  .rw[decide_eq_false hx,Bool.false_or]at ht
   rw[w64 (x:=(g:Int)) (by omega) (by omega),w64 (x:=at_+1) (by omega) (by omega),w64 (x:=at_+1+(g:Int)) (by omega) (by omega),show at_+1+(g:Int)=at_+g+1 by omega,show(j:Int)+1=((j+1:Nat):Int) by omega]
   refine Ev.if_f (by omega) (Ev.if_t (by omega) (refread_l1 cs pl ds acc dn i n last b c hc hcp hpl hi ha r hbad hgood d (j+1) (at_+g+1) (pls++[at_+g+1]) (by omega) (by simp;omega) (by omega) (by omega) ?_ ht))
   rw[he,List.append_assoc]
   rfl
theorem refread_l0 (cs ds:List Nat) (hd:ds.length<=32) (hd1:1<=ds.length) (hcl:cs.length=ds.length) (hcn:Lt64 cs) (last:Int) (b:List Int):∀ (m i:Nat) (pl:List Nat) (acc:List S37) (at_:Int),i+m=ds.length->acc.length=i->pl.length<=1000000000->
    (∀ p∈acc,p.f1.length<=1000000000)-> -1000000<=at_->at_<=1000000+4096*(i:Int)->(0 < i->lastD 0 acc=at_)->
    Ev (fun k=>dragnetref13_read.l0 k (ds.length:Int) at_ (up ds) (up cs) (up pl) acc (i:Int) last b) (finP at_ last acc (ds.drop i) (cs.drop i) pl)
  |0,i,pl,acc,at_,hi,hal,hpl,hap,h0,h1,hla=>by
    apply Ev.succ
    simp only[dragnetref13_read.l0,finP]
    rw[List.drop_of_length_le (by omega),postsF]
    simp only[List.append_nil]
    refine Ev.if_f (by omega) ?_
    by_cases hp:pl=[]
    . subst hp
      refine Ev.if_t rfl (Ev.bind (ref_formed_ev acc (fun p hp=>by have:=hap p hp;omega) (by omega)) ?_)
      have e:=hla (by omega)
      rw[lastD_get (by omega)]at e
      cases hf:formedOf acc with
      |false=>exact Ev.if_f (by decide) (Ev.of_eq fun _=>by simp)
      |true=>
        rw[show wrap64 ((ds.length:Int) - 1)=((ds.length - 1:Nat):Int) from sub64 ds.length 1 (by omega) (by omega),rdT_nat acc (ds.length - 1) (by omega)]
        refine Ev.if_t rfl (Ev.if_t (by omega) (Ev.if_t (by omega) (Ev.of_eq fun _=>?_)))
        have e2:(acc[ds.length - 1]'(by omega)).f0=at_:=by rw[<- e];congr 2;omega
        rw[e2]
        simp
        rfl
    . have:pl.isEmpty=false:=by simpa using hp
      rw[this,Bool.false_and]
      have:=List.length_pos_iff.2 hp
      exact Ev.if_f (by rw[up_length];omega) (Ev.now _)
  |m+1,i,pl,acc,at_,hi,hal,hpl,hap,h0,h1,hla=>by
    have hid:i < ds.length:=by omega
    have hic:i < cs.length:=by omega
    have hlt:=hcn.get i hic
    obtain⟨g,hg⟩:∃ g,ds[i]=g:=⟨_,rfl⟩
    obtain⟨c,hc⟩:∃ c,cs[i]=c:=⟨_,rfl⟩
    have bad:Ev (fun k=>dragnetref13_read.j4 k (ds.length:Int) at_ (up ds) (up cs) (up pl) acc (i:Int) true last b) ([],false):=by
      apply Ev.succ
      simp only[dragnetref13_read.j4]
      exact Ev.if_t (by trivial) (Ev.now _)
    apply Ev.succ
    simp only[dragnetref13_read.l0]
    rw[rd_up ds i hid,rd_up cs i hic,List.drop_eq_getElem_cons hid,List.drop_eq_getElem_cons hic,up_length pl,wu64 (x:=(pl.length:Int)) (by omega) (by omega)]
    rw[hg]
    rw[hc]at hlt ⊢
    refine Ev.if_t (by omega) (Ev.if_t (by omega) (Ev.if_t (by rw[up_length];omega) ?_))
    by_cases h2:4095 < g
    . rw[finP_bad (.inl h2)]
      exact Ev.if_t (by omega) bad
    . refine Ev.if_f (by omega) (Ev.if_t (by rw[up_length];omega) ?_)
      by_cases h3:pl.length<=c
      . rw[finP_bad (.inr (.inl h3)),decide_eq_true (by omega)]
        exact bad
      . rw[decide_eq_false (by omega)]
        apply Ev.succ
        simp only[dragnetref13_read.j4]
        rw[rd_up ds i hid,hg,w64 (x:=(g:Int)) (by omega) (by omega),w64 (x:=at_+1) (by omega) (by omega),w64 (x:=at_+1+(g:Int)) (by omega) (by omega),show at_+1+(g:Int)=at_+g+1 by omega]
        refine Ev.if_f (by decide) (Ev.if_t (by omega) (Ev.if_t (by rw[up_length];omega) ?_))
        refine refread_l1 cs pl ds acc (at_+g+1) i _ last b c (by rw[List.getElem?_eq_getElem hic,hc]) (by omega) hpl (by omega) (by omega) _ (fun h=>finP_bad (.inr (.inr h))) (fun h=>?_) (c+1) 0 (-1) [] (by omega) rfl (by omega) (by omega) (by rw[List.drop_zero,List.nil_append]) (by rw[List.drop_zero])
        rw[finP_cons h2 h3 h]
        refine refread_l0 cs ds hd hd1 hcl hcn last b m (i+1) (pl.drop (c+1)) (acc++[⟨at_+g+1,placesF (-1) (pl.take (c+1))⟩]) (at_+g+1) (by omega) (by simp;omega) (by rw[List.length_drop];omega)
          (fun p hp => by
            rcases List.mem_append.1 hp with hp|hp
            . exact hap p hp
            . obtain rfl:=List.mem_singleton.1 hp
              rw[placesF_length,List.length_take]
              omega) (by omega) (by omega) (fun _ => by unfold lastD; rw [List.getLast?_concat]; rfl)
theorem refread_ev (b:List Int) (hB:B8 b) (hbl:b.length<=10000000) (n at_ last:Int) (hn:n<=32) (h0: -1000000<=at_) (h1:at_<=1000000):Ev (fun k=>dragnetref13_read.f k last b n at_) (unpackOf' b n at_ last):=by
 have bad0:∀ (c:List Int) (z:Int),Ev (fun k=>dragnetref13_read.j0 k n at_ c z true last b) ([],false):=fun c z=>by
  apply Ev.succ
  simp only[dragnetref13_read.j0]
  exact Ev.if_t (by trivial) (Ev.now _)
 have bad1:∀ (c:List Int) (z:Int) (c2:List Int) (z2:Int),Ev (fun k=>dragnetref13_read.j1 k n at_ c z c2 z2 true last b) ([],false):=fun c z c2 z2=>by
  apply Ev.succ
  simp only[dragnetref13_read.j1]
  exact Ev.if_t (by trivial) (Ev.now _)
 have bad2:∀ (c c2 c3:List Int),Ev (fun k=>dragnetref13_read.j2 k n at_ c c2 c3 true last b) ([],false):=fun c c2 c3=>by
  apply Ev.succ
  simp only[dragnetref13_read.j2]
  exact Ev.if_t (by trivial) (Ev.now _)
 unfold dragnetref13_read.f unpackOf'
 have t1:=ref_takeBlock_ev b hB (by omega)
 rw[<- takeB_eq b hB]at t1
 refine Ev.bind t1 ?_
 rcases takeB_spec hB with e|⟨ds,z,e,hd,d1,d32,hz,_,hz4⟩
 .rw[e]
  rw[if_neg (fun h=>absurd h.1 (by decide))]
  exact Ev.if_f (by decide) (bad0 _ _)
 rw[e]
 simp only[up_length,Int.toNat_natCast]
 refine Ev.if_t (by trivial) ?_
 by_cases hdn:(ds.length:Int)=n
 case neg=>
  rw[if_neg (fun h=>hdn h.2),show((ds.length:Int) != n)=true by simpa using hdn]
  exact bad0 _ _
 rw[if_pos ⟨by trivial,hdn⟩,show((ds.length:Int) != n)=false by simpa using hdn]
 apply Ev.succ
 simp only[dragnetref13_read.j0]
 rw[Int.toNat_natCast]
 have t2:=ref_takeBlock_ev _ (hB.drop z) (by rw[List.length_drop];omega)
 rw[<- takeB_eq _ (hB.drop z)]at t2
 refine Ev.if_f (by decide) (Ev.if_t (by omega) (Ev.if_t (by omega) (Ev.bind t2 ?_)))
 rcases takeB_spec (hB.drop z)with e2|⟨cs,z2,e2,hc,c1,c32,hz2,_,_⟩
 .rw[e2]
  rw[if_neg (fun h=>absurd h.1 (by decide))]
  exact Ev.if_f (by decide) (bad1 _ _ _ _)
 rw[e2]
 rw[List.length_drop]at hz2
 simp only[up_length]
 refine Ev.if_t (by trivial) ?_
 by_cases hcn:(cs.length:Int)=n
 case neg=>
  rw[if_neg (fun h=>hcn h.2),show((cs.length:Int) != n)=true by simpa using hcn]
  exact bad1 _ _ _ _
 rw[if_pos ⟨by trivial,hcn⟩,show((cs.length:Int) != n)=false by simpa using hcn]
 apply Ev.succ
 simp only[dragnetref13_read.j1]
 rw[add64 z z2 (by omega),w64 (x:=(b.length:Int)*64) (by omega) (by omega),Int.toNat_natCast,show((z:Int)+(z2:Int)).toNat=z+z2 by omega,Int.mul_comm (b.length:Int) 64]
 refine Ev.if_f (by decide) (Ev.if_t (by omega) (Ev.if_t (by omega) (Ev.bind (ref_takeList_ev _ (hB.drop _) (by rw[List.length_drop];omega) _ (by omega)) ?_)))
 rcases takeLOf_spec (b.drop (z+z2)) (hB.drop _) (64*(b.length:Int))with ⟨x,hx,e3⟩|⟨pl,z3,e3,hp,hpm,hz3,_,hp32⟩
 .rw[e3]
  have hx0: ¬ x=0:=by omega
  rw[if_neg (fun h=>hx0 h.1)]
  exact Ev.if_f hx0 (bad2 _ _ _)
 rw[e3]
 rw[List.length_drop]at hz3
 simp only[]
 refine Ev.if_t (by trivial) ?_
 rw[show wrap64 (((z+z2:Nat):Int)+(z3:Int))=((z+z2+z3:Nat):Int) from add64 (z+z2) z3 (by omega)]
 by_cases hs:z+z2+z3=b.length
 case neg=>
  rw[if_neg (fun h=>hs (by omega)),show(((z+z2+z3:Nat):Int) != (b.length:Int))=true by simp;omega]
  exact bad2 _ _ _
 rw[if_pos ⟨by trivial,by omega⟩,show(((z+z2+z3:Nat):Int) != (b.length:Int))=false by simp;omega]
 apply Ev.succ
 simp only[dragnetref13_read.j2,map_up]
 subst hdn
 refine Ev.if_f (by decide) ?_
 have:=refread_l0 cs ds d32 d1 (by omega) hc last b ds.length 0 pl [] at_ (by omega) rfl (by omega) (fun p hp=>by cases hp) h0 (by omega) (fun h=>by omega)
 rw[List.drop_zero,List.drop_zero]at this
 exact this
def hdP (b:List Int) (z:Nat):Option (Nat×List Int×Nat):=
 match takeN (b.drop z)with
 |none=>none
 |some (v,k)=>if 4095 < v then none else if(takeRowOf (b.drop (z+k)) (b.length:Int)).2.2=0 then some (v,(takeRowOf (b.drop (z+k)) (b.length:Int)).1,z+k+(takeRowOf (b.drop (z+k)) (b.length:Int)).2.1.toNat)else none
theorem takeRowOf_spec (b:List Int) (hB:B8 b) (most:Int):(∃ e:Int,e≠0∧takeRowOf b most=([],0,e))∨∃ (l:List Int) (n:Nat),takeRowOf b most=(l,(n:Int),0)∧B8 l∧l.length<=b.length∧n<=b.length∧1<=n:=by
 by_cases hm:most < 0
 .exact .inl ⟨1,by decide,takeRowOf_neg hm⟩
 rcases takeOf_spec b hB with e|e|⟨v,k,e,hv,hk1,hk9,hkl,_⟩
 .exact .inl ⟨3,by decide,takeRowOf_err hm e (by decide)⟩
 .exact .inl ⟨2,by decide,takeRowOf_err hm e (by decide)⟩
 .rw[takeRowOf_vk hm e]
  by_cases h1:(v:Int) > most
  .exact .inl ⟨5,by decide,takeRowVK_long h1⟩
  by_cases h2:(v:Int) > (b.length:Int) - k
  .exact .inl ⟨3,by decide,takeRowVK_short h1 h2⟩
  .rw[takeRowVK_ok h1 h2]
   exact .inr ⟨_,k+v,by rw[Int.natCast_add],(hB.take _).drop _,by simp;omega,by omega,by omega⟩
theorem hdP_spec {b:List Int} (hB:B8 b) {z:Nat} (_:z<=b.length) {v:Nat} {body:List Int} {y:Nat} (h:hdP b z=some (v,body,y)):v<=4095∧B8 body∧body.length<=b.length∧y<=b.length∧z < y:=by
 unfold hdP at h
 rcases takeN_cases (b.drop z) (hB.drop _)with ⟨e,_,_,h5⟩|⟨v',k,_,h5,_,hk1,_,hkl,_⟩
 .rw[h5]at h;cases h
 .rw[h5]at h
  rw[List.length_drop]at hkl
  simp only[]at h
  by_cases h1:4095 < v'
  .rw[if_pos h1]at h;cases h
  rw[if_neg h1]at h
  rcases takeRowOf_spec (b.drop (z+k)) (hB.drop _) (b.length:Int)with ⟨e,he,er⟩|⟨l,n,er,hl,hll,hn,hn1⟩
  .rw[er]at h;rw[if_neg he]at h;cases h
  .rw[er]at h
   rw[if_pos rfl]at h
   rw[List.length_drop]at hll hn
   simp only[Option.some.injEq,Prod.mk.injEq,Int.toNat_natCast]at h
   obtain⟨rfl,rfl,rfl⟩:=h
   exact⟨by omega,hl,by omega,by omega,by omega⟩
theorem refcount_ev (b:List Int) (hb:B8 b) (hbl:b.length<=10000000) (z:Nat) (hz:z<=b.length) (most:Nat) (hm:most<=100000):
  ((takeN (b.drop z)=none∨∃ v k:Nat,takeN (b.drop z)=some (v,k)∧most < v)∧∃ y:Int,Ev (fun k=>dragnetref02_Reader_Count.f k b (z:Int) false (most:Int)) (0,y,true))∨
  ∃ v k:Nat,takeN (b.drop z)=some (v,k)∧v<=most∧1<=k∧z+k<=b.length∧Ev (fun k=>dragnetref02_Reader_Count.f k b (z:Int) false (most:Int)) ((v:Int),((z+k:Nat):Int),false):=by
 unfold dragnetref02_Reader_Count.f
 rw[wu64 (x:=(most:Int)) (by omega) (by omega)]
 rcases number_ev b hb (by omega) z hz most with ⟨h1,h2⟩|⟨v,k,h1,h2,h3,h4,h6,h5⟩
 .exact .inl ⟨.inl h1,_,Ev.bind h2 (Ev.of_eq fun _=>by rw[w64 (x:=0) (by decide) (by decide)])⟩
 .by_cases h7:most < v
  .rw[if_pos h7]at h5
   exact .inl ⟨.inr ⟨v,k,h1,h7⟩,_,Ev.bind h5 (Ev.of_eq fun _=>by rw[w64 (x:=0) (by decide) (by decide)])⟩
  .rw[if_neg h7]at h5
   exact .inr ⟨v,k,h1,by omega,h3,h4,Ev.bind h5 (Ev.of_eq fun _=>by rw[w64 (x:=(v:Int)) (by omega) (by omega)])⟩
theorem refnext_ev (b:List Int) (hb:B8 b) (hbl:b.length<=10000000) (z:Nat) (hz:z<=b.length):
  (hdP b z=none∧∃ (x:Int) (l:List Int) (y:Int),Ev (fun k=>dragnetref13_next.f k b (z:Int) false) (x,l,false,y,true))∨
  ∃ (v:Nat) (body:List Int) (y:Nat),hdP b z=some (v,body,y)∧Ev (fun k=>dragnetref13_next.f k b (z:Int) false) ((v:Int),body,true,(y:Int),false):=by
 have rowbad:∀ (y most:Int) (k:Nat),dragnetref02_Reader_Row.f k b y true most=some ([],y,true):=fun y most k=>by
  unfold dragnetref02_Reader_Row.f
  rw[if_pos rfl]
 unfold dragnetref13_next.f
 rcases refcount_ev b hb hbl z hz 4095 (by omega)with ⟨h1,y,h2⟩|⟨v,k,h1,h2,h3,h4,h5⟩
 .refine .inl ⟨?_,0,[],y,Ev.bind h2 (Ev.bind (Ev.of_eq fun k=>rowbad y _ k) (Ev.now _))⟩
  unfold hdP
  rcases h1 with h1|⟨v,k,h1,h3⟩
  .rw[h1]
  .rw[h1];exact if_pos h3
 .have hrow:Ev (fun n=>dragnetref02_Reader_Row.f n b ((z+k:Nat):Int) false (b.length:Int)) ((takeRowOf (b.drop (z+k)) (b.length:Int)).1,wrap64 (((z+k:Nat):Int)+(takeRowOf (b.drop (z+k)) (b.length:Int)).2.1),((takeRowOf (b.drop (z+k)) (b.length:Int)).2.2 != 0)):=by
   unfold dragnetref02_Reader_Row.f
   rw[Int.toNat_natCast]
   exact Ev.if_f (by decide) (Ev.if_t (by omega) (Ev.if_t (by omega) (Ev.bind (ref_takeRow_ev _ (hb.drop _) (by rw[List.length_drop];omega) _ (by omega)) (Ev.now _))))
  have e:hdP b z=if(takeRowOf (b.drop (z+k)) (b.length:Int)).2.2=0 then some (v,(takeRowOf (b.drop (z+k)) (b.length:Int)).1,z+k+(takeRowOf (b.drop (z+k)) (b.length:Int)).2.1.toNat)else none:=by
   unfold hdP
   rw[h1]
   exact if_neg (by omega)
  have hev:=Ev.bind (f:=fun n (a:Int×Int×Bool)=>(dragnetref02_Reader_Row.f n b a.2.1 a.2.2 (b.length:Int)).bind fun bt=>some (a.1,bt.1,!bt.2.2,bt.2.1,bt.2.2)) h5 (Ev.bind hrow (Ev.now _))
  rcases takeRowOf_spec (b.drop (z+k)) (hb.drop _) (b.length:Int)with ⟨x,hx,er⟩|⟨l,n,er,hl,hll,hn,hn1⟩
  .rw[er]at e hev
   rw[if_neg hx]at e
   refine .inl ⟨e,(v:Int),[],wrap64 (((z+k:Nat):Int)+0),?_⟩
   rw[show(x != 0)=true by simpa using hx]at hev
   exact hev
  .rw[er]at e hev
   rw[if_pos rfl]at e
   rw[List.length_drop]at hn
   refine .inr ⟨v,l,z+k+n,by rw[e,Int.toNat_natCast],?_⟩
   rw[show((0:Int) != 0)=false by decide,show wrap64 (((z+k:Nat):Int)+(n:Int))=((z+k+n:Nat):Int) from add64 (z+k) n (by omega)]at hev
   exact hev
theorem unpackOf_true {b:List Int} (hB:B8 b) {n at_ last:Int} (h:(unpackOf' b n at_ last).2=true):∃ l,unpackOf' b n at_ last=(l,true)∧(l.length:Int)=n∧1<=l.length∧lastD at_ l=last∧formedOf l=true∧∀ p∈l,p.f1.length<=32*b.length:=by
 unfold unpackOf' at h ⊢
 rcases takeB_spec hB with e|⟨ds,z,e,hd,d1,d32,hz,_,hz4⟩
 .rw[e]at h
  rw[if_neg (fun h=>absurd h.1 (by decide))]at h
  cases h
 by_cases h1:(takeB true b).2.2=0∧((takeB true b).1.length:Int)=n
 case neg=>rw[if_neg h1]at h;cases h
 rw[if_pos h1]at h ⊢
 by_cases h2:(takeB true (b.drop (takeB true b).2.1.toNat)).2.2=0∧((takeB true (b.drop (takeB true b).2.1.toNat)).1.length:Int)=n
 case neg=>rw[if_neg h2]at h;cases h
 rw[if_pos h2]at h ⊢
 obtain⟨y,hy⟩:∃ y,((takeB true b).2.1+(takeB true (b.drop (takeB true b).2.1.toNat)).2.1).toNat=y:=⟨_,rfl⟩
 rw[hy]at h ⊢
 by_cases h3:(takeLOf (b.drop y) (64*(b.length:Int))).2.2=0∧(takeB true b).2.1+(takeB true (b.drop (takeB true b).2.1.toNat)).2.1+(takeLOf (b.drop y) (64*(b.length:Int))).2.1=(b.length:Int)
 case neg=>rw[if_neg h3]at h;cases h
 rw[if_pos h3]at h ⊢
 rcases takeLOf_spec (b.drop y) (hB.drop _) (64*(b.length:Int))with ⟨x,hx,e3⟩|⟨pl,z3,e3,hp,hpm,hz3,_,hp32⟩
 .rw[e3]at h3
  exact absurd h3.1 (by show ¬ x=0;omega)
 rw[e]at h h1 ⊢
 rw[e3]at h ⊢
 simp only[map_up,up_length]at h h1 ⊢
 rw[List.length_drop]at hz3
 unfold finP at h ⊢
 cases hq:postsF ds ((takeB true (b.drop (z:Int).toNat)).1.map Int.toNat) pl at_ with
 |none=>rw[hq]at h;cases h
 |some q=>
  obtain⟨l,rest,w⟩:=q
  rw[hq]at h
  simp only[List.nil_append,Bool.and_eq_true,decide_eq_true_eq]at h ⊢
  obtain⟨q1,q2,q3⟩:=postsF_len _ _ _ _ _ _ _ hq
  obtain⟨r1,r2,r3⟩:=h
  refine⟨l,by rw[r1,r3,decide_eq_true r2];rfl,by omega,by omega,by rw[<- q3];exact r2,r3,fun p hp=>?_⟩
  have:=q2 p hp
  omega
def blkF (b:List Int):Nat->Nat->Nat->Int->List QB
 |0,_,_,_=>[]
 |f+1,left,z,at_=>if left=0 then[]else
   match hdP b z with
   |none=>[QB.zero]
   |some (v,body,y)=>(((min left 32:Nat):Int),at_,(v:Int),body,(y:Int)) :: blkF b f (left - 32) y v
def blocksOf (b:List Int):List QB:=
 match takeN b with
 |none=>[QB.zero]
 |some (c,z)=>if 4096 < c then[QB.zero]else blkF b c c z (-1)
theorem qblocks_l0_ev (b:List Int) (hB:B8 b) (hbl:b.length<=10000000):∀ (f:Nat) (left:Int) (L z:Nat) (at_:Int),left.toNat=L->L<=f-> -100<=left->left<=5000->z<=b.length->Ev (fun k=>qblocks.l0 k b left (z:Int) at_) (blkF b f L z at_)
 |0,left,L,z,at_,hL,hf,h0,h1,hz=>by
  apply Ev.succ
  simp only[qblocks.l0,blkF]
  exact Ev.if_f (by omega) (Ev.now _)
 |f+1,left,L,z,at_,hL,hf,h0,h1,hz=>by
  apply Ev.succ
  simp only[qblocks.l0,blkF]
  by_cases hl:left<=0
  .rw[if_pos (show L=0 by omega)]
   exact Ev.if_f (by omega) (Ev.now _)
  rw[if_neg (show ¬ L=0 by omega),Int.toNat_natCast]
  refine Ev.if_t (by omega) (Ev.if_t ⟨by omega,by omega⟩ (Ev.bind (take_ev _ (hB.drop z) (by rw[List.length_drop];omega)) ?_))
  unfold hdP
  rcases takeN_cases (b.drop z) (hB.drop _)with ⟨e,he,h4,h5⟩|⟨v,k,h4,h5,hv,hk1,hk9,hkl,_⟩
  .rw[h4,h5]
   exact Ev.if_f (fun h=>he h.1) (Ev.now _)
  rw[h4,h5]
  rw[List.length_drop]at hkl
  simp only[]
  by_cases h6:4095 < v
  .rw[if_pos h6]
   exact Ev.if_f (fun h=>by omega) (Ev.now _)
  rw[if_neg h6,add64 z k (by omega),Int.toNat_natCast]
  refine Ev.if_t ⟨by trivial,by omega⟩ (Ev.if_t ⟨by omega,by omega⟩ (Ev.bind (takeRow_ev _ (hB.drop _) (by rw[List.length_drop];omega) _ (by omega)) ?_))
  rcases takeRowOf_spec (b.drop (z+k)) (hB.drop _) (b.length:Int)with ⟨x,hx,er⟩|⟨l,n,er,hl,hll,hn,hn1⟩
  .rw[er,if_neg hx]
   exact Ev.if_f hx (Ev.now _)
  rw[er,if_pos rfl]
  rw[List.length_drop]at hn
  simp only[Int.toNat_natCast]
  rw[add64 k n (by omega),add64 z (k+n) (by omega),w64 (x:=(v:Int)) (by omega) (by omega),w64 (x:=left - 32) (by omega) (by omega),show z+(k+n)=z+k+n by omega]
  have ih:=qblocks_l0_ev b hB hbl f (left - 32) (L - 32) (z+k+n) v (by omega) (by omega) (by omega) (by omega) (by omega)
  refine Ev.if_t (by trivial) (Ev.bind ih ?_)
  rw[show(if 32 < left then 32 else left)=((min L 32:Nat):Int) by split<;>omega]
  exact Ev.now _
theorem blocks_ev (b:List Int) (hB:B8 b) (hbl:b.length<=10000000):Ev (fun k=>qblocks.f k b (takeOf b).1 (takeOf b).2.1 (takeOf b).2.2) (blocksOf b):=by
 unfold qblocks.f blocksOf
 rcases takeN_cases b hB with ⟨e,he,h4,h5⟩|⟨v,k,h4,h5,hv,hk1,hk9,hkl,_⟩
 .rw[h4,h5]
  exact Ev.if_f (fun h=>he h.1) (Ev.now _)
 .rw[h4,h5]
  simp only[]
  by_cases h6:4096 < v
  .rw[if_pos h6]
   exact Ev.if_f (fun h=>by omega) (Ev.now _)
  .rw[if_neg h6,w64 (x:=(v:Int)) (by omega) (by omega)]
   exact Ev.if_t ⟨by trivial,by omega⟩ (qblocks_l0_ev b hB hbl v (v:Int) v k (-1) (by omega) (Nat.le_refl _) (by omega) (by omega) hkl)
def QOk (b:List Int) (x:QB):Prop:=B8 x.2.2.2.1∧x.2.2.2.1.length<=b.length∧ -1<=x.2.1∧x.2.1<=4095∧x.1<=32
theorem qok_zero (b:List Int):QOk b QB.zero:=⟨In.nil _,Nat.zero_le _,by simp[QB.zero],by simp[QB.zero],by simp[QB.zero]⟩
theorem qok_blkF (b:List Int) (hB:B8 b):∀ (f left z:Nat) (at_:Int),z<=b.length-> -1<=at_->at_<=4095->(∀ x∈blkF b f left z at_,QOk b x)∧(blkF b f left z at_).length<=f
 |0,_,_,_,_,_,_=>⟨fun x h=>by simp[blkF]at h,Nat.le_refl _⟩
 |f+1,left,z,at_,hz,h0,h1=>by
  rw[blkF]
  by_cases hl:left=0
  .rw[if_pos hl];exact⟨fun x h=>by simp at h,by simp⟩
  rw[if_neg hl]
  cases hh:hdP b z with
  |none=>exact⟨fun x h=>by rw[List.mem_singleton.1 h];exact qok_zero b,by simp⟩
  |some q=>
   obtain⟨v,body,y⟩:=q
   obtain⟨a1,a2,a3,a4,_⟩:=hdP_spec hB hz hh
   obtain⟨i1,i2⟩:=qok_blkF b hB f (left - 32) y v a4 (by omega) (by omega)
   refine⟨fun x h=>?_,by simp only[List.length_cons];omega⟩
   rcases List.mem_cons.1 h with rfl|h
   .exact⟨a2,a3,h0,h1,by simp only[];omega⟩
   .exact i1 x h
theorem qok_blocks (b:List Int) (hB:B8 b):(∀ x∈blocksOf b,QOk b x)∧(blocksOf b).length<=4096:=by
 unfold blocksOf
 rcases takeN_cases b hB with ⟨e,he,h4,h5⟩|⟨v,k,h4,h5,hv,hk1,hk9,hkl,_⟩
 .rw[h5];exact⟨fun x h=>by rw[List.mem_singleton.1 h];exact qok_zero b,by simp⟩
 .rw[h5]
  simp only[]
  by_cases h6:4096 < v
  .rw[if_pos h6];exact⟨fun x h=>by rw[List.mem_singleton.1 h];exact qok_zero b,by simp⟩
  .rw[if_neg h6]
   obtain⟨i1,i2⟩:=qok_blkF b hB v v k (-1) hkl (by omega) (by omega)
   exact⟨i1,by omega⟩
def unX (x:QB):List S37×Bool:=unpackOf' x.2.2.2.1 x.1 x.2.1 x.2.2.1
theorem refhead_ev (b:List Int) (hB:B8 b) (hbl:b.length<=10000000):
  (blocksOf b=[QB.zero]∧∃ y:Int,Ev (fun k=>dragnetref02_Reader_Count.f k b 0 false 4096) (0,y,true))∨
  ∃ v z:Nat,takeOf b=((v:Int),(z:Int),0)∧blocksOf b=blkF b v v z (-1)∧v<=4096∧z<=b.length∧Ev (fun k=>dragnetref02_Reader_Count.f k b 0 false 4096) ((v:Int),(z:Int),false):=by
 have hd:b.drop 0=b:=List.drop_zero
 unfold blocksOf
 rcases refcount_ev b hB hbl 0 (Nat.zero_le _) 4096 (by omega)with ⟨h1,y,h2⟩|⟨v,k,h1,h2,h3,h4,h5⟩
 .rw[hd]at h1
  refine .inl ⟨?_,y,h2⟩
  rcases h1 with h1|⟨v,k,h1,h3⟩
  .rw[h1]
  .rw[h1];exact if_pos h3
 .rw[hd]at h1
  rw[Nat.zero_add]at h4 h5
  refine .inr ⟨v,k,?_,?_,h2,h4,h5⟩
  .rcases takeN_cases b hB with ⟨e,_,_,g5⟩|⟨v',k',g4,g5,_⟩
   .rw[g5]at h1;cases h1
   .rw[g5]at h1
    simp only[Option.some.injEq,Prod.mk.injEq]at h1
    obtain⟨rfl,rfl⟩:=h1
    exact g4
  .rw[h1];exact if_neg (by omega)
def firstP (doc:Int) (l:List S37):Int×List Int×Int×Int:=
 match l.find? fun p=>decide (doc<=p.f0)with
 |some p=>(p.f0,p.f1,1,0)
 |none=>(0,[],0,8)
def goS (doc:Int):List QB->Int×List Int×Int×Int
 |[]=>(0,[],0,8)
 |x :: r=>if x.1=0 then(0,[],0,2)else if x.2.2.1 < doc then goS doc r else if(unX x).2=false then(0,[],0,2)else firstP doc (unX x).1
def seekPOf (b:List Int) (doc:Int):Int×List Int×Int×Int:=goS doc (blocksOf b)
theorem firstP_at {doc:Int} {l:List S37} {i:Nat} (hi:i < l.length) (h:∀ j,j < i->(hj:j < l.length)->(l[j]'hj).f0 < doc) (hd:doc<=(l[i]'hi).f0):firstP doc l=((l[i]'hi).f0,(l[i]'hi).f1,1,0):=by
 have e:(l.find? fun p=>decide (doc<=p.f0))=some (l[i]'hi):=by
  rw[List.find?_eq_some_iff_getElem]
  refine⟨by simpa using hd,i,hi,rfl,fun j hj=>?_⟩
  have:=h j hj (by omega)
  simpa using this
 unfold firstP
 rw[e]
theorem qfind_first {doc:Int} {l:List S37} (h:1<=l.length) (hd:doc<=(l[l.length - 1]'(by omega)).f0):∃ hq:qfind l doc < l.length,firstP doc l=((l[qfind l doc]'hq).f0,(l[qfind l doc]'hq).f1,1,0):=by
 have hq:qfind l doc < l.length:=by
  unfold qfind
  rw[List.findIdx_lt_length]
  exact⟨_,List.getElem_mem (by omega:l.length - 1 < l.length),by simpa using hd⟩
 refine⟨hq,firstP_at hq (fun j hj hjl=>?_) (qfind_in rfl hq)⟩
 have:=List.not_of_lt_findIdx (p:=fun p:S37=>decide (doc<=p.f0)) (show j < l.findIdx _ from hj)
 simpa using this
theorem seek_l0_ev (b:List Int) (hbl:b.length<=10000000) (doc:Int):∀ (bl:List QB),(∀ x∈bl,QOk b x)->Ev (fun k=>post_Seek.l0 k doc bl) (goS doc bl)
 |[],_=>by
  simp only[post_Seek.l0,goS]
  exact Ev.now _
 |x :: r,hq=>by
  obtain⟨q1,q2,q3,q4,q5⟩:=hq x List.mem_cons_self
  simp only[post_Seek.l0,goS]
  by_cases h0:x.1=0
  .rw[if_pos h0]
   exact Ev.if_t h0 (Ev.now _)
  rw[if_neg h0]
  refine Ev.if_f h0 ?_
  by_cases h1:x.2.2.1 < doc
  .rw[if_pos h1]
   exact Ev.if_t h1 (seek_l0_ev b hbl doc r (fun y hy=>hq y (List.mem_cons_of_mem _ hy)))
  rw[if_neg h1]
  refine Ev.if_f h1 (Ev.bind (unpackP_ev x.2.2.2.1 q1 (by omega) x.1 x.2.1 x.2.2.1 _ (by omega) (by omega) (by omega)) ?_)
  obtain⟨u,hu⟩:∃ u,unX x=u:=⟨_,rfl⟩
  have hu':unpackOf' x.2.2.2.1 x.1 x.2.1 x.2.2.1=u:=hu
  rw[hu,hu']
  cases h2:u.2 with
  |false=>exact Ev.of_eq fun _=>by simp
  |true=>
   obtain⟨l,hl,hln,hl1,hla,_⟩:=unpackOf_true q1 (n:=x.1) (at_:=x.2.1) (last:=x.2.2.1) (by rw[hu'];exact h2)
   rw[hu']at hl
   subst hl
   rw[lastD_get hl1]at hla
   obtain⟨hqf,hf⟩:=qfind_first (doc:=doc) hl1 (by omega)
   refine Ev.of_eq fun _=>?_
   simp only[Bool.true_eq_false,if_false]
   rw[if_pos (show l.length<=1000000 by omega),dif_pos hqf,hf]
theorem seekP_ev (b:List Int) (hB:B8 b) (hbl:b.length<=10000000) (doc:Int):Ev (fun k=>post_Seek.f k b doc) (seekPOf b doc):=by
 unfold post_Seek.f seekPOf
 exact Ev.bind (take_ev b hB (by omega)) (Ev.bind (blocks_ev b hB hbl) (seek_l0_ev b hbl doc _ (qok_blocks b hB).1))
theorem refseek_l1 (doc:Int) (l:List S37) (h:1<=l.length) (hl:l.length<=1000) (hd:doc<=(l[l.length - 1]'(by omega)).f0):∀ (d i:Nat),i+d+1=l.length->(∀ j,j < i->(hj:j < l.length)->(l[j]'hj).f0 < doc)->
  Ev (fun k=>dragnetref13_Seek.l1 k doc l (i:Int)) (firstP doc l)
 |d,i,hi,hj=>by
  have hil:i < l.length:=by omega
  apply Ev.succ
  simp only[dragnetref13_Seek.l1]
  rw[rdT_nat l i hil,inc i (by omega)]
  refine Ev.if_t (by omega) (Ev.if_t (by omega) ?_)
  by_cases h1:l[i].f0 < doc
  .refine Ev.if_t h1 ?_
   cases d with
   |zero=>
    exfalso
    have e:l[l.length - 1]'(by omega)=l[i]:=by congr 1;omega
    rw[e]at hd
    omega
   |succ d=>
    refine refseek_l1 doc l h hl hd d (i+1) (by omega) (fun j hji hjl=>?_)
    by_cases hje:j=i
    .subst hje;exact h1
    .exact hj j (by omega) hjl
  .rw[firstP_at hil hj (by omega)]
   exact Ev.if_f h1 (Ev.now _)
theorem refseek_l0 (b:List Int) (hB:B8 b) (hbl:b.length<=10000000) (doc:Int):∀ (f:Nat) (left:Int) (L z:Nat) (at_:Int),left.toNat=L->L<=f-> -100<=left->left<=5000->z<=b.length-> -1<=at_->at_<=4095->
  Ev (fun k=>dragnetref13_Seek.l0 k doc at_ left b (z:Int) false) (goS doc (blkF b f L z at_))
 |f,left,L,z,at_,hL,hf,h0,h1,hz,ha,ha2=>by
  have fin:left<=0->Ev (fun k=>dragnetref13_Seek.l0 k doc at_ left b (z:Int) false) (0,[],0,8):=fun hl=>by
   apply Ev.succ
   simp only[dragnetref13_Seek.l0]
   refine Ev.if_f (by omega) ?_
   apply Ev.succ
   simp only[dragnetref13_Seek.j1]
   exact Ev.if_f (by decide) (Ev.if_f (by decide) (Ev.now _))
  cases f with
  |zero=>exact fin (by omega)
  |succ f=>
  rw[blkF]
  by_cases hl:left<=0
  .rw[if_pos (show L=0 by omega)]
   exact fin hl
  rw[if_neg (show ¬ L=0 by omega)]
  apply Ev.succ
  simp only[dragnetref13_Seek.l0]
  refine Ev.if_t (by omega) ?_
  apply Ev.succ
  simp only[dragnetref13_Seek.j1]
  refine Ev.if_t (by decide) ?_
  rcases refnext_ev b hB hbl z hz with ⟨e,x,l,y,hn⟩|⟨v,body,y,e,hn⟩
  .rw[e]
   simp only[goS]
   rw[if_pos (show QB.zero.1=0 from rfl)]
   exact Ev.bind hn (Ev.if_f (show ¬ (false=true) by decide) (Ev.if_t rfl (Ev.now _)))
  .rw[e]
   obtain⟨a1,a2,a3,a4,_⟩:=hdP_spec hB hz e
   have hmn:mn 32 left=((min L 32:Nat):Int):=by
    rw[show left=(L:Int) by omega,show(32:Int)=((32:Nat):Int) from rfl,mn_nat,Nat.min_comm]
   refine Ev.bind hn (Ev.if_t rfl ?_)
   simp only[goS]
   rw[hmn,if_neg (by omega)]
   by_cases hv:(v:Int) < doc
   .rw[if_pos hv,w64 (x:=left - 32) (by omega) (by omega)]
    exact Ev.if_t hv (refseek_l0 b hB hbl doc f (left - 32) (L - 32) y v (by omega) (by omega) (by omega) (by omega) a4 (by omega) (by omega))
   rw[if_neg hv]
   refine Ev.if_f hv (Ev.bind (refread_ev body a2 (by omega) _ at_ (v:Int) (by omega) (by omega) (by omega)) ?_)
   obtain⟨u,hu⟩:∃ u,unpackOf' body ((min L 32:Nat):Int) at_ (v:Int)=u:=⟨_,rfl⟩
   have hux:unX (((min L 32:Nat):Int),at_,(v:Int),body,(y:Int))=u:=hu
   rw[hu,hux]
   cases h2:u.2 with
   |false=>
    rw[if_pos (by trivial)]
    exact Ev.if_f (by decide) (Ev.now _)
   |true=>
    rw[if_neg (by simp)]
    obtain⟨l,hl,hln,hl1,hla,_⟩:=unpackOf_true a2 (n:=((min L 32:Nat):Int)) (at_:=at_) (last:=(v:Int)) (by rw[hu];exact h2)
    rw[hu]at hl
    subst hl
    rw[lastD_get hl1]at hla
    exact Ev.if_t rfl (refseek_l1 doc l hl1 (by omega) (by omega) (l.length - 1) 0 (by omega) (fun j hj=>by omega))
theorem refseekP_ev (b:List Int) (hB:B8 b) (hbl:b.length<=10000000) (doc:Int):Ev (fun k=>dragnetref13_Seek.f k b doc) (seekPOf b doc):=by
 unfold dragnetref13_Seek.f seekPOf
 rcases refhead_ev b hB hbl with ⟨e,y,h⟩|⟨v,z,e1,e2,hv,hz,h⟩
 .rw[e,goS,if_pos (show QB.zero.1=0 from rfl)]
  refine Ev.bind h ?_
  apply Ev.succ
  simp only[dragnetref13_Seek.l0]
  refine Ev.if_f (by decide) ?_
  apply Ev.succ
  simp only[dragnetref13_Seek.j1]
  exact Ev.if_f (by decide) (Ev.if_t (by trivial) (Ev.now _))
 .rw[e2]
  exact Ev.bind h (refseek_l0 b hB hbl doc v (v:Int) v z (-1) (by omega) (Nat.le_refl _) (by omega) (by omega) hz (by omega) (by omega))
theorem gapN_small {x at_:Int} (h0: -1<=at_) (h1:at_ < x) (h2:x<=4294967296):((gapN x at_:Nat):Int)=x - at_ - 1:=by
 unfold gapN
 rw[w64 (x:=x - at_) (by omega) (by omega),w64 (x:=x - at_ - 1) (by omega) (by omega),un_small (by omega) (by omega)]
 omega
theorem places_back:∀ (l:List Int) (at_:Int), -1<=at_->risesF 2147483647 at_ l=true->placesF at_ (gapsN at_ l)=l∧tooFar (gapsN at_ l)=false
 |[],_,_,_=>⟨rfl,rfl⟩
 |x :: r,at_,h0,h=>by
  simp only[risesF,Bool.and_eq_true,decide_eq_true_eq]at h
  obtain⟨h1,h2,h3⟩:=h
  have e:=gapN_small h0 h1 (by omega)
  obtain⟨i1,i2⟩:=places_back r x (by omega) h3
  rw[gapsN,placesF,e,show at_+(x - at_ - 1)+1=x by omega,i1,tooFar_cons,i2,decide_eq_false (by omega)]
  exact⟨rfl,rfl⟩
theorem posts_back:∀ (ch:List S37) (at_:Int) (more:List Nat), -1<=at_->(∀ p∈ch,p.f1.length<=4096)->formedF at_ ch=true->postsF (gapsN at_ (docsOf ch)) (cntsN ch) (plN ch++more) at_=some (ch,more,lastD at_ ch)
 |[],at_,more,_,_,_=>rfl
 |p :: r,at_,more,h0,hp,h=>by
  simp only[formedF,Bool.and_eq_true,decide_eq_true_eq]at h
  obtain⟨h1,h2,h3,h4,h5⟩:=h
  have e:=gapN_small h0 h1 (by omega)
  have hl:=hp p List.mem_cons_self
  have hl1:1<=p.f1.length:=by
   have:p.f1≠[]:=by simpa using h3
   exact List.length_pos_iff.2 this
  have ec:un (wrap64 ((p.f1.length:Int) - 1))=p.f1.length - 1:=by
   rw[show wrap64 ((p.f1.length:Int) - 1)=((p.f1.length - 1:Nat):Int) from sub64 _ 1 hl1 (by omega),un_small (by omega) (by omega)]
   omega
  obtain⟨b1,b2⟩:=places_back p.f1 (-1) (by omega) h4
  have ih:=posts_back r p.f0 more (by omega) (fun q hq=>hp q (List.mem_cons_of_mem _ hq)) h5
  have ed:docsOf (p :: r)=p.f0 :: docsOf r:=rfl
  have ek:cntsN (p :: r)=(p.f1.length - 1) :: cntsN r:=by unfold cntsN;rw[List.map_cons,ec]
  have ep:plN (p :: r)++more=gapsN (-1) p.f1++(plN r++more):=by unfold plN;rw[List.flatMap_cons,List.append_assoc]
  have hg:(gapsN (-1) p.f1).length=p.f1.length - 1+1:=by rw[gapsN_length];omega
  rw[ed,ek,ep,gapsN,postsF]
  rw[if_neg (by rw[List.length_append];omega),List.take_left' hg,List.drop_left' hg,if_neg (by rw[b2];decide),e,show at_+(p.f0 - at_ - 1)+1=p.f0 by omega,ih,b1]
  simp only[Option.map_some]
  have el:lastD p.f0 r=lastD at_ (p :: r):=by
   unfold lastD
   cases r with
   |nil=>rfl
   |cons y r=>rw[List.getLast?_cons_cons,List.getLast?_eq_some_getLast (List.cons_ne_nil y r)];rfl
  rw[el]
theorem formedF_mono:∀ (l:List S37) (a b:Int),a<=b->formedF b l=true->formedF a l=true
 |[],_,_,_,_=>rfl
 |p :: r,a,b,h,hf=>by
  simp only[formedF,Bool.and_eq_true,decide_eq_true_eq]at hf ⊢
  exact⟨by omega,hf.2⟩
theorem formedF_append:∀ (a b:List S37) (at_:Int),formedF at_ (a++b)=(formedF at_ a && formedF (lastD at_ a) b)
 |[],b,at_=>by simp[formedF,lastD]
 |p :: r,b,at_=>by
  have ih:=formedF_append r b p.f0
  have el:lastD p.f0 r=lastD at_ (p :: r):=by
   unfold lastD
   cases r with
   |nil=>rfl
   |cons y r=>rw[List.getLast?_cons_cons,List.getLast?_eq_some_getLast (List.cons_ne_nil y r)];rfl
  rw[List.cons_append,formedF,ih,formedF,el]
  simp only[Bool.and_assoc]
theorem formed_last:∀ (l:List S37) (at_:Int),formedF at_ l=true->1<=l.length->at_ < lastD at_ l∧lastD at_ l<=4095∧∀ p∈l,at_ < p.f0∧p.f0<=lastD at_ l
 |[],_,_,h=>by simp at h
 |[p],at_,hf,_=>by
  simp only[formedF,Bool.and_eq_true,decide_eq_true_eq]at hf
  refine⟨hf.1,hf.2.1,fun q hq=>?_⟩
  rw[List.mem_singleton.1 hq]
  exact⟨hf.1,Int.le_refl _⟩
 |p :: y :: r,at_,hf,_=>by
  have hf0:=hf
  rw[formedF]at hf
  simp only[Bool.and_eq_true,decide_eq_true_eq]at hf
  obtain⟨i1,i2,i3⟩:=formed_last (y :: r) p.f0 hf.2.2.2.2 (by simp)
  have el:lastD p.f0 (y :: r)=lastD at_ (p :: y :: r):=by
   unfold lastD
   rw[List.getLast?_cons_cons,List.getLast?_eq_some_getLast (List.cons_ne_nil y r)];rfl
  rw[el]at i1 i2 i3
  refine⟨by omega,i2,fun q hq=>?_⟩
  rcases List.mem_cons.1 hq with rfl|hq
  .exact⟨hf.1,by omega⟩
  .have:=i3 q hq
   exact⟨by omega,this.2⟩
theorem unpack_back {ch:List S37} (hc:Chunk ch) {at_:Int} (h0: -1<=at_) (hf:formedF at_ ch=true):unpackOf' (bodyP at_ ch) (ch.length:Int) at_ (lastD at_ ch)=(ch,true):=by
 have hnp:=hc.np
 have e1:=takeB_back (lt_gapsN (docsOf ch) at_) (by simpa using hc.pos) (by simpa using hc.le) (blockOf (cntsN ch)++listOf (plN ch).length (plN ch))
 have e2:=takeB_back (lt_cntsN ch) (by simpa using hc.pos) (by simpa using hc.le) (listOf (plN ch).length (plN ch))
 have hB:B8 (listOf (plN ch).length (plN ch)):=in_listOf (lt_plN ch) (by omega)
 have hmost:((plN ch).length:Int)<=64*((bodyP at_ ch).length:Int):=by
  have g:=takeLOf_back (lt_plN ch) (m:=(plN ch).length) (by omega) (by omega) [] (most:=1000000) (by omega)
  rw[List.append_nil]at g
  rcases takeLOf_spec _ hB 1000000 with ⟨e,he,g2⟩|⟨ns,z,g2,_,_,hz,_,h32⟩
  .rw[g]at g2
   injection g2 with _ g3
   injection g3 with _ g4
   omega
  .rw[g]at g2
   injection g2 with g3 g4
   injection g4 with g5 _
   have:=congrArg List.length g3
   rw[up_length,up_length]at this
   unfold bodyP
   rw[List.length_append,List.length_append]
   omega
 have e3:=takeLOf_back (lt_plN ch) (m:=(plN ch).length) (by omega) (by omega) [] hmost
 rw[List.append_nil]at e3
 have eb:bodyP at_ ch=blockOf (gapsN at_ (docsOf ch))++(blockOf (cntsN ch)++listOf (plN ch).length (plN ch)):=rfl
 have hlen:(bodyP at_ ch).length=(blockOf (gapsN at_ (docsOf ch))).length+((blockOf (cntsN ch)).length+(listOf (plN ch).length (plN ch)).length):=by rw[eb,List.length_append,List.length_append]
 rw[<- eb]at e1
 have d1:(bodyP at_ ch).drop (blockOf (gapsN at_ (docsOf ch))).length=blockOf (cntsN ch)++listOf (plN ch).length (plN ch):=by rw[eb,List.drop_left]
 have d2:(bodyP at_ ch).drop ((blockOf (gapsN at_ (docsOf ch))).length+(blockOf (cntsN ch)).length)=listOf (plN ch).length (plN ch):=by rw[<- List.drop_drop,d1,List.drop_left]
 unfold unpackOf'
 rw[e1]
 simp only[Int.toNat_natCast]
 rw[d1,e2]
 simp only[]
 rw[show(((blockOf (gapsN at_ (docsOf ch))).length:Int)+((blockOf (cntsN ch)).length:Int)).toNat=(blockOf (gapsN at_ (docsOf ch))).length+(blockOf (cntsN ch)).length by omega,d2,e3]
 simp only[map_up,up_length,gapsN_length,docsOf_length,cntsN_length]
 rw[if_pos (by simp),if_pos (by simp),if_pos ⟨by trivial,by omega⟩]
 unfold finP
 have hpb:=posts_back ch at_ [] h0 hc.pl hf
 rw[List.append_nil]at hpb
 rw[hpb]
 simp only[List.nil_append]
 have hfo:formedOf ch=true:=formedF_mono ch (-1) at_ h0 hf
 rw[hfo]
 simp
theorem hd_back {ch:List S37} (hc:Chunk ch) {at_:Int} (h0: -1<=at_) (hf:formedF at_ ch=true) (b more:List Int) (z:Nat) (hz:b.drop z=blkP at_ ch++more) (hzl:z<=b.length):hdP b z=some ((lastD at_ ch).toNat,bodyP at_ ch,z+(blkP at_ ch).length):=by
 obtain⟨g1,g2,_⟩:=formed_last ch at_ hf hc.pos
 have hbl:=bodyP_len hc at_
 have eu:un (lastD at_ ch)=(lastD at_ ch).toNat:=un_small (by omega) (by omega)
 have hlt:(lastD at_ ch).toNat < 2 ^ 64:=by omega
 have hdl:=congrArg List.length hz
 rw[List.length_drop,List.length_append]at hdl
 have eb:blkP at_ ch=numEnc (lastD at_ ch).toNat++(numEnc (bodyP at_ ch).length++bodyP at_ ch):=by unfold blkP;rw[eu]
 have ebl:(blkP at_ ch).length=(numEnc (lastD at_ ch).toNat).length+((numEnc (bodyP at_ ch).length).length+(bodyP at_ ch).length):=by rw[eb,List.length_append,List.length_append]
 have e1:takeN (b.drop z)=some ((lastD at_ ch).toNat,(numEnc (lastD at_ ch).toNat).length):=by
  rw[hz,eb,List.append_assoc]
  exact takeN_of (takeOf_enc hlt _)
 have d2:b.drop (z+(numEnc (lastD at_ ch).toNat).length)=numEnc (bodyP at_ ch).length++(bodyP at_ ch++more):=by
  rw[<- List.drop_drop,hz,eb,List.append_assoc,List.drop_left,List.append_assoc]
 have e2:=takeOf_enc (v:=(bodyP at_ ch).length) (by omega) (bodyP at_ ch++more)
 have e3:takeRowOf (b.drop (z+(numEnc (lastD at_ ch).toNat).length)) (b.length:Int)=(bodyP at_ ch,(((numEnc (bodyP at_ ch).length).length+(bodyP at_ ch).length:Nat):Int),0):=by
  rw[d2,takeRowOf_vk (by omega) e2,takeRowVK_ok (by omega) (by simp;omega)]
  rw[show((((numEnc (bodyP at_ ch).length).length:Nat):Int)+(((bodyP at_ ch).length:Nat):Int))=(((numEnc (bodyP at_ ch).length).length+(bodyP at_ ch).length:Nat):Int) by omega,Int.toNat_natCast,Int.toNat_natCast]
  rw[<- List.append_assoc,List.take_left' (by rw[List.length_append]),List.drop_left]
 unfold hdP
 rw[e1]
 simp only[]
 rw[if_neg (by omega),e3,if_pos rfl]
 simp only[Int.toNat_natCast]
 rw[ebl,Nat.add_assoc]
theorem bytes_drop (l:List S37) (more:List Int):(bytesP l++more).drop (numEnc l.length).length=blksP l.length (-1) l++more:=by
 unfold bytesP
 rw[List.append_assoc,List.drop_left]
theorem blocks_back {l:List S37} (hn:l.length<=4096) (more:List Int):blocksOf (bytesP l++more)=blkF (bytesP l++more) l.length l.length (numEnc l.length).length (-1)∧(takeOf (bytesP l++more)).2.1=((numEnc l.length).length:Int):=by
 have e:=takeOf_enc (v:=l.length) (by omega) (blksP l.length (-1) l++more)
 have eb:bytesP l++more=numEnc l.length++(blksP l.length (-1) l++more):=by unfold bytesP;rw[List.append_assoc]
 rw[<- eb]at e
 refine⟨?_,by rw[e]⟩
 unfold blocksOf
 rw[takeN_of e]
 exact if_neg (by omega)
theorem firstP_skip {doc:Int} {a b:List S37} (h:∀ p∈a,p.f0 < doc):firstP doc (a++b)=firstP doc b:=by
 unfold firstP
 rw[List.find?_append,List.find?_eq_none.2 (fun p hp=>by simpa using h p hp)]
 rfl
theorem firstP_here {doc:Int} {a b:List S37} (h:∃ p∈a,doc<=p.f0):firstP doc (a++b)=firstP doc a:=by
 unfold firstP
 rw[List.find?_append]
 obtain⟨p,hp,hd⟩:=h
 cases e:a.find? fun p=>decide (doc<=p.f0)with
 |none=>exact absurd hd (by have:=List.find?_eq_none.1 e p hp;simpa using this)
 |some q=>rfl
theorem goS_back (doc:Int) (b more:List Int):∀ (m:Nat) (l:List S37) (at_:Int) (z:Nat),formedF at_ l=true-> -1<=at_->PL l->l.length<=m->b.drop z=blksP m at_ l++more->z<=b.length->
  goS doc (blkF b m l.length z at_)=firstP doc l
 |0,l,at_,z,hf,h0,hp,hm,hz,hzl=>by
  obtain rfl:l=[]:=List.eq_nil_of_length_eq_zero (by omega)
  rw[blkF,goS]
  rfl
 |m+1,l,at_,z,hf,h0,hp,hm,hz,hzl=>by
  rw[blkF]
  by_cases hl:l.length=0
  .obtain rfl:l=[]:=List.eq_nil_of_length_eq_zero hl
   rw[if_pos (List.length_nil (α:=S37)),goS]
   rfl
  rw[if_neg hl]
  have hc:=chunkP hp hl
  have hfa:formedF at_ (l.take 32++l.drop 32)=true:=by rw[List.take_append_drop];exact hf
  rw[formedF_append,Bool.and_eq_true]at hfa
  obtain⟨hf1,hf2⟩:=hfa
  obtain⟨g1,g2,g3⟩:=formed_last _ at_ hf1 hc.pos
  have eb:blksP (m+1) at_ l=blkP at_ (l.take 32)++blksP m (lastD at_ (l.take 32)) (l.drop 32):=by rw[blksP,if_neg hl]
  rw[eb,List.append_assoc]at hz
  have hd:=hd_back hc h0 hf1 b _ z hz hzl
  have hdl:=congrArg List.length hz
  rw[List.length_drop,List.length_append]at hdl
  rw[hd]
  simp only[goS]
  have hun:unX (((min l.length 32:Nat):Int),at_,(((lastD at_ (l.take 32)).toNat:Nat):Int),bodyP at_ (l.take 32),(((z+(blkP at_ (l.take 32)).length:Nat)):Int))=(l.take 32,true):=by
   have:=unpack_back hc h0 hf1
   rw[List.length_take,Nat.min_comm]at this
   unfold unX
   rw[Int.toNat_of_nonneg (by omega)]
   exact this
  rw[hun,if_neg (by omega),Int.toNat_of_nonneg (by omega)]
  have e:firstP doc l=firstP doc (l.take 32++l.drop 32):=by rw[List.take_append_drop]
  by_cases hv:lastD at_ (l.take 32) < doc
  .rw[if_pos hv,e,firstP_skip (fun p hp=>by have:=g3 p hp;omega)]
   have ih:=goS_back doc b more m (l.drop 32) (lastD at_ (l.take 32)) (z+(blkP at_ (l.take 32)).length) hf2 (by omega) (hp.drop 32) (by rw[List.length_drop];omega) (by rw[<- List.drop_drop,hz,List.drop_left]) (by omega)
   rw[List.length_drop]at ih
   exact ih
  .rw[if_neg hv,if_neg (by simp),e,firstP_here]
   refine⟨(l.take 32)[(l.take 32).length - 1]'(by have:=hc.pos;omega),List.getElem_mem _,?_⟩
   rw[<- lastD_get hc.pos at_]
   omega
theorem seek_back {l:List S37} (hf:formedOf l=true) (hp:PL l) (hn:l.length<=4096) (more:List Int) (doc:Int):seekPOf (bytesP l++more) doc=firstP doc l:=by
 obtain⟨e1,e2⟩:=blocks_back hn more
 unfold seekPOf
 rw[e1]
 exact goS_back doc (bytesP l++more) more l.length l (-1) _ hf (by omega) hp (Nat.le_refl _) (bytes_drop l more) (by unfold bytesP;rw[List.length_append,List.length_append];omega)
theorem ints_self_l0 (a:List Int) (hn:a.length<=9223372036854775000):∀ (d i:Nat),i+d=a.length->Ev (fun k=>dragnetref09_Ints.l0 k a a (i:Int)) true
 |0,i,hi=>by
  apply Ev.succ
  simp only[dragnetref09_Ints.l0]
  exact Ev.if_f (by omega) (Ev.now _)
 |d+1,i,hi=>by
  apply Ev.succ
  simp only[dragnetref09_Ints.l0]
  rw[inc i (by omega)]
  exact Ev.if_t (by omega) (Ev.if_t (by omega) (Ev.if_t (by omega) (Ev.if_t (by trivial) (ints_self_l0 a hn d (i+1) (by omega)))))
theorem post_self (x:Int) (a:List Int) (hn:a.length<=9223372036854775000):Ev (fun k=>dragnetref13_SamePost.f k x a x a) true:=by
 unfold dragnetref13_SamePost.f dragnetref09_Ints.f
 exact Ev.if_t rfl (Ev.bind (Ev.if_t rfl (ints_self_l0 a hn a.length 0 (by omega))) (Ev.now _))
def placesN:List S37->Nat
 |[]=>0
 |p :: r=>p.f1.length+placesN r
theorem placesN_mem:∀ {l:List S37} {p:S37},p∈l->p.f1.length<=placesN l
 |q :: r,p,h=>by
  rw[placesN]
  rcases List.mem_cons.1 h with rfl|h
  .omega
  .have:=placesN_mem h
   omega
structure Few (l:List S37):Prop where
 len:l.length<=300
 places:placesN l<=300
theorem Few.pl {l:List S37} (h:Few l):PL l:=fun p hp=>by have:=placesN_mem hp;have:=h.places;omega
theorem plN_places:∀ (l:List S37),(plN l).length=placesN l
 |[]=>rfl
 |p :: r=>by
  have ih:=plN_places r
  unfold plN at ih ⊢
  rw[List.flatMap_cons,List.length_append,gapsN_length,ih,placesN]
theorem placesN_append:∀ (a b:List S37),placesN (a++b)=placesN a+placesN b
 |[],b=>by simp[placesN]
 |p :: r,b=>by rw[List.cons_append,placesN,placesN,placesN_append r b];omega
theorem blkP_few {ch:List S37} (h:Chunk ch) (at_:Int):(blkP at_ ch).length<=1500+700*placesN ch:=by
 have h1:=length_blockOf_le (lt_gapsN (docsOf ch) at_) (by simpa using h.le)
 have h2:=length_blockOf_le (lt_cntsN ch) (by simpa using h.le)
 have h3:=listOf_len (m:=(plN ch).length) (lt_plN ch) (by have:=h.np;omega)
 have h4:=h.np
 have h5:=plN_places ch
 have h6:=length_numEnc_le (un_lt (lastD at_ ch))
 have h7:=bodyP_len h at_
 have h8:=length_numEnc_le (v:=(bodyP at_ ch).length) (by omega)
 unfold blkP
 rw[List.length_append,List.length_append]
 have e:(bodyP at_ ch).length=(blockOf (gapsN at_ (docsOf ch))).length+((blockOf (cntsN ch)).length+(listOf (plN ch).length (plN ch)).length):=by unfold bodyP;rw[List.length_append,List.length_append]
 omega
theorem blksP_few:∀ (m:Nat) (at_:Int) (l:List S37),PL l->(blksP m at_ l).length<=1500*l.length+700*placesN l
 |0,_,_,_=>Nat.zero_le _
 |m+1,at_,l,h=>by
  rw[blksP]
  by_cases h0:l.length=0
  .rw[if_pos h0];exact Nat.zero_le _
  .rw[if_neg h0,List.length_append]
   have h1:=blkP_few (chunkP h h0) at_
   have h2:=blksP_few m (lastD at_ (l.take 32)) (l.drop 32) (h.drop 32)
   have h3:=placesN_append (l.take 32) (l.drop 32)
   rw[List.take_append_drop]at h3
   rw[List.length_drop]at h2
   omega
theorem bytes_few {l:List S37} (h:Few l):(bytesP l).length<=700000:=by
 have h1:=length_numEnc_le (v:=l.length) (by have:=h.len;omega)
 have h2:=blksP_few l.length (-1) l h.pl
 have h3:=h.len
 have h4:=h.places
 unfold bytesP
 rw[List.length_append]
 omega
theorem put_few {l:List S37} (h:Few l) (b:List Int) (hB:B8 b) (hb:b.length<=1000000000000):Ev (fun k=>post_Put.f k b l) (if formedOf l then(b++bytesP l,0)else([],1)):=
 putP_ev b hB h.pl (by have:=h.len;omega) hb
theorem alive13:Ev (fun k=>dragnetlaw13_alive.f k) true:=by
 obtain⟨l,hl⟩:∃ l:List S37,l=[⟨3,[0]⟩,⟨5,[1,4]⟩]:=⟨_,rfl⟩
 have hF:Few l:=by rw[hl];exact⟨by decide,by decide⟩
 have hf:formedOf l=true:=by rw[hl];decide+kernel
 have hB:=in_bytesP hF.pl (by have:=hF.len;omega)
 have hlen:=bytes_few hF
 have hput:=put_few hF [] (In.nil _) (by simp)
 rw[hf]at hput
 simp only[if_true,List.nil_append]at hput
 have hseek:=seekP_ev (bytesP l) hB (by omega) 4
 have hsb:=seek_back hf hF.pl (by have:=hF.len;omega) [] 4
 rw[List.append_nil]at hsb
 rw[hsb,show firstP 4 l=(5,[1,4],1,0) by rw[hl];rfl]at hseek
 have hc:Chunk l:=⟨by rw[hl];decide,by rw[hl];decide,hF.pl⟩
 have e:bytesP l=2 :: 5 :: (numEnc (bodyP (-1) l).length++bodyP (-1) l):=by
  have e1:l.length=2:=by rw[hl];rfl
  have e2:blksP 2 (-1) l=blkP (-1) l:=by
   rw[blksP,if_neg (by omega),List.take_of_length_le (by omega),List.drop_of_length_le (by omega),blksP,if_pos (List.length_nil (α:=S37)),List.append_nil]
  have e3:un (lastD (-1) l)=5:=by rw[hl];rfl
  unfold bytesP
  rw[e1,e2]
  unfold blkP
  rw[e3]
  rfl
 have hlp:1<=(bodyP (-1) l).length:=by
  have h1:=(takeB_spec (in_bodyP hc (-1)))
  have hu:=takeB_back (lt_gapsN (docsOf l) (-1)) (by simpa using hc.pos) (by simpa using hc.le) (blockOf (cntsN l)++listOf (plN l).length (plN l))
  have eb:bodyP (-1) l=blockOf (gapsN (-1) (docsOf l))++(blockOf (cntsN l)++listOf (plN l).length (plN l)):=rfl
  rw[<- eb]at hu
  rcases h1 with h1|⟨ns,z,h1,_,_,_,hz,_,hz4⟩
  .rw[hu]at h1
   injection h1 with _ h2
   injection h2 with _ h3
   exact absurd h3 (by decide)
  .omega
 have hnl:1<=(numEnc (bodyP (-1) l).length).length:=by rw[length_numEnc];split<;>omega
 have hll:4<=(bytesP l).length:=by rw[e];simp only[List.length_cons,List.length_append];omega
 unfold dragnetlaw13_alive.f
 rw[<- hl]
 refine Ev.bind hput (Ev.bind hseek ?_)
 simp only[]
 have r0:rd (bytesP l) 0=2:=by rw[e];rfl
 have r1:rd (bytesP l) 1=5:=by rw[e];rfl
 rw[r0,r1]
 exact Ev.if_t (by trivial) (Ev.if_t (by trivial) (Ev.if_t (by trivial) (Ev.if_t (by trivial) (Ev.if_t (by rfl) (Ev.if_t (by omega) (Ev.if_t (by omega) (Ev.if_t (by trivial) (Ev.if_t (by omega) (Ev.of_eq fun _=>rfl)))))))))
end Go.Proofs.YtooeclfeallkkaaQ
end
section
namespace Go.Proofs.Ytooeclfeallkkaa.Pure
open Go.RowKit Go.Proofs.Ytooeclfeallkkaa.P Go.Proofs.YtooeclfeallkkaaW.PrintWords Go.Proofs.YtooeclfeallkkaaW.PrintLast Go.Proofs.YtooeclfeallkkaaQ
theorem firstP_plen (doc:Int) (l:List S37) (n:Nat) (h:∀ p∈l,p.f1.length<=n):(firstP doc l).2.1.length<=n:=by
 unfold firstP
 cases e:l.find? fun p=>decide (doc<=p.f0)with
 |none=>exact Nat.zero_le _
 |some p=>exact h p (List.mem_of_find?_eq_some e)
theorem goS_plen {b:List Int} (doc:Int):∀ (bl:List QB),(∀ x∈bl,QOk b x)->(goS doc bl).2.1.length<=32*b.length
 |[],_=>by simp[goS]
 |x :: r,hq=>by
  rw[goS]
  by_cases h0:x.1=0
  .rw[if_pos h0];exact Nat.zero_le _
  rw[if_neg h0]
  by_cases h1:x.2.2.1 < doc
  .rw[if_pos h1];exact goS_plen doc r (fun y hy=>hq y (List.mem_cons_of_mem _ hy))
  rw[if_neg h1]
  cases h2:(unX x).2 with
  |false=>exact Nat.zero_le _
  |true=>
   rw[if_neg (by decide)]
   obtain⟨u,hu,_,_,_,_,hp⟩:=unpackOf_true (hq x List.mem_cons_self).1 (n:=x.1) (at_:=x.2.1) (last:=x.2.2.1) h2
   have e:unX x=(u,true):=hu
   rw[e]
   refine firstP_plen doc u _ (fun p hp'=>?_)
   have g1:=hp p hp'
   have g2:=(hq x List.mem_cons_self).2.1
   omega
theorem PostSeeks:dragnetlaw13_PostSeeks.Pure:=by
 intro b doc _ hl hb _
 have hB:B8 b:=fun x hx=>wf_u8 (hb x hx)
 refine Ev.rounds (r:=true) ?_
 unfold dragnetlaw13_PostSeeks.f
 refine Ev.bind alive13 (Ev.if_t rfl ?_)
 by_cases h:(b.length:Int) > 2000
 .exact Ev.if_t h (Ev.now _)
 .have hp:=goS_plen doc (blocksOf b) (qok_blocks b hB).1
  refine Ev.if_f h (Ev.bind (seekP_ev b hB (by omega) doc) (Ev.bind (refseekP_ev b hB (by omega) doc) (Ev.bind (post_self _ _ (by unfold seekPOf;omega)) (Ev.if_t rfl (Ev.if_t rfl (Ev.of_eq fun _=>by simp))))))
end Go.Proofs.Ytooeclfeallkkaa.Pure
end
