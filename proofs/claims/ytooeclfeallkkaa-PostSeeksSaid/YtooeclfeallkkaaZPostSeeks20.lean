/- Words and proofs that PostSeeks leans on; put together by wip/tools/shake.py. -/
import Derived.Test.YtooeclfeallkkaaZPostSeeks7
import Derived.Test.YtooeclfeallkkaaZPostSeeks13
import Derived.Test.YtooeclfeallkkaaZPostSeeks14
import Derived.Test.YtooeclfeallkkaaZPostSeeks15
import Derived.Test.YtooeclfeallkkaaZPostSeeks16
import Derived.Test.YtooeclfeallkkaaZPostSeeks17
import Derived.Test.YtooeclfeallkkaaZPostSeeks18
import Derived.Test.YtooeclfeallkkaaZPostSeeks19
section
namespace Go.Proofs.Ytooeclfeallkkaa.P
open Go.RowKit Go.Proofs.YtooeclfeallkkaaW.PrintWords Go.Proofs.YtooeclfeallkkaaW.PrintLast Go.Proofs.YtooeclfeallkkaaW.PrintMore
attribute [local go_sem] max2_int min2_int max_two min_two max_three min_three max_four min_four
set_option linter.unusedVariables false
set_option linter.unusedSimpArgs false
end Go.Proofs.Ytooeclfeallkkaa.P
end
section
namespace Go.Proofs.YtooeclfeallkkaaQ
open Go.RowKit Go.Proofs.YtooeclfeallkkaaW.PrintWords Go.Proofs.YtooeclfeallkkaaW.PrintMore Go.Proofs.YtooeclfeallkkaaW.PrintLast Go.Proofs.Ytooeclfeallkkaa.P
theorem copy8 (l:List Int) (h:l.length < 140737488355328):dragnetref01_Copy.f l=some l:=by
 unfold dragnetref01_Copy.f
 simp[h]
theorem same8 {a b:List Int} (ha:B8 a) (hb:B8 b):dragnetref01_Same.f a b=some (decide (a=b)):=by
 unfold dragnetref01_Same.f
 rw[str_eq ha hb]
def pval (w:Nat):List Int->Nat
 |[]=>0
 |v :: vs=>v.toNat+2 ^ w*pval w vs
def Fit (w:Nat) (l:List Int):Prop:=∀ x∈l,x.toNat < 2 ^ w
instance (w : Nat) (l : List Int) : Decidable (Fit w l) := inferInstanceAs (Decidable (∀ x ∈ l, x.toNat < 2 ^ w))
theorem pval_append (w:Nat):∀ a b:List Int,pval w (a++b)=pval w a+2 ^ (w*a.length)*pval w b
 |[],b=>by simp[pval]
 |x :: a,b=>by
  simp only[List.cons_append,pval,pval_append w a b,List.length_cons,Nat.mul_add,Nat.mul_one,Nat.pow_add]
  rw[Nat.add_assoc,<- Nat.mul_assoc,Nat.mul_comm (2 ^ w) (2 ^ (w*a.length)),]
theorem pval_lt (w:Nat):∀ {l:List Int},Fit w l->pval w l < 2 ^ (w*l.length)
 |[],_=>by simp[pval]
 |x :: l,h=>by
  have h1:=h x List.mem_cons_self
  have h2:=pval_lt w (l:=l) (fun y hy=>h y (List.mem_cons_of_mem _ hy))
  simp only[pval,List.length_cons,Nat.mul_add,Nat.mul_one,Nat.pow_add]
  calc x.toNat+2 ^ w*pval w l < 2 ^ w+2 ^ w*pval w l:=by omega
   _=2 ^ w*(pval w l+1):=by rw[Nat.mul_add,Nat.mul_one,Nat.add_comm]
   _<=2 ^ w*2 ^ (w*l.length):=Nat.mul_le_mul_left _ h2
   _=2 ^ (w*l.length)*2 ^ w:=Nat.mul_comm _ _
theorem pval_take_succ (w:Nat) (l:List Int) (i:Nat) (h:i < l.length):pval w (l.take (i+1))=pval w (l.take i)+2 ^ (w*i)*l[i].toNat:=by
 rw[List.take_succ_eq_append_getElem h,pval_append]
 simp[pval,Nat.min_eq_left (Nat.le_of_lt h)]
theorem Fit.take {w:Nat} {l:List Int} (h:Fit w l) (n:Nat):Fit w (l.take n):=fun x hx=>h x (List.mem_of_mem_take hx)
theorem pval_get (w:Nat):∀ (l:List Int) (i:Nat),Fit w l->(h:i < l.length)->pval w l / 2 ^ (i*w) % 2 ^ w=l[i].toNat
 |x :: l,0,hf,_=>by
  have h1:=hf x List.mem_cons_self
  simp only[Nat.zero_mul,Nat.pow_zero,Nat.div_one,pval,List.getElem_cons_zero]
  rw[Nat.add_mul_mod_self_left,Nat.mod_eq_of_lt h1]
 |x :: l,i+1,hf,hi=>by
  have h1:=hf x List.mem_cons_self
  have e:pval w (x :: l) / 2 ^ w=pval w l:=by
   simp only[pval]
   rw[Nat.add_mul_div_left _ _ (two_pow_pos' w),Nat.div_eq_of_lt h1,Nat.zero_add]
  have ih:=pval_get w l i (fun y hy=>hf y (List.mem_cons_of_mem _ hy)) (by simpa using hi)
  rw[Nat.succ_mul,Nat.add_comm,Nat.pow_add,<- Nat.div_div_eq_div_mul,e,ih]
  simp
def orAll:Nat->List Int->Nat
 |a,[]=>a
 |a,x :: xs=>orAll (a |||x.toNat) xs
theorem orAll_lt (w:Nat):∀ (l:List Int) (a:Nat),orAll a l < 2 ^ w↔a < 2 ^ w∧Fit w l
 |[],a=>by simp[orAll,Fit]
 |x :: l,a=>by
  simp only[orAll]
  rw[orAll_lt w l]
  constructor
  .rintro⟨h1,h2⟩
   have ha:a < 2 ^ w:=Nat.lt_of_le_of_lt Nat.left_le_or h1
   have hx:x.toNat < 2 ^ w:=Nat.lt_of_le_of_lt Nat.right_le_or h1
   refine⟨ha,fun y hy=>?_⟩
   rcases List.mem_cons.1 hy with rfl|hy
   .exact hx
   .exact h2 y hy
  .rintro⟨h1,h2⟩
   exact⟨Nat.or_lt_two_pow h1 (h2 x List.mem_cons_self),fun y hy=>h2 y (List.mem_cons_of_mem _ hy)⟩
def widthOf (l:List Int):Nat:=Lib.bitLen (orAll 0 l)
theorem fit64 {l:List Int} (h:U64 l):Fit 64 l:=fun x hx=>by
 have:=h x hx
 omega
theorem widthOf_le {l:List Int} (h:U64 l) {w:Nat} (hw:w<=64):widthOf l<=w↔Fit w l:=by
 unfold widthOf
 have h64:orAll 0 l < 2 ^ 64:=(orAll_lt 64 l 0).2 ⟨by decide,fit64 h⟩
 rw[bitLen_le_iff h64 hw,orAll_lt]
 exact⟨fun h=>h.2,fun h=>⟨two_pow_pos' w,h⟩⟩
theorem width_loop (l:List Int) (hl:U64 l) (hn:l.length<=17592186044416):∀ (d i a:Nat),i+d=l.length->a < 2 ^ 64->
  Ev (fun k=>bits_Width.l0 k (a:Int) l (l.length:Int) (i:Int)) ((Lib.bitLen (orAll a (l.drop i)):Nat):Int)
 |0,i,a,hi,ha=>by
  apply Ev.succ
  simp only[bits_Width.l0]
  refine Ev.if_f (by omega) ?_
  refine Ev.obind (a:=((Lib.bitLen a:Nat):Int)) ?_ ?_
  .unfold bits_Len64.f
   rw[if_pos (by omega),if_pos (by omega),Int.toNat_natCast]
  .rw[List.drop_of_length_le (by omega)]
   exact Ev.now _
 |d+1,i,a,hi,ha=>by
  have hil:i < l.length:=by omega
  have hx:=hl.get i hil
  have ha':a |||l[i].toNat < 2 ^ 64:=Nat.or_lt_two_pow ha (by omega)
  apply Ev.succ
  simp only[bits_Width.l0]
  refine Ev.if_t (by omega) (Ev.if_t (by omega) (Ev.if_t (by omega) ?_))
  rw[rd_nat l i hil,show wrap64 ((i:Int)+1)=((i+1:Nat):Int) from by rw[w64 (by omega) (by omega)];omega]
  rw[show Go.bits .or .u64 (a:Int) l[i]=((a |||l[i].toNat:Nat):Int) from by rw[<- or_u64 a _ ha (by omega),Int.toNat_of_nonneg hx.1]]
  rw[List.drop_eq_getElem_cons hil]
  exact width_loop l hl hn d (i+1) _ (by omega) ha'
theorem width_ev {l:List Int} (hl:U64 l) (hn:l.length<=17592186044416):Ev (fun k=>bits_Width.f k l) (widthOf l:Int):=by
 have:=width_loop l hl hn l.length 0 0 (by omega) (by decide)
 simpa[bits_Width.f,widthOf]using this
theorem mask_of (n:Nat) (hn:n<=63):IntKind.u64.wrap ((shl .u64 1 (n:Int)) - 1)=2 ^ n - 1:=by
 have h1:=Nat.pow_le_pow_right (show 0 < 2 by decide) hn
 have h2:=two_pow_pos' n
 have h3:=cast_pow n
 rw[shl_u64 _ _ (by omega),Int.one_mul,wu64 (x:=2 ^ n) (by omega) (by omega),wu64 (by omega) (by omega)]
theorem shift_small (x a b:Nat) (hx:x < 2 ^ a):x*2 ^ b < 2 ^ (a+b):=by
 rw[Nat.pow_add]
 exact Nat.mul_lt_mul_of_pos_right hx (two_pow_pos' b)
theorem pack_bits (c has v n:Nat) (hc:c < 2 ^ has) (hn:has+n<=8) (hv:v < 2 ^ 64):
  Go.bits .or .u64 (c:Int) (shl .u64 (Go.bits .and .u64 (v:Int) (IntKind.u64.wrap ((shl .u64 1 (n:Int)) - 1))) (has:Int))=((c+v % 2 ^ n*2 ^ has:Nat):Int):=by
 have hlt:v % 2 ^ n*2 ^ has < 2 ^ (n+has):=shift_small _ _ _ (Nat.mod_lt _ (two_pow_pos' n))
 have h8:=pow_le_256 (n:=n+has) (by omega)
 have h9:=pow_le_256 (n:=has) (by omega)
 rw[mask_of n (by omega),mask_u64 n (by omega) (v:Int) (by omega) (by omega),shl_u64 _ _ (by omega)]
 rw[show((v:Int) % 2 ^ n*2 ^ has)=((v % 2 ^ n*2 ^ has:Nat):Int) by simp]
 rw[wu64 (by omega) (by omega),or_high has _ _ (by omega) ?_ (by omega) (by omega) ?_ (by omega)]
 .omega
 .rw[show((v % 2 ^ n*2 ^ has:Nat):Int) % 2 ^ has=((v % 2 ^ n*2 ^ has % 2 ^ has:Nat):Int) by simp]
  rw[Nat.mul_mod_left];rfl
 .rw[<- cast_pow];omega
def tot (out:List Int) (c:Nat):Nat:=val out+256 ^ out.length*c
theorem tot_step (out:List Int) (c has v n:Nat):tot out (c+v % 2 ^ n*2 ^ has)+2 ^ (8*out.length+has+n)*(v / 2 ^ n)=tot out c+2 ^ (8*out.length+has)*v:=by
 unfold tot
 rw[p256,Nat.pow_add _ (8*out.length+has) n,Nat.pow_add _ (8*out.length) has]
 generalize 2 ^ (8*out.length)=A
 generalize hB:2 ^ has=B
 have e:v=v % 2 ^ n+2 ^ n*(v / 2 ^ n):=(Nat.mod_add_div v (2 ^ n)).symm
 generalize hC:2 ^ n=C at*
 generalize v % C=m at*
 generalize v / C=q at*
 subst e
 simp only[Nat.mul_add,Nat.mul_comm,Nat.mul_left_comm,Nat.add_assoc]
theorem pack_inner (w:Int) (ls:List Int) (len i:Int) (r:List Int×Int):∀ (left:Nat) (out:List Int) (c has v:Nat),has < 8->c < 2 ^ has->v < 2 ^ left->left<=64->B8 out->
  8*out.length+has+left<=8*140737488355327->
  (∀ (out' : List Int) (c' has' : Nat), has' < 8 -> c' < 2 ^ has' -> B8 out' -> 8 * out'.length + has' = 8 * out.length + has + left -> tot out' c' = tot out c + 2 ^ (8 * out.length + has) * v ->
   Ev (fun k => bits_Pack.l0 k w out' (c' : Int) (has' : Int) ls len (wrap64 (i + 1))) r) ->
  Ev (fun k=>bits_Pack.l1 k w out (c:Int) (has:Int) (v:Int) (left:Int) ls len i) r:=by
 intro left
 induction left using Nat.strongRecOn with
 |_ left ih=>
 intro out c has v hhas hc hv hleft hout hlen hk
 apply Ev.succ
 simp only[bits_Pack.l1]
 by_cases h0:left=0
 .subst h0
  refine Ev.if_f (by omega) ?_
  have hv0:v=0:=by simpa using hv
  exact hk out c has hhas hc hout (by omega) (by rw[hv0];simp)
 .refine Ev.if_t (by omega) ?_
  have hw8:wrap64 (8 - (has:Int))=((8 - has:Nat):Int):=by rw[w64 (by omega) (by omega)];omega
  rw[hw8,mn_eq]
  generalize hn:min left (8 - has)=n
  have hn1:1<=n:=by omega
  have hn2:has+n<=8:=by omega
  have hn3:n<=left:=by omega
  have hv64:v < 2 ^ 64:=Nat.lt_of_lt_of_le hv (Nat.pow_le_pow_right (by decide) hleft)
  have hpb:=pack_bits c has v n hc hn2 hv64
  have hc':c+v % 2 ^ n*2 ^ has < 2 ^ (has+n):=by
   have h1:v % 2 ^ n*2 ^ has+2 ^ has<=2 ^ n*2 ^ has:=by
    have:=Nat.mul_le_mul_right (2 ^ has) (Nat.mod_lt v (two_pow_pos' n))
    simpa[Nat.succ_mul]using this
   rw[Nat.add_comm has n,Nat.pow_add];omega
  have hvn:v / 2 ^ n < 2 ^ (left - n):=by
   rw[Nat.div_lt_iff_lt_mul (two_pow_pos' n),<- Nat.pow_add,show left - n+n=left by omega]
   exact hv
  have hs:shr .u64 (v:Int) (n:Int)=((v / 2 ^ n:Nat):Int):=by rw[shr_u64 _ _ (by omega)];simp
  have hl:wrap64 ((left:Int) - (n:Int))=((left - n:Nat):Int):=by rw[w64 (by omega) (by omega)];omega
  have hh:wrap64 ((has:Int)+(n:Int))=((has+n:Nat):Int):=by rw[w64 (by omega) (by omega)];omega
  rw[hpb,hs,hl,hh]
  have hts:=tot_step out c has v n
  have hX:c+v % 2 ^ n*2 ^ has < 256:=Nat.lt_of_lt_of_le hc' (pow_le_256 hn2)
  clear hpb hs hl hh hw8 hv64 hv hc
  generalize c+v % 2 ^ n*2 ^ has=X at*
  generalize v / 2 ^ n=v' at*
  have c1:(0:Int)<=(n:Int):=by omega
  have c2:(0:Int)<=(has:Int):=by omega
  refine Ev.if_t c1 (Ev.if_t c2 ?_)
  by_cases h8:has+n=8
  .have hroom:out.length < 140737488355328:=by clear hts hvn hX hc';omega
   have hbm:(X:Int) % 256=(X:Int):=by clear hts hvn hc';omega
   refine Ev.if_t (by rw[h8];rfl) (Ev.if_t hroom ?_)
   rw[hbm]
   have hlen':(out++[(X:Int)]).length=out.length+1:=by simp
   have e1:tot (out++[(X:Int)]) 0=tot out X:=by
    unfold tot
    rw[val_append]
    simp[val]
   refine ih (left - n) (by omega) (out++[(X:Int)]) 0 0 v' (by omega) (by simp) hvn (by omega) (hout.append (In.single (by omega) (by clear hts hvn hc';omega))) (by rw[hlen'];clear hts hvn hc';omega) ?_
   intro out' c' has' g1 g2 g3 g4 g5
   rw[hlen']at g4 g5
   refine hk out' c' has' g1 g2 g3 (by clear hts hvn hc' g5 g2;omega) ?_
   rw[g5,e1,show 8*(out.length+1)+0=8*out.length+has+n by omega]
   exact hts
  .refine Ev.if_f (by clear hts hvn hc';omega) ?_
   refine ih (left - n) (by omega) out X (has+n) v' (by omega) hc' hvn (by omega) hout (by clear hts hvn hc';omega) ?_
   intro out' c' has' g1 g2 g3 g4 g5
   refine hk out' c' has' g1 g2 g3 (by clear hts hvn hc' g5 g2;omega) ?_
   rw[g5,<- Nat.add_assoc]
   exact hts
def packOf (w:Nat) (l:List Int):List Int:=digits ((w*l.length+7) / 8) (pval w l)
theorem pack_loop (w:Nat) (l:List Int) (hl:Fit w l) (hu:U64 l) (hw:w<=64) (hn:l.length*8<=140737488351232):∀ (d i:Nat) (out:List Int) (c has:Nat),i+d=l.length->has < 8->c < 2 ^ has->B8 out->
  8*out.length+has=w*i->tot out c=pval w (l.take i)->
  Ev (fun k=>bits_Pack.l0 k (w:Int) out (c:Int) (has:Int) l (l.length:Int) (i:Int)) (packOf w l,0)
 |0,i,out,c,has,hi,hhas,hc,hout,hb,ht=>by
  have hil:i=l.length:=by omega
  have hwl:w*l.length<=64*l.length:=Nat.mul_le_mul_right _ hw
  rw[hil]at ht hb
  rw[List.take_length]at ht
  apply Ev.succ
  simp only[bits_Pack.l0]
  refine Ev.if_f (by omega) ?_
  by_cases h0:has=0
  .refine Ev.if_f (by omega) ?_
   have e:out=packOf w l:=by
    refine eq_digits hout (by omega) ?_
    rw[<- ht];unfold tot
    have:c=0:=by rw[h0]at hc;simpa using hc
    rw[this];simp
   rw[e];exact Ev.now _
  .refine Ev.if_t (by omega) ?_
   have hroom:out.length < 140737488355328:=by omega
   refine Ev.if_t hroom ?_
   have hc8:c < 256:=Nat.lt_of_lt_of_le hc (pow_le_256 (by omega))
   rw[show(c:Int) % 256=(c:Int) by omega]
   have e:out++[(c:Int)]=packOf w l:=by
    refine eq_digits (hout.append (In.single (by omega) (by omega))) (by simp;omega) ?_
    rw[val_append,<- ht];simp[val,tot]
   rw[e];exact Ev.now _
 |d+1,i,out,c,has,hi,hhas,hc,hout,hb,ht=>by
  have hil:i < l.length:=by omega
  have hx:=hu.get i hil
  have hwi:w*(i+1)<=64*l.length:=Nat.mul_le_mul hw hil
  have hwe:w*(i+1)=w*i+w:=Nat.mul_succ w i
  apply Ev.succ
  simp only[bits_Pack.l0]
  refine Ev.if_t (by omega) (Ev.if_t (by omega) (Ev.if_t (by omega) ?_))
  rw[rd_nat l i hil,show l[i]=((l[i].toNat:Nat):Int) from(Int.toNat_of_nonneg hx.1).symm]
  refine pack_inner (w:Int) l (l.length:Int) (i:Int) _ w out c has l[i].toNat hhas hc (hl _ (List.getElem_mem hil)) hw hout (by omega) ?_
  intro out' c' has' g1 g2 g3 g4 g5
  rw[show wrap64 ((i:Int)+1)=((i+1:Nat):Int) from by rw[w64 (by omega) (by omega)];omega]
  refine pack_loop w l hl hu hw hn d (i+1) out' c' has' (by omega) g1 g2 g3 (by omega) ?_
  rw[g5,pval_take_succ w l i hil,ht,hb]
theorem pack_ok {l:List Int} (hu:U64 l) (hn:l.length*8<=140737488351232) {w:Nat} (hw:w<=64) (hf:Fit w l):Ev (fun k=>bits_Pack.f k l (w:Int)) (packOf w l,0):=by
 unfold bits_Pack.f
 refine Ev.if_f (by omega) ?_
 rw[show decide ((w:Int) > 64)=false from decide_eq_false (by omega)]
 apply Ev.succ
 simp only[bits_Pack.j0]
 refine Ev.if_f (by decide) (Ev.bind (width_ev hu (by omega)) ?_)
 have hle:=(widthOf_le hu hw).2 hf
 refine Ev.if_f (by omega) ?_
 have h1:wrap64 ((l.length:Int) / 8)=((l.length / 8:Nat):Int):=by rw[w64 (by omega) (by omega)];omega
 have hm:l.length / 8*w<=l.length / 8*64:=Nat.mul_le_mul_left _ hw
 have h2:wrap64 (((l.length / 8:Nat):Int)*(w:Int))=((l.length / 8*w:Nat):Int):=by rw[<- Int.natCast_mul,w64 (by omega) (by omega)]
 have h3:wrap64 (((l.length / 8*w:Nat):Int)+(w:Int))=((l.length / 8*w+w:Nat):Int):=by rw[<- Int.natCast_add,w64 (by omega) (by omega)]
 rw[h1,h2,h3]
 refine Ev.if_t (by omega) (Ev.if_t (by omega) ?_)
 have:=pack_loop w l hf hu hw hn l.length 0 [] 0 0 (by omega) (by decide) (by decide) (In.nil _) (by simp) (by simp[tot,val,pval])
 exact this
theorem fits_eq (v:Int) (w:Nat) (h0:0<=v) (h1:v<=18446744073709551615):dragnetref03_Fits.f v (w:Int)=some (decide (v.toNat < 2 ^ w)):=by
 unfold dragnetref03_Fits.f
 by_cases h:64<=w
 .have:=Nat.pow_le_pow_right (show 0 < 2 by decide) h
  rw[if_pos (by omega),decide_eq_true (by omega)]
 .rw[if_neg (by omega),if_pos (by omega),shr_u64 _ _ (by omega)]
  congr 1
  rw[Bool.eq_iff_iff,beq_iff_eq,decide_eq_true_iff]
  obtain⟨n,rfl⟩:=Int.eq_ofNat_of_zero_le h0
  rw[show(n:Int) / 2 ^ w=((n / 2 ^ w:Nat):Int) by simp,Int.toNat_natCast]
  have:=Nat.div_eq_zero_iff_lt (x:=n) (two_pow_pos' w)
  omega
theorem ref_size (n w:Nat) (h:n*w<=9223372036854775800):dragnetref03_Size.f (n:Int) (w:Int)=some (((n*w+7) / 8:Nat):Int):=by
 unfold dragnetref03_Size.f
 have e1:wrap64 ((n:Int)*(w:Int))=((n*w:Nat):Int):=by rw[<- Int.natCast_mul,w64 (by omega) (by omega)]
 have e2:wrap64 (((n*w:Nat):Int)+7)=((n*w+7:Nat):Int):=by rw[w64 (by omega) (by omega)];omega
 have e3:Int.tdiv ((n*w+7:Nat):Int) 8=(((n*w+7) / 8:Nat):Int):=by rw[Int.tdiv_eq_ediv_of_nonneg (by omega)];omega
 rw[e1,e2,e3,w64 (by omega) (by omega)]
theorem set_bit (b:List Int) (p:Nat) (hb:B8 b) (hv:val b < 2 ^ p) (hp:p / 8 < b.length):
  ∃ b',b.set (p / 8) ((rd b ((p / 8:Nat):Int)+2 ^ (p % 8)) % 256)=b'∧B8 b'∧b'.length=b.length∧val b'=val b+2 ^ p:=by
 have hg:=val_get b (p / 8) hb hp
 have hr:p % 8 < 8:=Nat.mod_lt _ (by decide)
 have hsplit:2 ^ p=256 ^ (p / 8)*2 ^ (p % 8):=by rw[p256,<- Nat.pow_add];congr 1;omega
 have hq:val b / 256 ^ (p / 8) < 2 ^ (p % 8):=by
  rw[Nat.div_lt_iff_lt_mul (by rw[p256];exact two_pow_pos' _),Nat.mul_comm,<- hsplit];exact hv
 have h7:2 ^ (p % 8)<=128:=by
  have:=Nat.pow_le_pow_right (show 0 < 2 by decide) (show p % 8<=7 by omega)
  simpa using this
 have hm:val b / 256 ^ (p / 8) % 256=val b / 256 ^ (p / 8):=Nat.mod_eq_of_lt (by omega)
 rw[hm]at hg
 rw[rd_nat b _ hp,<- hg,<- cast_pow]
 have hnum:(((val b / 256 ^ (p / 8):Nat):Int)+((2 ^ (p % 8):Nat):Int)) % 256=((val b / 256 ^ (p / 8)+2 ^ (p % 8):Nat):Int):=by omega
 rw[hnum]
 refine⟨_,rfl,hb.set _ (by omega) (by omega),by simp,?_⟩
 have:=val_set b (p / 8) ((val b / 256 ^ (p / 8)+2 ^ (p % 8):Nat):Int) hb (by omega) hp
 rw[<- hg,Int.toNat_natCast,Int.toNat_natCast,Nat.mul_add,<- hsplit]at this
 omega
theorem div_pow_mod2 (x k:Nat):x % 2 ^ (k+1)=x % 2 ^ k+2 ^ k*(x / 2 ^ k % 2):=by
 rw[Nat.pow_succ,Nat.mod_mul]
theorem ref_pack_inner (w:Nat) (l:List Int) (i:Nat) (r:List Int×Int) (hw:w<=64) (hi:i < l.length) (hu:U64 l) (hn:l.length*8<=140737488351232):
  ∀ (d k:Nat) (b:List Int),k+d=w->B8 b->b.length=(w*l.length+7) / 8->val b < 2 ^ (w*i+k)->
  (∀ b':List Int,B8 b'->b'.length=b.length->val b'+2 ^ (w*i)*(l[i].toNat % 2 ^ k)=val b+2 ^ (w*i)*(l[i].toNat % 2 ^ w)->Ev (fun n=>dragnetref03_Pack.l0 n l (w:Int) b' (wrap64 ((i:Int)+1))) r)->
  Ev (fun n=>dragnetref03_Pack.l1 n l (w:Int) b (i:Int) (k:Int)) r
 |0,k,b,hk,hb,hlen,hv,hc=>by
  apply Ev.succ
  simp only[dragnetref03_Pack.l1]
  refine Ev.if_f (by omega) ?_
  exact hc b hb rfl (by rw[show k=w by omega])
 |d+1,k,b,hk,hb,hlen,hv,hc=>by
  have hx:=hu.get i hi
  have hkw:k < w:=by omega
  apply Ev.succ
  simp only[dragnetref03_Pack.l1]
  refine Ev.if_t (by omega) (Ev.if_t (by omega) (Ev.if_t (by omega) (Ev.if_t (by omega) ?_)))
  rw[rd_nat l i hi,shr_u64 _ _ (by omega)]
  have hwi:w*i<=64*l.length:=Nat.mul_le_mul hw (by omega)
  have hwl:w*(i+1)<=w*l.length:=Nat.mul_le_mul_left _ hi
  rw[Nat.mul_succ]at hwl
  have hp0:w*i+k<=9223372036854775800:=by omega
  rw[place w i k hp0,div8 _ hp0,mod8,inc k (by omega)]
  generalize hvn:l[i].toNat=v at*
  have hl:l[i]=(v:Int):=by omega
  rw[hl,show(v:Int) / 2 ^ k=((v / 2 ^ k:Nat):Int) by simp]
  have hbit:=div_pow_mod2 v k
  by_cases h1:v / 2 ^ k % 2=1
  .refine Ev.if_t (by rw[mod2];omega) (Ev.if_t (by omega) (Ev.if_t (by omega) (Ev.if_t (by omega) ?_)))
   rw[shl_u8 _ _ (by omega),Int.one_mul,<- cast_pow,wu8 (Int.natCast_nonneg _) (by have:=Nat.pow_le_pow_right (show 0 < 2 by decide) (show(w*i+k) % 8<=7 by omega);omega),cast_pow,Int.toNat_natCast]
   obtain⟨b',hb',hB,hL,hV⟩:=set_bit b (w*i+k) hb hv (by omega)
   rw[hb']
   have hp:2 ^ (w*i+(k+1))=2 ^ (w*i+k)+2 ^ (w*i+k):=by rw[<- Nat.add_assoc,Nat.pow_succ];omega
   refine ref_pack_inner w l i r hw hi hu hn d (k+1) b' (by omega) hB (by omega) (by omega) ?_
   intro b2 g1 g2 g3
   refine hc b2 g1 (by omega) ?_
   rw[h1,Nat.mul_one]at hbit
   rw[hvn]at g3
   rw[hbit,Nat.mul_add,<- Nat.pow_add,hV]at g3
   omega
  .refine Ev.if_f (by rw[mod2];omega) ?_
   have hp:2 ^ (w*i+(k+1))=2 ^ (w*i+k)+2 ^ (w*i+k):=by rw[<- Nat.add_assoc,Nat.pow_succ];omega
   refine ref_pack_inner w l i r hw hi hu hn d (k+1) b (by omega) hb hlen (by omega) ?_
   intro b2 g1 g2 g3
   refine hc b2 g1 (by omega) ?_
   rw[show v / 2 ^ k % 2=0 by omega,Nat.mul_zero,Nat.add_zero]at hbit
   rw[hvn,hbit]at g3
   exact g3
theorem ref_pack_loop (w:Nat) (l:List Int) (hw:w<=64) (hu:U64 l) (hn:l.length*8<=140737488351232):
  ∀ (d i:Nat) (b:List Int),i+d=l.length->B8 b->b.length=(w*l.length+7) / 8->Fit w (l.take i)->val b=pval w (l.take i)->
  Ev (fun n=>dragnetref03_Pack.l0 n l (w:Int) b (i:Int)) (if Fit w l then(packOf w l,0)else([],7))
 |0,i,b,hi,hb,hlen,hf,hv=>by
  have hil:i=l.length:=by omega
  rw[hil,List.take_length]at hf hv
  apply Ev.succ
  simp only[dragnetref03_Pack.l0]
  refine Ev.if_f (by omega) ?_
  rw[if_pos hf,show b=packOf w l from eq_digits hb hlen hv]
  exact Ev.now _
 |d+1,i,b,hi,hb,hlen,hf,hv=>by
  have hil:i < l.length:=by omega
  have hx:=hu.get i hil
  apply Ev.succ
  simp only[dragnetref03_Pack.l0]
  refine Ev.if_t (by omega) (Ev.if_t (by omega) ?_)
  rw[rd_nat l i hil]
  refine Ev.obind (fits_eq l[i] w hx.1 hx.2) ?_
  by_cases hfit:l[i].toNat < 2 ^ w
  .rw[decide_eq_true hfit]
   refine Ev.if_t rfl ?_
   have hlt:val b < 2 ^ (w*i):=by
    rw[hv]
    have:=pval_lt w hf
    rwa [List.length_take,Nat.min_eq_left (by omega)]at this
   refine ref_pack_inner w l i _ hw hil hu hn w 0 b (by omega) hb hlen (by simpa using hlt) ?_
   intro b' g1 g2 g3
   rw[Nat.pow_zero,Nat.mod_one,Nat.mul_zero,Nat.add_zero,Nat.mod_eq_of_lt hfit]at g3
   rw[inc i (by omega)]
   have hf':Fit w (l.take (i+1)):=by
    rw[List.take_succ_eq_append_getElem hil]
    intro y hy
    rcases List.mem_append.1 hy with hy|hy
    .exact hf y hy
    .rw[List.mem_singleton]at hy
     subst hy;exact hfit
   exact ref_pack_loop w l hw hu hn d (i+1) b' (by omega) g1 (by omega) hf' (by rw[g3,hv,pval_take_succ w l i hil])
  .rw[decide_eq_false hfit]
   refine Ev.if_f (by decide) ?_
   rw[if_neg (fun h=>hfit (h _ (List.getElem_mem hil)))]
   exact Ev.now _
theorem ref_pack {l:List Int} (hu:U64 l) (hn:l.length*8<=140737488351232) {w:Nat} (hw:w<=64):Ev (fun k=>dragnetref03_Pack.f k l (w:Int)) (if Fit w l then(packOf w l,0)else([],7)):=by
 have hwl:w*l.length<=64*l.length:=Nat.mul_le_mul_right _ hw
 unfold dragnetref03_Pack.f
 refine Ev.if_f (by omega) ?_
 rw[show decide ((w:Int) > 64)=false from decide_eq_false (by omega)]
 apply Ev.succ
 simp only[dragnetref03_Pack.j0]
 refine Ev.if_f (by decide) (Ev.obind (ref_size l.length w (by rw[Nat.mul_comm];omega)) ?_)
 rw[Nat.mul_comm l.length w]
 refine Ev.if_t (by omega) (Ev.if_t (by omega) ?_)
 rw[Int.toNat_natCast]
 exact ref_pack_loop w l hw hu hn l.length 0 _ (by omega) (In.replicate _ (by decide) (by decide)) (by simp) (by intro x hx;simp at hx) (by simp[val_replicate,pval])
theorem in_packOf (w:Nat) (l:List Int):B8 (packOf w l):=in_digits _ _
theorem length_packOf (w:Nat) (l:List Int):(packOf w l).length=(w*l.length+7) / 8:=length_digits _ _
theorem Fit.mono {w w':Nat} {l:List Int} (h:Fit w l) (hw:w<=w'):Fit w' l:=fun x hx=>
 Nat.lt_of_lt_of_le (h x hx) (Nat.pow_le_pow_right (by decide) hw)
def unOf (V w n:Nat):List Int:=(List.range n).map fun i=>((V / 2 ^ (i*w) % 2 ^ w:Nat):Int)
theorem length_unOf (V w n:Nat):(unOf V w n).length=n:=by simp[unOf]
theorem unOf_succ (V w n:Nat):unOf V w (n+1)=unOf V w n++[((V / 2 ^ (n*w) % 2 ^ w:Nat):Int)]:=by
 simp[unOf,List.range_succ]
theorem unOf_pval (w:Nat) {l:List Int} (hf:Fit w l) (h0:∀ x∈l,0<=x):unOf (pval w l) w l.length=l:=by
 apply List.ext_getElem
 .rw[length_unOf]
 .intro i h1 h2
  simp only[unOf,List.getElem_map,List.getElem_range]
  rw[pval_get w l i hf h2,Int.toNat_of_nonneg (h0 _ (List.getElem_mem h2))]
theorem take_bits (b:List Int) (hb:B8 b) (p n:Nat) (hp:p / 8 < b.length) (hn:p % 8+n<=8):
  Go.bits .and .u8 (shr .u8 (rd b ((p / 8:Nat):Int)) ((p % 8:Nat):Int)) (((shl .u8 1 (n:Int)) - 1) % 256)=((val b / 2 ^ p % 2 ^ n:Nat):Int):=by
 have hg:=val_get b (p / 8) hb hp
 have hx:=hb.get (p / 8) hp
 rw[rd_nat b _ hp,shr_u8 _ _ (by omega),<- hg]
 have e1:((shl .u8 1 (n:Int)) - 1) % 256=2 ^ n - 1:=by
  rw[shl_u8 _ _ (by omega),Int.one_mul,IntKind.wrap_u8]
  by_cases h8:n=8
  .rw[h8];decide
  .have h1:=Nat.pow_le_pow_right (show 0 < 2 by decide) (show n<=7 by omega)
   have h2:=two_pow_pos' n
   have h3:=cast_pow n
   rw[Int.emod_eq_of_lt (a:=2 ^ n) (by omega) (by omega),Int.emod_eq_of_lt (by omega) (by omega)]
 rw[e1]
 generalize hy:val b / 256 ^ (p / 8) % 256=y at*
 have hy8:y < 256:=by omega
 rw[show(y:Int) / 2 ^ (p % 8)=((y / 2 ^ (p % 8):Nat):Int) by simp]
 have hy9:y / 2 ^ (p % 8)<=y:=Nat.div_le_self _ _
 rw[mask_u8 n (by omega) _ (Int.natCast_nonneg _) (by exact_mod_cast (show y / 2 ^ (p % 8) < 2 ^ 8 by omega)),show((y / 2 ^ (p % 8):Nat):Int) % 2 ^ n=((y / 2 ^ (p % 8) % 2 ^ n:Nat):Int) by simp]
 congr 1
 rw[<- hy]
 have hsplit:2 ^ p=256 ^ (p / 8)*2 ^ (p % 8):=by rw[p256,<- Nat.pow_add];congr 1;omega
 rw[hsplit,<- Nat.div_div_eq_div_mul]
 generalize val b / 256 ^ (p / 8)=q
 rw[show 256=2 ^ (p % 8)*2 ^ (8 - p % 8) by rw[<- Nat.pow_add,show p % 8+(8 - p % 8)=8 by omega],Nat.mod_mul_right_div_self]
 exact Nat.mod_mod_of_dvd _ (Nat.pow_dvd_pow 2 (by omega))
theorem mod_split (x a b:Nat):x % 2 ^ (a+b)=x % 2 ^ a+2 ^ a*(x / 2 ^ a % 2 ^ b):=by
 rw[Nat.pow_add,Nat.mod_mul]
theorem shr_add (x a b:Nat):x / 2 ^ (a+b)=x / 2 ^ a / 2 ^ b:=by rw[Nat.pow_add,Nat.div_div_eq_div_mul]
def part (V w i n:Nat) (x:Nat):List Int:=unOf V w i++(x:Int) :: List.replicate (n - i - 1) 0
theorem length_part {V w i n x:Nat} (h:i < n):(part V w i n x).length=n:=by simp[part,length_unOf];omega
theorem rd_part {V w i n x:Nat} (h:i < n):rd (part V w i n x) (i:Int)=(x:Int):=by
 rw[rd_nat _ i (by rw[length_part h];exact h)]
 unfold part
 rw[List.getElem_append_right (by rw[length_unOf];omega)]
 simp[length_unOf]
theorem set_part {V w i n x y:Nat}:(part V w i n x).set i (y:Int)=part V w i n y:=by
 unfold part
 rw[List.set_append_right _ _ (by rw[length_unOf];omega)]
 simp[length_unOf]
theorem or_bits (V s g n w:Nat) (hg:g+n<=w) (hw:w<=64):
  Go.bits .or .u64 ((V / 2 ^ s % 2 ^ g:Nat):Int) (shl .u64 (IntKind.u64.wrap ((V / 2 ^ (s+g) % 2 ^ n:Nat):Int)) (g:Int))=((V / 2 ^ s % 2 ^ (g+n):Nat):Int):=by
 have h1:=Nat.mod_lt (V / 2 ^ (s+g)) (two_pow_pos' n)
 have h2:=Nat.pow_le_pow_right (show 0 < 2 by decide) (show n<=64 by omega)
 have h3:=Nat.mod_lt (V / 2 ^ s) (two_pow_pos' g)
 have h4:=Nat.pow_le_pow_right (show 0 < 2 by decide) (show g<=64 by omega)
 have h5:=Nat.pow_le_pow_right (show 0 < 2 by decide) (show n+g<=64 by omega)
 have h6:=shift_small _ _ g h1
 have h7:=mod_split (V / 2 ^ s) g n
 rw[<- shr_add]at h7
 rw[h7]
 generalize V / 2 ^ (s+g) % 2 ^ n=a at*
 generalize V / 2 ^ s % 2 ^ g=c at*
 rw[wu64 (x:=(a:Int)) (by omega) (by omega),shl_u64 _ _ (by omega)]
 rw[show((a:Int)*2 ^ g)=((a*2 ^ g:Nat):Int) by simp]
 have h8:(((a*2 ^ g:Nat):Int) % 2 ^ g)=0:=by
  rw[show((a*2 ^ g:Nat):Int) % 2 ^ g=((a*2 ^ g % 2 ^ g:Nat):Int) by simp]
  rw[Nat.mul_mod_left];rfl
 have h9:(c:Int) < 2 ^ g:=by exact_mod_cast h3
 generalize hy:a*2 ^ g=y at*
 rw[wu64 (by omega) (by omega),or_high g _ _ (by omega) h8 (by omega) (by omega) h9 (by omega)]
 rw[Nat.mul_comm (2 ^ g) a,hy]
 omega
theorem unpack_inner (b:List Int) (hb:B8 b) (w i n:Nat) (hw:w<=64) (hi:i < n) (hn:n<=4096) (hlen:b.length=(n*w+7) / 8) (r:List Int×Int)
  (hc:Ev (fun k=>bits_Unpack.l0 k b (w:Int) (part (val b) w i n (val b / 2 ^ (i*w) % 2 ^ w)) ((i*w+w:Nat):Int) (n:Int) ((i+1:Nat):Int)) r):
  ∀ (d g:Nat),g+d=w->Ev (fun k=>bits_Unpack.l1 k b (w:Int) (part (val b) w i n (val b / 2 ^ (i*w) % 2 ^ g)) ((i*w+g:Nat):Int) (i:Int) (g:Int) (n:Int) (i:Int)) r:=by
 have hiw:(i+1)*w<=n*w:=Nat.mul_le_mul_right _ hi
 have hnw:n*w<=4096*64:=Nat.mul_le_mul hn hw
 rw[Nat.succ_mul]at hiw
 intro d
 induction d using Nat.strongRecOn with
 |_ d ih=>
 intro g hg
 apply Ev.succ
 simp only[bits_Unpack.l1]
 by_cases h0:d=0
 .refine Ev.if_f (by omega) ?_
  rw[inc i (by omega)]
  rw[show g=w by omega]
  exact hc
 .have hp:(i*w+g) / 8 < b.length:=by omega
  refine Ev.if_t (by omega) (Ev.if_t (by omega) (Ev.if_t (by rw[length_part hi];omega) ?_))
  rw[div8 _ (by omega),mod8]
  refine Ev.if_t (by omega) (Ev.if_t (by omega) (Ev.if_t (by omega) ?_))
  rw[sub64 w g (by omega) (by omega),show(8:Int)=((8:Nat):Int) from rfl,sub64 8 ((i*w+g) % 8) (by omega) (by omega),mn_eq]
  generalize hm:min (w - g) (8 - (i*w+g) % 8)=m
  refine Ev.if_t (by omega) (Ev.if_t (by omega) ?_)
  rw[take_bits b hb _ m hp (by omega),rd_part hi,or_bits (val b) (i*w) g m w (by omega) hw,Int.toNat_natCast,set_part]
  rw[add64 (i*w+g) m (by omega),add64 g m (by omega),Nat.add_assoc]
  exact ih (d - m) (by omega) (g+m) (by omega)
theorem unpack_loop (b:List Int) (hb:B8 b) (w n:Nat) (hw:w<=64) (hn:n<=4096) (hlen:b.length=(n*w+7) / 8):∀ (d i:Nat),i+d=n->
  Ev (fun k=>bits_Unpack.l0 k b (w:Int) (unOf (val b) w i++List.replicate (n - i) 0) ((i*w:Nat):Int) (n:Int) (i:Int)) (unOf (val b) w n,0)
 |0,i,hi=>by
  apply Ev.succ
  simp only[bits_Unpack.l0]
  refine Ev.if_f (by omega) ?_
  rw[show i=n by omega,Nat.sub_self,List.replicate_zero,List.append_nil]
  exact Ev.now _
 |d+1,i,hi=>by
  apply Ev.succ
  simp only[bits_Unpack.l0]
  refine Ev.if_t (by omega) ?_
  have e:unOf (val b) w i++List.replicate (n - i) 0=part (val b) w i n (val b / 2 ^ (i*w) % 2 ^ 0):=by
   unfold part
   rw[show n - i=(n - i - 1)+1 by omega,List.replicate_succ]
   simp[Nat.mod_one]
  rw[e]
  refine unpack_inner b hb w i n hw (by omega) hn hlen _ ?_ w 0 (by omega)
  have:=unpack_loop b hb w n hw hn hlen d (i+1) (by omega)
  rw[unOf_succ,List.append_assoc,Nat.succ_mul]at this
  unfold part
  rw[show n - i - 1=n - (i+1) by omega]
  exact this
def unpackOf (b:List Int) (n w:Int):List Int×Int:=
 if w < 0∨64 < w∨n < 0∨4096 < n then([],1)else
 if b.length < (n.toNat*w.toNat+7) / 8 then([],3)else
 if(n.toNat*w.toNat+7) / 8 < b.length then([],2)else
 if 2 ^ (n.toNat*w.toNat)<=val b then([],2)else(unOf (val b) w.toNat n.toNat,0)
theorem unpack_j1 (b:List Int) (hb:B8 b) (w n:Nat) (hw:w<=64) (hn:n<=4096) (hlen:b.length=(n*w+7) / 8):
  Ev (fun k=>bits_Unpack.j1 k b (n:Int) (w:Int) false) (unOf (val b) w n,0):=by
 apply Ev.succ
 simp only[bits_Unpack.j1]
 refine Ev.if_f (by decide) (Ev.if_t (by omega) (Ev.if_t (by omega) ?_))
 rw[Int.toNat_natCast]
 simp only[Option.bind_some,List.length_replicate]
 have:=unpack_loop b hb w n hw hn hlen n 0 (by omega)
 simpa[unOf]using this
theorem wrap_mul (n w:Nat) (hw:w<=64) (hn:n<=4096):wrap64 ((n:Int)*(w:Int))=((n*w:Nat):Int):=by
 have hnw:n*w<=4096*64:=Nat.mul_le_mul hn hw
 rw[<- Int.natCast_mul,w64 (by omega) (by omega)]
theorem wrap_size (n w:Nat) (hw:w<=64) (hn:n<=4096):wrap64 (Int.tdiv (wrap64 ((wrap64 ((n:Int)*(w:Int)))+7)) 8)=(((n*w+7) / 8:Nat):Int):=by
 have hnw:n*w<=4096*64:=Nat.mul_le_mul hn hw
 rw[wrap_mul n w hw hn,show wrap64 (((n*w:Nat):Int)+7)=((n*w+7:Nat):Int) by rw[w64 (by omega) (by omega)];omega]
 rw[div8 _ (by omega)]
theorem unpack_ev (b:List Int) (hb:B8 b) (hbl:b.length<=140737488355328) (n w:Int):Ev (fun k=>bits_Unpack.f k b n w) (unpackOf b n w):=by
 unfold bits_Unpack.f unpackOf
 have hbad:Ev (fun k=>bits_Unpack.j0 k b n w true) ([],1):=by
  apply Ev.succ
  simp only[bits_Unpack.j0]
  exact Ev.if_t trivial (Ev.now _)
 by_cases h:w < 0∨64 < w∨n < 0∨4096 < n
 .rw[if_pos h]
  by_cases h1:w < 0
  .exact Ev.if_t h1 hbad
  .refine Ev.if_f h1 ?_
   by_cases h2:w > 64
   .exact Ev.if_t h2 hbad
   .refine Ev.if_f h2 ?_
    by_cases h3:n < 0
    .exact Ev.if_t h3 hbad
    .refine Ev.if_f h3 ?_
     rw[show decide (n > 4096)=true from decide_eq_true (by omega)]
     exact hbad
 .rw[if_neg h]
  refine Ev.if_f (by omega) (Ev.if_f (by omega) (Ev.if_f (by omega) ?_))
  rw[show decide (n > 4096)=false from decide_eq_false (by omega)]
  obtain⟨n,rfl⟩:=Int.eq_ofNat_of_zero_le (show 0<=n by omega)
  obtain⟨w,rfl⟩:=Int.eq_ofNat_of_zero_le (show 0<=w by omega)
  have hw:w<=64:=by omega
  have hn:n<=4096:=by omega
  have hnw:n*w<=4096*64:=Nat.mul_le_mul hn hw
  clear h hbad
  simp only[Int.toNat_natCast]
  apply Ev.succ
  simp only[bits_Unpack.j0]
  rw[wrap_size n w hw hn,wrap_mul n w hw hn,mod8]
  refine Ev.if_f (by decide) ?_
  by_cases h1:b.length < (n*w+7) / 8
  .rw[if_pos h1];exact Ev.if_t (by omega) (Ev.now _)
  rw[if_neg h1]
  refine Ev.if_f (by omega) ?_
  by_cases h2:(n*w+7) / 8 < b.length
  .rw[if_pos h2];exact Ev.if_t (by omega) (Ev.now _)
  rw[if_neg h2]
  refine Ev.if_f (by omega) ?_
  have hlen:b.length=(n*w+7) / 8:=by omega
  have hv:=val_lt hb
  by_cases h3:n*w % 8=0
  .refine Ev.if_f (by omega) ?_
   have h8:256 ^ b.length=2 ^ (n*w):=by rw[p256,show 8*b.length=n*w by omega]
   rw[if_neg (by omega)]
   exact unpack_j1 b hb w n hw hn hlen
  .refine Ev.if_t (by omega) ?_
   rw[show(1:Int)=((1:Nat):Int) from rfl,sub64 ((n*w+7) / 8) 1 (by omega) (by omega),show(n*w+7) / 8 - 1=n*w / 8 by omega]
   refine Ev.if_t (by omega) (Ev.if_t (by omega) (Ev.if_t (by omega) ?_))
   have hp:n*w / 8 < b.length:=by omega
   have hg:=val_get b (n*w / 8) hb hp
   rw[rd_nat b _ hp,shr_u8 _ _ (by omega),<- hg,show ∀ x:Nat,((x:Int) / 2 ^ (n*w % 8))=((x / 2 ^ (n*w % 8):Nat):Int) from fun x=>by simp]
   have hq:val b / 256 ^ (n*w / 8) < 256:=by
    rw[Nat.div_lt_iff_lt_mul (by rw[p256];exact two_pow_pos' _),Nat.mul_comm,<- Nat.pow_succ]
    rw[show b.length=(n*w / 8)+1 by omega]at hv
    exact hv
   have hsplit:2 ^ (n*w)=256 ^ (n*w / 8)*2 ^ (n*w % 8):=by rw[p256,<- Nat.pow_add];congr 1;omega
   rw[Nat.mod_eq_of_lt hq,Nat.div_div_eq_div_mul,<- hsplit]
   have hz:=Nat.div_eq_zero_iff_lt (x:=val b) (two_pow_pos' (n*w))
   by_cases h4:2 ^ (n*w)<=val b
   .rw[if_pos h4]
    have hne:val b / 2 ^ (n*w)≠0:=fun e=>by have:=hz.1 e;omega
    rw[show(((val b / 2 ^ (n*w):Nat):Int) != 0)=true from bne_iff_ne.2 (fun e=>hne (Int.ofNat.inj e))]
    apply Ev.succ
    simp only[bits_Unpack.j1]
    exact Ev.if_t trivial (Ev.now _)
   .rw[if_neg h4]
    have he:val b / 2 ^ (n*w)=0:=hz.2 (by omega)
    rw[show(((val b / 2 ^ (n*w):Nat):Int) != 0)=false from by rw[he];rfl]
    exact unpack_j1 b hb w n hw hn hlen
theorem bit_at (b:List Int) (hb:B8 b) (p:Nat) (hp:p / 8 < b.length):
  Int.tmod (shr .u8 (rd b ((p / 8:Nat):Int)) ((p % 8:Nat):Int)) 2=((val b / 2 ^ p % 2:Nat):Int):=by
 have h:=take_bits b hb p 1 hp (by omega)
 have hx:=hb.get (p / 8) hp
 rw[rd_nat b _ hp,shr_u8 _ _ (by omega)]at h ⊢
 obtain⟨y,hy⟩:=Int.eq_ofNat_of_zero_le hx.1
 rw[hy]at h hx ⊢
 have hle:y / 2 ^ (p % 8)<=y:=Nat.div_le_self _ _
 rw[show(y:Int) / 2 ^ (p % 8)=((y / 2 ^ (p % 8):Nat):Int) by simp]at h ⊢
 rw[show((shl .u8 1 ((1:Nat):Int)) - 1) % 256=2 ^ 1 - 1 by decide,mask_u8 1 (by omega) _ (Int.natCast_nonneg _) (by exact_mod_cast (show y / 2 ^ (p % 8) < 2 ^ 8 by omega))]at h
 rw[mod2]
 have h2:((y / 2 ^ (p % 8) % 2:Nat):Int)=((y / 2 ^ (p % 8):Nat):Int) % 2 ^ 1:=by simp
 rw[h2,h,Nat.pow_one]
theorem ref_unpack_inner (b:List Int) (hb:B8 b) (w i n:Nat) (hw:w<=64) (hi:i < n) (hn:n<=4096) (hlen:b.length=(n*w+7) / 8) (acc:List Int) (hacc:acc.length < 17592186044416) (r:List Int×Int)
  (hc:Ev (fun k=>dragnetref03_Unpack.l0 k b (n:Int) (w:Int) (acc++[((val b / 2 ^ (i*w) % 2 ^ w:Nat):Int)]) ((i+1:Nat):Int)) r):
  ∀ (d g:Nat),g+d=w->Ev (fun k=>dragnetref03_Unpack.l1 k b (n:Int) (w:Int) acc (i:Int) ((val b / 2 ^ (i*w) % 2 ^ g:Nat):Int) (g:Int)) r
 |0,g,hg=>by
  apply Ev.succ
  simp only[dragnetref03_Unpack.l1]
  refine Ev.if_f (by omega) (Ev.if_t hacc ?_)
  rw[inc i (by omega),show g=w by omega]
  exact hc
 |d+1,g,hg=>by
  have hiw:(i+1)*w<=n*w:=Nat.mul_le_mul_right _ hi
  have hnw:n*w<=4096*64:=Nat.mul_le_mul hn hw
  rw[Nat.succ_mul]at hiw
  have hp:(i*w+g) / 8 < b.length:=by omega
  have ih:=ref_unpack_inner b hb w i n hw hi hn hlen acc hacc r hc d (g+1) (by omega)
  apply Ev.succ
  simp only[dragnetref03_Unpack.l1]
  refine Ev.if_t (by omega) ?_
  rw[place w i g (by rw[Nat.mul_comm];omega),Nat.mul_comm w i,div8 _ (by omega),mod8]
  refine Ev.if_t (by omega) (Ev.if_t (by omega) (Ev.if_t (by omega) ?_))
  rw[bit_at b hb _ hp,inc g (by omega)]
  have hs:=div_pow_mod2 (val b / 2 ^ (i*w)) g
  rw[<- shr_add]at hs
  rw[hs]at ih
  have hlt:=Nat.mod_lt (val b / 2 ^ (i*w)) (two_pow_pos' g)
  have hp1:=Nat.pow_le_pow_right (show 0 < 2 by decide) (show g<=63 by omega)
  generalize val b / 2 ^ (i*w) % 2 ^ g=x at*
  by_cases h1:val b / 2 ^ (i*w+g) % 2=1
  .refine Ev.if_t (by omega) (Ev.if_t (by omega) ?_)
   rw[h1,Nat.mul_one]at ih
   rw[shl_u64 _ _ (by omega),Int.one_mul,<- cast_pow]
   generalize 2 ^ g=y at*
   rw[wu64 (x:=(y:Int)) (by omega) (by omega),wu64 (by omega) (by omega)]
   rw[Int.natCast_add]at ih
   exact ih
  .refine Ev.if_f (by omega) ?_
   rw[show val b / 2 ^ (i*w+g) % 2=0 by omega,Nat.mul_zero,Nat.add_zero]at ih
   exact ih
theorem ref_unpack_rest (b:List Int) (hb:B8 b) (hbl:b.length<=100000) (acc:List Int) (m:Nat) (hm:m<=8*b.length):∀ (d k:Nat),k+d=8*b.length->m<=k->val b / 2 ^ m % 2 ^ (k - m)=0->
  Ev (fun n=>dragnetref03_Unpack.l2 n b acc (k:Int)) (if 2 ^ m<=val b then([],2)else(acc,0))
 |0,k,hk,hmk,hz=>by
  apply Ev.succ
  simp only[dragnetref03_Unpack.l2]
  rw[show(8:Int)*(b.length:Int)=((8*b.length:Nat):Int) by omega,w64 (by omega) (by omega)]
  refine Ev.if_f (by omega) ?_
  have hv:=val_lt hb
  rw[p256]at hv
  have hlt:val b / 2 ^ m < 2 ^ (k - m):=by
   rw[Nat.div_lt_iff_lt_mul (two_pow_pos' m),<- Nat.pow_add,show k - m+m=8*b.length by omega]
   exact hv
  rw[Nat.mod_eq_of_lt hlt]at hz
  have:=(Nat.div_eq_zero_iff_lt (x:=val b) (two_pow_pos' m)).1 hz
  rw[if_neg (by omega)]
  exact Ev.now _
 |d+1,k,hk,hmk,hz=>by
  have hp:k / 8 < b.length:=by omega
  apply Ev.succ
  simp only[dragnetref03_Unpack.l2]
  rw[show(8:Int)*(b.length:Int)=((8*b.length:Nat):Int) by omega,w64 (x:=((8*b.length:Nat):Int)) (by omega) (by omega)]
  refine Ev.if_t (by omega) ?_
  rw[div8 _ (by omega),mod8]
  refine Ev.if_t (by omega) (Ev.if_t (by omega) (Ev.if_t (by omega) ?_))
  rw[bit_at b hb _ hp,inc k (by omega)]
  by_cases h1:val b / 2 ^ k % 2=1
  .refine Ev.if_t (by omega) ?_
   have hge:2 ^ m<=val b:=by
    have h2:2 ^ k<=val b:=by
     rcases Nat.lt_or_ge (val b) (2 ^ k)with h|h
     .rw[Nat.div_eq_of_lt h]at h1;omega
     .exact h
    exact Nat.le_trans (Nat.pow_le_pow_right (by decide) hmk) h2
   rw[if_pos hge];exact Ev.now _
  .refine Ev.if_f (by omega) (ref_unpack_rest b hb hbl acc m hm d (k+1) (by omega) (by omega) ?_)
   have hs:=div_pow_mod2 (val b / 2 ^ m) (k - m)
   rw[<- shr_add,show m+(k - m)=k by omega,hz,show val b / 2 ^ k % 2=0 by omega]at hs
   rw[show k+1 - m=k - m+1 by omega,hs]
   simp
theorem ref_unpack_loop (b:List Int) (hb:B8 b) (w n:Nat) (hw:w<=64) (hn:n<=4096) (hlen:b.length=(n*w+7) / 8):∀ (d i:Nat),i+d=n->
    Ev (fun k=>dragnetref03_Unpack.l0 k b (n:Int) (w:Int) (unOf (val b) w i) (i:Int)) (if 2 ^ (n*w)<=val b then([],2)else(unOf (val b) w n,0))
  |0,i,hi=>by
    have hnw:n*w<=4096*64:=Nat.mul_le_mul hn hw
    apply Ev.succ
    simp only[dragnetref03_Unpack.l0]
    refine Ev.if_f (by omega) ?_
    rw[show i=n by omega,wrap_mul n w hw hn]
    exact ref_unpack_rest b hb (by omega) _ (n*w) (by omega) (8*b.length - n*w) (n*w) (by omega) (Nat.le_refl _) (by simp[Nat.mod_one])
  |d+1,i,hi=>by
    apply Ev.succ
    simp only[dragnetref03_Unpack.l0]
    refine Ev.if_t (by omega) ?_
    have h0:(0:Int)=((val b / 2 ^ (i*w) % 2 ^ 0:Nat):Int):=by simp[Nat.mod_one]
    have:=ref_unpack_inner b hb w i n hw (by omega) hn hlen (unOf (val b) w i) (by rw[length_unOf];omega) _
      (by have := ref_unpack_loop b hb w n hw hn hlen d (i + 1) (by omega)
          rw[unOf_succ]at this
          exact this) w 0 (by omega)
    rw[<- h0]at this
    exact this
theorem ref_unpack (b:List Int) (hb:B8 b) (_hbl:b.length<=140737488355328) (n w:Int) (hn0: -9223372036854775808<=n) (hn1:n<=9223372036854775807):Ev (fun k=>dragnetref03_Unpack.f k b n w) (unpackOf b n w):=by
 unfold dragnetref03_Unpack.f unpackOf
 have hbad:Ev (fun k=>dragnetref03_Unpack.j0 k b n w true) ([],1):=by
  apply Ev.succ
  simp only[dragnetref03_Unpack.j0]
  exact Ev.if_t trivial (Ev.now _)
 by_cases h:w < 0∨64 < w∨n < 0∨4096 < n
 .rw[if_pos h]
  by_cases h1:w < 0
  .exact Ev.if_t h1 hbad
  .refine Ev.if_f h1 ?_
   by_cases h2:w > 64
   .exact Ev.if_t h2 hbad
   .refine Ev.if_f h2 ?_
    by_cases h3:n < 0
    .exact Ev.if_t h3 hbad
    .refine Ev.if_f h3 ?_
     rw[show decide (n > 4096)=true from decide_eq_true (by omega)]
     exact hbad
 .rw[if_neg h]
  refine Ev.if_f (by omega) (Ev.if_f (by omega) (Ev.if_f (by omega) ?_))
  rw[show decide (n > 4096)=false from decide_eq_false (by omega)]
  obtain⟨n,rfl⟩:=Int.eq_ofNat_of_zero_le (show 0<=n by omega)
  obtain⟨w,rfl⟩:=Int.eq_ofNat_of_zero_le (show 0<=w by omega)
  have hw:w<=64:=by omega
  have hn:n<=4096:=by omega
  have hnw:n*w<=4096*64:=Nat.mul_le_mul hn hw
  clear h hbad
  simp only[Int.toNat_natCast]
  apply Ev.succ
  simp only[dragnetref03_Unpack.j0]
  refine Ev.if_f (by decide) (Ev.obind (ref_size n w (by omega)) ?_)
  by_cases h1:b.length < (n*w+7) / 8
  .rw[if_pos h1];exact Ev.if_t (by omega) (Ev.now _)
  rw[if_neg h1]
  refine Ev.if_f (by omega) (Ev.obind (ref_size n w (by omega)) ?_)
  by_cases h2:(n*w+7) / 8 < b.length
  .rw[if_pos h2];exact Ev.if_t (by omega) (Ev.now _)
  rw[if_neg h2]
  refine Ev.if_f (by omega) ?_
  have:=ref_unpack_loop b hb w n hw hn (by omega) n 0 (by omega)
  simpa[unOf]using this
def nb (v:Nat):Nat:=(Lib.bitLen v+7) / 8
theorem nb_le_iff {v k:Nat} (hv:v < 2 ^ 64) (hk:k<=8):nb v<=k↔v < 256 ^ k:=by
 unfold nb
 rw[p256,<- bitLen_le_iff hv (w:=8*k) (by omega)]
 omega
theorem nb_le8 {v:Nat} (hv:v < 2 ^ 64):nb v<=8:=(nb_le_iff hv (Nat.le_refl _)).2 (by rw[p256];exact hv)
theorem nb_pos {v:Nat} (hv:v < 2 ^ 64) (h:0 < v):1<=nb v:=by
 rcases Nat.lt_or_ge 0 (nb v)with h1|h1
 .exact h1
 .have:=(nb_le_iff hv (k:=0) (by omega)).1 (by omega)
  simp at this;omega
theorem lt_nb {v:Nat} (hv:v < 2 ^ 64):v < 256 ^ nb v:=(nb_le_iff hv (nb_le8 hv)).1 (Nat.le_refl _)
def numEnc (v:Nat):List Int:=if v<=247 then[(v:Int)]else((247+nb v:Nat):Int) :: digits (nb v) v
theorem digits_succ:∀ (n v:Nat),digits (n+1) v=digits n v++[((v / 256 ^ n % 256:Nat):Int)]
 |0,v=>by simp[digits]
 |n+1,v=>by
  rw[digits,digits_succ n (v / 256),digits,List.cons_append,Nat.div_div_eq_div_mul,Nat.pow_succ,Nat.mul_comm 256]
theorem in_numEnc {v:Nat} (hv:v < 2 ^ 64):B8 (numEnc v):=by
 unfold numEnc
 have:=nb_le8 hv
 split
 .exact In.single (by omega) (by omega)
 .exact In.mk_cons ⟨by omega,by omega⟩ (in_digits _ _)
theorem length_numEnc {v:Nat}:(numEnc v).length=if v<=247 then 1 else 1+nb v:=by
 unfold numEnc
 split
 .rfl
 .simp[length_digits];omega
theorem length_numEnc_le {v:Nat} (hv:v < 2 ^ 64):(numEnc v).length<=9:=by
 have:=nb_le8 hv
 rw[length_numEnc];split<;>omega
theorem size_eq {v:Nat} (hv:v < 2 ^ 64):num_size.f (v:Int)=some (nb v:Int):=by
 have h64:Lib.bitLen v<=64:=(bitLen_le_iff hv (Nat.le_refl _)).2 hv
 unfold num_size.f bits_Len64.f
 rw[if_pos (by omega),if_pos (by omega),Int.toNat_natCast]
 simp only[Option.bind_some]
 rw[show(7:Int)=((7:Nat):Int) from rfl,add64 _ 7 (by omega),div8 _ (by omega)]
 rfl
theorem put_loop (v n:Nat) (hn:n<=8):∀ (d i:Nat) (out:List Int),i+d=n->out.length+d < 140737488355328->
  Ev (fun k=>num_Put.l0 k ((v / 256 ^ i:Nat):Int) out (n:Int) (i:Int)) (out++digits d (v / 256 ^ i))
 |0,i,out,hi,ho=>by
  apply Ev.succ
  simp only[num_Put.l0]
  refine Ev.if_f (by omega) ?_
  simp only[digits,List.append_nil]
  exact Ev.now _
 |d+1,i,out,hi,ho=>by
  apply Ev.succ
  simp only[num_Put.l0]
  refine Ev.if_t (by omega) (Ev.if_t (by omega) ?_)
  rw[inc i (by omega),show((v / 256 ^ i:Nat):Int) / 256=((v / 256 ^ (i+1):Nat):Int) by rw[Nat.pow_succ,<- Nat.div_div_eq_div_mul];omega]
  have ih:=put_loop v n hn d (i+1) (out++[((v / 256 ^ i:Nat):Int) % 256]) (by omega) (by simp;omega)
  rw[List.append_assoc]at ih
  have e:digits (d+1) (v / 256 ^ i)=((v / 256 ^ i:Nat):Int) % 256 :: digits d (v / 256 ^ (i+1)):=by
   rw[digits,Nat.pow_succ,<- Nat.div_div_eq_div_mul]
   congr 1
  rw[e]
  exact ih
theorem put_ev (b:List Int) (hb:b.length<=140737488355000) {v:Nat} (hv:v < 2 ^ 64):Ev (fun k=>num_Put.f k b (v:Int)) (b++numEnc v):=by
 have h8:=nb_le8 hv
 unfold num_Put.f
 refine Ev.obind (a:=b) ?_ (Ev.obind (a:=b) ?_ ?_)
 .unfold slices_Clone_byte_byte.f;rw[if_pos (by omega)]
 .unfold slices_Grow_byte_byte.f;rw[if_pos (by decide),if_pos (by omega)]
 .unfold numEnc
  by_cases h:v<=247
  .rw[if_pos h]
   refine Ev.if_t (by omega) (Ev.if_t (by omega) ?_)
   rw[show(v:Int) % 256=(v:Int) by omega]
   exact Ev.now _
  .rw[if_neg h]
   refine Ev.if_f (by omega) (Ev.obind (size_eq hv) (Ev.if_t (by omega) ?_))
   rw[show(247:Int)=((247:Nat):Int) from rfl,add64 247 (nb v) (by omega),show(((247+nb v:Nat):Int)) % 256=((247+nb v:Nat):Int) by omega]
   have:=put_loop v (nb v) h8 (nb v) 0 (b++[((247+nb v:Nat):Int)]) (by omega) (by simp;omega)
   simpa using this
theorem bytes_loop {v:Nat} (hv:v < 2 ^ 64):∀ (d i:Nat),i+d=nb v->
  Ev (fun k=>dragnetref02_Bytes.l0 k ((v / 256 ^ i:Nat):Int) (((247+i:Nat):Int) :: digits i v)) (((247+nb v:Nat):Int) :: digits (nb v) v)
 |0,i,hi=>by
  have hlt:=lt_nb hv
  apply Ev.succ
  simp only[dragnetref02_Bytes.l0]
  rw[show i=nb v by omega,Nat.div_eq_of_lt hlt]
  exact Ev.if_f (by decide) (Ev.now _)
 |d+1,i,hi=>by
  have h8:=nb_le8 hv
  have hge:256 ^ i<=v:=by
   rcases Nat.lt_or_ge v (256 ^ i)with h|h
   .have:=(nb_le_iff hv (k:=i) (by omega)).2 h;omega
   .exact h
  have hpos:0 < v / 256 ^ i:=Nat.div_pos hge (by rw[p256];exact two_pow_pos' _)
  have hlt:v / 256 ^ i<=v:=Nat.div_le_self _ _
  have ih:=bytes_loop hv d (i+1) (by omega)
  rw[digits_succ,Nat.pow_succ,<- Nat.div_div_eq_div_mul]at ih
  generalize v / 256 ^ i=x at*
  apply Ev.succ
  simp only[dragnetref02_Bytes.l0]
  refine Ev.if_t (by omega) (Ev.if_t (by simp[length_digits];omega) ?_)
  simp only[Option.bind_some]
  refine Ev.if_t (by simp;omega) ?_
  have e1:IntKind.u64.wrap (Int.tdiv (x:Int) 256)=((x / 256:Nat):Int):=by
   rw[Int.tdiv_eq_ediv_of_nonneg (by omega),wu64 (by omega) (by omega)];omega
  have e2:Int.tmod (x:Int) 256 % 256=((x % 256:Nat):Int):=by rw[Int.tmod_eq_emod_of_nonneg (by omega)];omega
  rw[e1,e2]
  have e3:(rd (((247+i:Nat):Int) :: digits i v++[((x % 256:Nat):Int)]) 0+1) % 256=((247+(i+1):Nat):Int):=by
   simp[rd];omega
  rw[e3]
  exact ih
theorem bytes_ev {v:Nat} (hv:v < 2 ^ 64):Ev (fun k=>dragnetref02_Bytes.f k (v:Int)) (numEnc v):=by
 unfold dragnetref02_Bytes.f numEnc
 by_cases h:v<=247
 .rw[if_pos h]
  refine Ev.if_t (by omega) ?_
  rw[show(v:Int) % 256=(v:Int) by omega]
  exact Ev.now _
 .rw[if_neg h]
  refine Ev.if_f (by omega) ?_
  have:=bytes_loop hv (nb v) 0 (by omega)
  simpa[digits]using this
def takeRes (v len:Nat):Int×Int×Int:=if v<=247∨nb v < len then(0,0,2)else((v:Int),1+(len:Int),0)
theorem takeRes_bad {v len:Nat} (h:v<=247∨nb v < len):takeRes v len=(0,0,2):=if_pos h
theorem takeRes_ok {v len:Nat} (h: ¬ v<=247) (h2: ¬ nb v < len):takeRes v len=((v:Int),1+(len:Int),0):=if_neg (fun e=>e.elim h h2)
def takeOf:List Int->Int×Int×Int
 |[]=>(0,0,3)
 |x :: rest=>if x<=247 then(x,1,0)else
  if rest.length < (x - 247).toNat then(0,0,3)else takeRes (val (rest.take (x - 247).toNat)) (x - 247).toNat
theorem takeOf_small {x:Int} {rest:List Int} (h:x<=247):takeOf (x :: rest)=(x,1,0):=if_pos h
theorem takeOf_short {x:Int} {rest:List Int} {k:Nat} (h: ¬ x<=247) (hk:x - 247=(k:Int)) (h2:rest.length < k):takeOf (x :: rest)=(0,0,3):=by
 simp only[takeOf]
 rw[if_neg h,hk,Int.toNat_natCast,if_pos h2]
theorem takeOf_long {x:Int} {rest:List Int} {k:Nat} (h: ¬ x<=247) (hk:x - 247=(k:Int)) (h2: ¬ rest.length < k):takeOf (x :: rest)=takeRes (val (rest.take k)) k:=by
 simp only[takeOf]
 rw[if_neg h,hk,Int.toNat_natCast,if_neg h2]
theorem val_take_succ (y:List Int) (i:Nat) (hi:i < y.length):val (y.take (i+1))=val (y.take i)+256 ^ i*y[i].toNat:=by
 rw[List.take_succ_eq_append_getElem hi,val_append]
 simp[val,Nat.min_eq_left (Nat.le_of_lt hi)]
theorem take_loop (y:List Int) (hy:B8 y) (h8:y.length<=8) (h1:1<=y.length):∀ (d i:Nat),i+d=y.length->
  Ev (fun k=>num_Take.l0 k (val (y.take i):Int) (y.length:Int) y (y.length:Int) (i:Int)) (takeRes (val y) y.length)
 |0,i,hi=>by
  have hv:val y < 2 ^ 64:=by
   have:=val_lt hy
   rw[p256]at this
   exact Nat.lt_of_lt_of_le this (Nat.pow_le_pow_right (by decide) (by omega))
  apply Ev.succ
  simp only[num_Take.l0]
  refine Ev.if_f (by omega) ?_
  rw[show i=y.length by omega,List.take_length]
  by_cases hs:val y<=247
  .rw[takeRes_bad (.inl hs)]
   exact Ev.if_t (by omega) (Ev.now _)
  .refine Ev.if_f (by omega) (Ev.obind (size_eq hv) ?_)
   by_cases hn:nb (val y) < y.length
   .rw[takeRes_bad (.inr hn)]
    exact Ev.if_t (by omega) (Ev.now _)
   .rw[takeRes_ok hs hn]
    refine Ev.if_f (by omega) ?_
    rw[w64 (by omega) (by omega)]
    exact Ev.now _
 |d+1,i,hi=>by
  have hil:i < y.length:=by omega
  have hx:=hy.get i hil
  apply Ev.succ
  simp only[num_Take.l0]
  refine Ev.if_t (by omega) (Ev.if_t (by omega) (Ev.if_t (by omega) ?_))
  rw[show(8:Int)*(i:Int)=((8*i:Nat):Int) by omega,w64 (x:=((8*i:Nat):Int)) (by omega) (by omega)]
  refine Ev.if_t (by omega) ?_
  have ih:=take_loop y hy h8 h1 d (i+1) (by omega)
  rw[val_take_succ y i hil]at ih
  rw[rd_nat y i hil,inc i (by omega),shl_u64 _ _ (by omega)]
  have hlow:val (y.take i) < 2 ^ (8*i):=by
   have:=val_lt (hy.take i)
   rwa [List.length_take,Nat.min_eq_left (by omega),p256]at this
  have hp:=Nat.pow_le_pow_right (show 0 < 2 by decide) (show 8*i<=56 by omega)
  obtain⟨z,hz⟩:=Int.eq_ofNat_of_zero_le hx.1
  rw[hz]at hx ih ⊢
  rw[Int.toNat_natCast]at ih
  have hz2:z*2 ^ (8*i)<=255*2 ^ (8*i):=Nat.mul_le_mul_right _ (by omega)
  generalize val (y.take i)=a at*
  rw[wu64 (x:=(z:Int)) (by omega) (by omega),show((z:Int)*2 ^ (8*i))=((z*2 ^ (8*i):Nat):Int) by simp]
  have h8':(((z*2 ^ (8*i):Nat):Int) % 2 ^ (8*i))=0:=by
   rw[show((z*2 ^ (8*i):Nat):Int) % 2 ^ (8*i)=((z*2 ^ (8*i) % 2 ^ (8*i):Nat):Int) by simp,Nat.mul_mod_left];rfl
  have h9:(a:Int) < 2 ^ (8*i):=by exact_mod_cast hlow
  have h10:((256 ^ i*z:Nat))=z*2 ^ (8*i):=by rw[p256,Nat.mul_comm]
  rw[h10]at ih
  generalize z*2 ^ (8*i)=q at*
  rw[wu64 (x:=(q:Int)) (by omega) (by omega),or_high (8*i) _ _ (by omega) h8' (by omega) (by omega) h9 (by omega),Int.add_comm,<- Int.natCast_add]
  exact ih
theorem take_ev (b:List Int) (hb:B8 b) (hl:b.length<=9223372036854775000):Ev (fun k=>num_Take.f k b) (takeOf b):=by
 unfold num_Take.f
 cases b with
 |nil=>exact Ev.if_t rfl (Ev.now _)
 |cons x rest=>
  obtain⟨hx,hr⟩:=hb.cons
  have hc:(x :: rest).length=rest.length+1:=rfl
  have hrd:rd (x :: rest) 0=x:=rfl
  refine Ev.if_f (by omega) (Ev.if_t (by omega) ?_)
  rw[hrd]
  by_cases h:x<=247
  .rw[takeOf_small h]
   refine Ev.if_t h ?_
   rw[wu64 (by omega) (by omega)]
   exact Ev.now _
  .refine Ev.if_f h ?_
   obtain⟨k,hk⟩:=Int.eq_ofNat_of_zero_le (show 0<=x - 247 by omega)
   rw[w64 (x:=x) (by omega) (by omega),hk,w64 (x:=(k:Int)) (by omega) (by omega),w64 (by omega) (by omega)]
   by_cases h2:rest.length < k
   .rw[takeOf_short h hk h2]
    exact Ev.if_t (by omega) (Ev.now _)
   .rw[takeOf_long h hk h2]
    refine Ev.if_f (by omega) ?_
    rw[w64 (x:=1+(k:Int)) (by omega) (by omega)]
    refine Ev.if_t (by omega) (Ev.if_t (by omega) ?_)
    have e:((x :: rest).take ((1+(k:Int)).toNat)).drop 1=rest.take k:=by
     rw[show(1+(k:Int)).toNat=k+1 by omega];rfl
    rw[e]
    simp only[Option.bind_some]
    have hlen:(rest.take k).length=k:=by rw[List.length_take];omega
    have:=take_loop (rest.take k) (hr.take k) (by omega) (by omega) (rest.take k).length 0 (by omega)
    rw[hlen]at this ⊢
    simpa[val]using this
theorem ref_take_loop (x:Int) (rest:List Int) (hr:B8 rest) (k:Nat) (h8:k<=8) (hk:k<=rest.length) (hk1:1<=k):∀ (i:Nat),i<=k->
  Ev (fun n=>dragnetref02_Take.l0 n (x :: rest) (k:Int) ((val ((rest.take k).drop i):Nat):Int) (i:Int)) (takeRes (val (rest.take k)) k)
 |0,_=>by
  have hy:=hr.take k
  have hlen:(rest.take k).length=k:=by rw[List.length_take];omega
  have hv:val (rest.take k) < 2 ^ 64:=by
   have:=val_lt hy
   rw[p256,hlen]at this
   exact Nat.lt_of_lt_of_le this (Nat.pow_le_pow_right (by decide) (by omega))
  have hnk:nb (val (rest.take k))<=k:=(nb_le_iff hv (by omega)).2 (by have:=val_lt hy;rwa [hlen]at this)
  apply Ev.succ
  simp only[dragnetref02_Take.l0]
  rw[List.drop_zero]
  refine Ev.if_f (by decide) (Ev.bind (bytes_ev hv) ?_)
  rw[w64 (x:=1+(k:Int)) (by omega) (by omega),length_numEnc]
  by_cases hs:val (rest.take k)<=247
  .rw[if_pos hs,takeRes_bad (.inl hs)]
   exact Ev.if_f (by omega) (Ev.now _)
  .rw[if_neg hs]
   by_cases hn:nb (val (rest.take k)) < k
   .rw[takeRes_bad (.inr hn)]
    exact Ev.if_f (by omega) (Ev.now _)
   .rw[takeRes_ok hs hn]
    exact Ev.if_t (by omega) (Ev.now _)
 |i+1,hi=>by
  have hlen:(rest.take k).length=k:=by rw[List.length_take];omega
  have hil:i < (rest.take k).length:=by omega
  have hx:=(hr.take k).get i hil
  have hlow:val ((rest.take k).drop (i+1)) < 256 ^ 7:=by
   have:=val_lt ((hr.take k).drop (i+1))
   rw[List.length_drop,hlen]at this
   exact Nat.lt_of_lt_of_le this (Nat.pow_le_pow_right (by decide) (by omega))
  have ih:=ref_take_loop x rest hr k h8 hk hk1 i (by omega)
  rw[List.drop_eq_getElem_cons hil]at ih
  apply Ev.succ
  simp only[dragnetref02_Take.l0]
  have hcl:(x :: rest).length=rest.length+1:=rfl
  refine Ev.if_t (by omega) (Ev.if_t (by omega) (Ev.if_t (by omega) ?_))
  have hrd:rd (x :: rest) ((i+1:Nat):Int)=(rest.take k)[i]:=by
   rw[rd_nat (x :: rest) (i+1) (by omega)]
   simp
  rw[hrd,show(1:Int)=((1:Nat):Int) from rfl,sub64 (i+1) 1 (by omega) (by omega),Nat.add_sub_cancel]
  simp only[val]at ih
  generalize val ((rest.take k).drop (i+1))=a at*
  generalize (rest.take k)[i]=z at*
  have h7:(256:Nat) ^ 7=72057594037927936:=by decide
  rw[h7]at hlow
  rw[wu64 (x:=(a:Int)*256) (by omega) (by omega),wu64 (x:=z) hx.1 (by omega),wu64 (by omega) (by omega)]
  rw[show(a:Int)*256+z=((z.toNat+256*a:Nat):Int) by omega]
  exact ih
theorem ref_take_ev (b:List Int) (hb:B8 b) (hl:b.length<=9223372036854775000):Ev (fun k=>dragnetref02_Take.f k b) (takeOf b):=by
 unfold dragnetref02_Take.f
 cases b with
 |nil=>exact Ev.if_t rfl (Ev.now _)
 |cons x rest=>
  obtain⟨hx,hr⟩:=hb.cons
  have hc:(x :: rest).length=rest.length+1:=rfl
  have hrd:rd (x :: rest) 0=x:=rfl
  refine Ev.if_f (by omega) (Ev.if_t (by omega) ?_)
  rw[hrd]
  by_cases h:x<=247
  .rw[takeOf_small h]
   refine Ev.if_t h ?_
   rw[wu64 (by omega) (by omega)]
   exact Ev.now _
  .refine Ev.if_f h ?_
   obtain⟨k,hk⟩:=Int.eq_ofNat_of_zero_le (show 0<=x - 247 by omega)
   rw[w64 (x:=x) (by omega) (by omega),hk,w64 (x:=(k:Int)) (by omega) (by omega),w64 (by omega) (by omega)]
   by_cases h2:rest.length < k
   .rw[takeOf_short h hk h2]
    exact Ev.if_t (by omega) (Ev.now _)
   .rw[takeOf_long h hk h2]
    refine Ev.if_f (by omega) ?_
    have:=ref_take_loop x rest hr k (by omega) (by omega) (by omega) k (Nat.le_refl _)
    have hd:(rest.take k).drop k=[]:=List.drop_of_length_le (by rw[List.length_take];omega)
    rw[hd]at this
    exact this
theorem takeOf_spec (b:List Int) (hb:B8 b):takeOf b=(0,0,3)∨takeOf b=(0,0,2)∨
  ∃ v k:Nat,takeOf b=((v:Int),(k:Int),0)∧v < 2 ^ 64∧1<=k∧k<=9∧k<=b.length∧numEnc v=b.take k:=by
 cases b with
 |nil=>exact .inl rfl
 |cons x rest=>
  obtain⟨hx,hr⟩:=hb.cons
  by_cases h:x<=247
  .obtain⟨v,rfl⟩:=Int.eq_ofNat_of_zero_le hx.1
   refine .inr (.inr ⟨v,1,takeOf_small h,by omega,by omega,by omega,by simp,?_⟩)
   unfold numEnc
   rw[if_pos (by omega)]
   rfl
  .obtain⟨k,hk⟩:=Int.eq_ofNat_of_zero_le (show 0<=x - 247 by omega)
   by_cases h2:rest.length < k
   .exact .inl (takeOf_short h hk h2)
   .have hy:=hr.take k
    have hlen:(rest.take k).length=k:=by rw[List.length_take];omega
    have hlt:=val_lt hy
    rw[hlen]at hlt
    have hv:val (rest.take k) < 2 ^ 64:=by
     rw[p256]at hlt
     exact Nat.lt_of_lt_of_le hlt (Nat.pow_le_pow_right (by decide) (by omega))
    have hnk:nb (val (rest.take k))<=k:=(nb_le_iff hv (by omega)).2 hlt
    rw[takeOf_long h hk h2]
    by_cases hs:val (rest.take k)<=247
    .exact .inr (.inl (takeRes_bad (.inl hs)))
    by_cases hn:nb (val (rest.take k)) < k
    .exact .inr (.inl (takeRes_bad (.inr hn)))
    refine .inr (.inr ⟨val (rest.take k),1+k,?_,hv,by omega,by omega,by simp;omega,?_⟩)
    .rw[takeRes_ok hs hn];rfl
    .unfold numEnc
     rw[if_neg hs,show nb (val (rest.take k))=k by omega,Nat.add_comm 1 k,List.take_succ_cons]
     have:=digits_val hy
     rw[hlen]at this
     rw[this,show x=((247+k:Nat):Int) by omega]
theorem takeOf_enc {v:Nat} (hv:v < 2 ^ 64) (more:List Int):takeOf (numEnc v++more)=((v:Int),((numEnc v).length:Int),0):=by
 rw[length_numEnc]
 unfold numEnc
 by_cases h:v<=247
 .rw[if_pos h,if_pos h]
  exact takeOf_small (by omega)
 .rw[if_neg h,if_neg h,List.cons_append]
  have h1:=nb_pos hv (by omega)
  have h8:=nb_le8 hv
  have hl:=lt_nb hv
  rw[takeOf_long (k:=nb v) (by omega) (by omega) (by simp[length_digits])]
  rw[List.take_left' (length_digits _ _),val_digits,Nat.mod_eq_of_lt hl,takeRes_ok h (by omega)]
  rfl
theorem putRow_ev (b row:List Int) (hb:b.length+row.length<=140737488355000):Ev (fun k=>num_PutRow.f k b row) (b++numEnc row.length++row):=by
 have h9:=length_numEnc_le (v:=row.length) (by omega)
 unfold num_PutRow.f
 rw[wu64 (by omega) (by omega)]
 refine Ev.bind (put_ev b (by omega) (v:=row.length) (by omega)) (Ev.if_t ?_ (Ev.now _))
 rw[List.length_append];omega
def takeRowVK (b:List Int) (most v k:Int):List Int×Int×Int:=
 if v > most then([],0,5)else if v > (b.length:Int) - k then([],0,3)else((b.take (k+v).toNat).drop k.toNat,k+v,0)
def takeRowOf (b:List Int) (most:Int):List Int×Int×Int:=
 if most < 0 then([],0,1)else if(takeOf b).2.2=0 then takeRowVK b most (takeOf b).1 (takeOf b).2.1 else([],0,(takeOf b).2.2)
theorem takeRowVK_long {b:List Int} {most v k:Int} (h:v > most):takeRowVK b most v k=([],0,5):=if_pos h
theorem takeRowVK_short {b:List Int} {most v k:Int} (h: ¬ v > most) (h2:v > (b.length:Int) - k):takeRowVK b most v k=([],0,3):=by
 unfold takeRowVK;rw[if_neg h,if_pos h2]
theorem takeRowVK_ok {b:List Int} {most v k:Int} (h: ¬ v > most) (h2: ¬ v > (b.length:Int) - k):takeRowVK b most v k=((b.take (k+v).toNat).drop k.toNat,k+v,0):=by
 unfold takeRowVK;rw[if_neg h,if_neg h2]
theorem takeRowOf_neg {b:List Int} {most:Int} (h:most < 0):takeRowOf b most=([],0,1):=if_pos h
theorem takeRowOf_err {b:List Int} {most c:Int} (h: ¬ most < 0) (e:takeOf b=(0,0,c)) (hc:c≠0):takeRowOf b most=([],0,c):=by
 unfold takeRowOf;rw[if_neg h,e];exact if_neg hc
theorem takeRowOf_vk {b:List Int} {most v k:Int} (h: ¬ most < 0) (e:takeOf b=(v,k,0)):takeRowOf b most=takeRowVK b most v k:=by
 unfold takeRowOf;rw[if_neg h,e];exact if_pos rfl
theorem clone8 {b:List Int} (h:b.length < 140737488355328):slices_Clone_byte_byte.f b=some b:=if_pos h
theorem takeRow_ev (b:List Int) (hb:B8 b) (hl:b.length < 140737488355328) (most:Int) (hm:most<=9223372036854775807):Ev (fun k=>num_TakeRow.f k b most) (takeRowOf b most):=by
 unfold num_TakeRow.f
 by_cases h:most < 0
 .rw[takeRowOf_neg h];exact Ev.if_t h (Ev.now _)
 refine Ev.if_f h (Ev.bind (take_ev b hb (by omega)) ?_)
 rcases takeOf_spec b hb with e|e|⟨v,k,e,hv,hk1,hk9,hkb,henc⟩
 .rw[takeRowOf_err h e (by decide),e];exact Ev.if_f (by decide) (Ev.now _)
 .rw[takeRowOf_err h e (by decide),e];exact Ev.if_f (by decide) (Ev.now _)
 .rw[takeRowOf_vk h e,e]
  refine Ev.if_t rfl ?_
  dsimp only
  rw[wu64 (x:=most) (by omega) (by omega)]
  by_cases h1:(v:Int) > most
  .rw[takeRowVK_long h1];exact Ev.if_t h1 (Ev.now _)
  refine Ev.if_f h1 ?_
  rw[w64 (x:=(v:Int)) (by omega) (by omega),w64 (x:=(b.length:Int) - (k:Int)) (by omega) (by omega)]
  by_cases h2:(v:Int) > (b.length:Int) - (k:Int)
  .rw[takeRowVK_short h1 h2];exact Ev.if_t h2 (Ev.now _)
  refine Ev.if_f h2 ?_
  rw[takeRowVK_ok h1 h2,w64 (x:=(k:Int)+(v:Int)) (by omega) (by omega)]
  refine Ev.if_t (by omega) (Ev.if_t (by omega) (Ev.if_t (by omega) (Ev.obind (clone8 ?_) (Ev.now _))))
  simp only[List.length_drop,List.length_take];omega
theorem ref_takeRow_ev (b:List Int) (hb:B8 b) (hl:b.length < 140737488355328) (most:Int) (hm:most<=9223372036854775807):Ev (fun k=>dragnetref02_TakeRow.f k b most) (takeRowOf b most):=by
 unfold dragnetref02_TakeRow.f
 by_cases h:most < 0
 .rw[takeRowOf_neg h];exact Ev.if_t h (Ev.now _)
 refine Ev.if_f h (Ev.bind (ref_take_ev b hb (by omega)) ?_)
 rcases takeOf_spec b hb with e|e|⟨v,k,e,hv,hk1,hk9,hkb,henc⟩
 .rw[takeRowOf_err h e (by decide),e];exact Ev.if_f (by decide) (Ev.now _)
 .rw[takeRowOf_err h e (by decide),e];exact Ev.if_f (by decide) (Ev.now _)
 .rw[takeRowOf_vk h e,e]
  refine Ev.if_t rfl ?_
  dsimp only
  rw[wu64 (x:=most) (by omega) (by omega)]
  by_cases h1:(v:Int) > most
  .rw[takeRowVK_long h1];exact Ev.if_t h1 (Ev.now _)
  refine Ev.if_f h1 ?_
  rw[w64 (x:=(v:Int)) (by omega) (by omega),w64 (x:=(b.length:Int) - (k:Int)) (by omega) (by omega)]
  by_cases h2:(v:Int) > (b.length:Int) - (k:Int)
  .rw[takeRowVK_short h1 h2];exact Ev.if_t h2 (Ev.now _)
  refine Ev.if_f h2 ?_
  rw[takeRowVK_ok h1 h2,w64 (x:=(k:Int)+(v:Int)) (by omega) (by omega)]
  refine Ev.if_t (by omega) (Ev.if_t (by omega) (Ev.if_t (by omega) (Ev.obind (copy8 _ ?_) (Ev.now _))))
  simp only[List.length_drop,List.length_take];omega
end Go.Proofs.YtooeclfeallkkaaQ
end
