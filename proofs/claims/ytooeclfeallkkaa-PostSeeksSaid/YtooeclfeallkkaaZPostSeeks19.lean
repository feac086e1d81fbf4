/- Words and proofs that PostSeeks leans on; put together by wip/tools/shake.py. -/
import Derived.Test.YtooeclfeallkkaaZPostSeeks0
import Derived.Test.YtooeclfeallkkaaZPostSeeks4
import Derived.Lib.BitFns
section
namespace Go.Proofs.YtooeclfeallkkaaQ
open Go.RowKit Go.Proofs.YtooeclfeallkkaaW.PrintWords Go.Proofs.YtooeclfeallkkaaW.PrintMore
theorem w64 {x:Int} (h0: -9223372036854775808<=x) (h1:x<=9223372036854775807):wrap64 x=x:=by unfold wrap64;omega
theorem wu64 {x:Int} (h0:0<=x) (h1:x<=18446744073709551615):IntKind.u64.wrap x=x:=by
 simp only[IntKind.wrap,IntKind.bits,IntKind.signed,Bool.false_and,Bool.false_eq_true,if_false]
 omega
theorem wu8 {x:Int} (h0:0<=x) (h1:x<=255):IntKind.u8.wrap x=x:=by rw[IntKind.wrap_u8];omega
theorem wraps_u64 (n:Int) (h₀:0<=n) (h₁:n < 2 ^ 64):IntKind.u64.wrap n=n:=wu64 h₀ (by omega)
theorem wf_u8 {x:Int} (h:(Lit.int .u8 x).wf=true):0<=x∧x<=255:=by
 simpa[Lit.wf,IntKind.min,IntKind.max,IntKind.bits,IntKind.signed]using h
theorem or_u64 (a b:Nat) (ha:a < 2 ^ 64) (hb:b < 2 ^ 64):Go.bits .or .u64 (a:Int) (b:Int)=((a |||b:Nat):Int):=
 (bits_nat .u64 64 (by decide) wraps_u64 a b ha hb).2
theorem mask_u64 (i:Nat) (hi:i<=64) (x:Int) (h0:0<=x) (h1:x < 2 ^ 64):Go.bits .and .u64 x (2 ^ i - 1)=x % 2 ^ i:=
 bits_mask .u64 64 (by decide) wraps_u64 i hi x h0 h1
theorem mask_u8 (i:Nat) (hi:i<=8) (x:Int) (h0:0<=x) (h1:x < 2 ^ 8):Go.bits .and .u8 x (2 ^ i - 1)=x % 2 ^ i:=
 bits_mask .u8 8 (by decide) wraps_u8 i hi x h0 h1
theorem or_low (i:Nat) (x y:Int) (hx0:0<=x) (hx:x % 2 ^ i=0) (hx1:x < 2 ^ 64) (hy0:0<=y) (hy:y < 2 ^ i) (hy1:y < 2 ^ 64):Go.bits .or .u64 x y=x+y:=
 bits_join .u64 64 (by decide) wraps_u64 i x y hx0 hx hx1 hy0 hy hy1
theorem or_high (i:Nat) (x y:Int) (hx0:0<=x) (hx:x % 2 ^ i=0) (hx1:x < 2 ^ 64) (hy0:0<=y) (hy:y < 2 ^ i) (hy1:y < 2 ^ 64):Go.bits .or .u64 y x=x+y:=by
 rw[<- or_low i x y hx0 hx hx1 hy0 hy hy1]
 obtain⟨a,rfl⟩:=Int.eq_ofNat_of_zero_le hx0
 obtain⟨b,rfl⟩:=Int.eq_ofNat_of_zero_le hy0
 rw[or_u64 b a (by exact_mod_cast hy1) (by exact_mod_cast hx1),or_u64 a b (by exact_mod_cast hx1) (by exact_mod_cast hy1),Nat.or_comm]
theorem two_pow_pos' (n:Nat):0 < 2 ^ n:=Nat.two_pow_pos n
theorem p256 (n:Nat):256 ^ n=2 ^ (8*n):=by rw[Nat.pow_mul]
theorem cast_pow (n:Nat):((2 ^ n:Nat):Int)=(2:Int) ^ n:=by simp
theorem rd_nat (l:List Int) (i:Nat) (h:i < l.length):rd l (i:Int)=l[i]:=by
 unfold rd;simp[h]
def In (hi:Int) (l:List Int):Prop:=∀ x∈l,0<=x∧x<=hi
theorem In.nil (hi:Int):In hi []:=fun _ h=>by cases h
theorem In.get {hi:Int} {l:List Int} (h:In hi l) (i:Nat) (hl:i < l.length):0<=l[i]∧l[i]<=hi:=h _ (List.getElem_mem hl)
theorem In.append {hi:Int} {a b:List Int} (ha:In hi a) (hb:In hi b):In hi (a++b):=fun x hx=>by
 rcases List.mem_append.1 hx with h|h
 .exact ha x h
 .exact hb x h
theorem In.single {hi x:Int} (h0:0<=x) (h1:x<=hi):In hi [x]:=fun y hy=>by
 rw[List.mem_singleton]at hy
 subst hy;exact⟨h0,h1⟩
theorem In.cons {hi x:Int} {l:List Int} (h:In hi (x :: l)):(0<=x∧x<=hi)∧In hi l:=⟨h x List.mem_cons_self,fun y hy=>h y (List.mem_cons_of_mem _ hy)⟩
theorem In.mk_cons {hi x:Int} {l:List Int} (h0:0<=x∧x<=hi) (h:In hi l):In hi (x :: l):=fun y hy=>by
 rcases List.mem_cons.1 hy with rfl|hy
 .exact h0
 .exact h y hy
theorem In.take {hi:Int} {l:List Int} (h:In hi l) (n:Nat):In hi (l.take n):=fun x hx=>h x (List.mem_of_mem_take hx)
theorem In.drop {hi:Int} {l:List Int} (h:In hi l) (n:Nat):In hi (l.drop n):=fun x hx=>h x (List.mem_of_mem_drop hx)
theorem In.set {hi:Int} {l:List Int} (h:In hi l) (n:Nat) {x:Int} (h0:0<=x) (h1:x<=hi):In hi (l.set n x):=fun y hy=>by
 rcases List.mem_or_eq_of_mem_set hy with hy|rfl
 .exact h y hy
 .exact⟨h0,h1⟩
theorem In.replicate {hi:Int} (n:Nat) {x:Int} (h0:0<=x) (h1:x<=hi):In hi (List.replicate n x):=fun y hy=>by
 rw[(List.mem_replicate.1 hy).2];exact⟨h0,h1⟩
def val:List Int->Nat
 |[]=>0
 |b :: bs=>b.toNat+256*val bs
def digits:Nat->Nat->List Int
 |0,_=>[]
 |n+1,v=>((v % 256:Nat):Int) :: digits n (v / 256)
theorem length_digits:∀ n v,(digits n v).length=n
 |0,_=>rfl
 |n+1,v=>by simp[digits,length_digits n]
theorem in_digits:∀ n v,In 255 (digits n v)
 |0,_=>In.nil _
 |n+1,v=>In.mk_cons ⟨by omega,by omega⟩ (in_digits n _)
theorem val_append:∀ a b:List Int,val (a++b)=val a+256 ^ a.length*val b
 |[],b=>by simp[val]
 |x :: a,b=>by
  simp only[List.cons_append,val,val_append a b,List.length_cons]
  rw[Nat.pow_succ,Nat.mul_add,Nat.add_assoc,<- Nat.mul_assoc,Nat.mul_comm 256 (256 ^ _)]
theorem val_lt:∀ {l:List Int},In 255 l->val l < 256 ^ l.length
 |[],_=>by simp[val]
 |x :: l,h=>by
  obtain⟨hx,hl⟩:=h.cons
  have:=val_lt hl
  simp only[val,List.length_cons,Nat.pow_succ]
  omega
theorem digits_val:∀ {l:List Int},In 255 l->digits l.length (val l)=l
 |[],_=>rfl
 |x :: l,h=>by
  obtain⟨hx,hl⟩:=h.cons
  have e1:(val (x :: l)) % 256=x.toNat:=by simp only[val];omega
  have e2:(val (x :: l)) / 256=val l:=by simp only[val];omega
  simp only[List.length_cons,digits,e1,e2,digits_val hl]
  rw[Int.toNat_of_nonneg hx.1]
theorem val_digits:∀ n v,val (digits n v)=v % 256 ^ n
 |0,v=>by simp[digits,val,Nat.mod_one]
 |n+1,v=>by
  simp only[digits,val,val_digits n,Int.toNat_natCast]
  rw[Nat.pow_succ,Nat.mul_comm (256 ^ n) 256,Nat.mod_mul]
theorem eq_digits {l:List Int} {n v:Nat} (h:In 255 l) (hl:l.length=n) (hv:val l=v):l=digits n v:=by
 subst hl;subst hv;exact(digits_val h).symm
theorem val_get:∀ (l:List Int) (i:Nat),In 255 l->(h:i < l.length)->((val l / 256 ^ i % 256:Nat):Int)=l[i]
 |x :: l,0,h,_=>by
  obtain⟨hx,hl⟩:=h.cons
  simp only[Nat.pow_zero,Nat.div_one,val,List.getElem_cons_zero]
  omega
 |x :: l,i+1,h,hi=>by
  obtain⟨hx,hl⟩:=h.cons
  have e2:(val (x :: l)) / 256=val l:=by simp only[val];omega
  rw[Nat.pow_succ,Nat.mul_comm,<- Nat.div_div_eq_div_mul,e2]
  simpa using val_get l i hl (by simpa using hi)
theorem val_set:∀ (l:List Int) (i:Nat) (x:Int),In 255 l->0<=x->(h:i < l.length)->val (l.set i x)+256 ^ i*l[i].toNat=val l+256 ^ i*x.toNat
 |y :: l,0,x,h,_,_=>by simp[val];omega
 |y :: l,i+1,x,h,hx,hi=>by
  have hi':i < l.length:=by simpa using hi
  have ih:=val_set l i x h.cons.2 hx hi'
  simp only[List.set_cons_succ,val,List.getElem_cons_succ,Nat.pow_succ]
  have e1:256 ^ i*256*l[i].toNat=256*(256 ^ i*l[i].toNat):=by rw[Nat.mul_comm (256 ^ i) 256,Nat.mul_assoc]
  have e2:256 ^ i*256*x.toNat=256*(256 ^ i*x.toNat):=by rw[Nat.mul_comm (256 ^ i) 256,Nat.mul_assoc]
  rw[e1,e2]
  omega
theorem val_replicate:∀ n,val (List.replicate n 0)=0
 |0=>rfl
 |n+1=>by simp[List.replicate_succ,val,val_replicate n]
theorem str_eq {a b:List Int} (ha:In 255 a) (hb:In 255 b):((strOfNums a).toList==(strOfNums b).toList)=decide (a=b):=by
 have hinj:∀ {a b:List Int},In 255 a->In 255 b->a.map (fun n=>UInt8.ofNat n.toNat)=b.map (fun n=>UInt8.ofNat n.toNat)->a=b:=by
  intro a
  induction a with
  |nil=>intro b _ _ h;cases b<;>simp_all
  |cons x a ih=>
   intro b ha hb h
   cases b with
   |nil=>simp at h
   |cons y b=>
    simp only[List.map_cons,List.cons.injEq]at h
    obtain⟨hx,hl⟩:=ha.cons
    obtain⟨hy,hm⟩:=hb.cons
    have h1:=congrArg UInt8.toNat h.1
    simp only[UInt8.toNat_ofNat']at h1
    rw[ih hl hm h.2,show x=y by omega]
 have e:∀ l:List Int,(strOfNums l).toList=l.map (fun n=>UInt8.ofNat n.toNat):=by
  intro l
  simp[strOfNums,ByteArray.toList_eq]
 rw[e,e,Bool.eq_iff_iff,beq_iff_eq,decide_eq_true_iff]
 exact⟨hinj ha hb,fun h=>by rw[h]⟩
theorem Ev.of_eq {α:Type} {g:Nat->Option α} {r:α} (h:∀ k,g k=some r):Ev g r:=⟨0,fun k _=>h k⟩
theorem Ev.if_t {α:Type} {p:Prop} [Decidable p] {f g:Nat->Option α} {r:α} (hp:p) (h:Ev f r):Ev (fun k=>if p then f k else g k) r:=by
 simpa only[if_pos hp]using h
theorem Ev.if_f {α:Type} {p:Prop} [Decidable p] {f g:Nat->Option α} {r:α} (hp: ¬ p) (h:Ev g r):Ev (fun k=>if p then f k else g k) r:=by
 simpa only[if_neg hp]using h
theorem Ev.fn {α:Type} {g f:Nat->Option α} {r:α} (k:Ev f r) (h:∀ k,g k=f k):Ev g r:=Ev.congr h k
theorem Ev.obind {α β:Type} {x:Option α} {f:Nat->α->Option β} {a:α} {r:β} (h:x=some a) (k:Ev (fun n=>f n a) r):Ev (fun n=>x.bind (f n)) r:=by
 subst h;exact k
theorem Ev.succ {α:Type} {g:Nat->Option α} {r:α} (h:Ev (fun k=>g (k+1)) r):Ev g r:=Ev.step (fun _=>rfl) h
abbrev U64 (l:List Int):Prop:=In 18446744073709551615 l
abbrev B8 (l:List Int):Prop:=In 255 l
theorem bitLenAux_le:∀ (f x w:Nat),w<=f->(Lib.bitLenAux f x<=w↔x < 2 ^ w)∨2 ^ f<=x
 |0,x,w,h=>by
  obtain rfl:w=0:=by omega
  by_cases hx:x < 1
  .left;simp[Lib.bitLenAux];omega
  .right;simp;omega
 |f+1,x,w,h=>by
  by_cases hb:2 ^ (f+1)<=x
  .exact .inr hb
  .left
   simp only[Lib.bitLenAux]
   split
   .next h0=>subst h0;simp[two_pow_pos']
   .next h0=>
    cases w with
    |zero=>simp;omega
    |succ w=>
     rcases bitLenAux_le f (x / 2) w (by omega)with h1|h1
     .rw[show 1+Lib.bitLenAux f (x / 2)<=w+1↔Lib.bitLenAux f (x / 2)<=w by omega,h1,Nat.pow_succ]
      omega
     .rw[Nat.pow_succ]at hb
      omega
theorem bitLen_le_iff {x w:Nat} (hx:x < 2 ^ 64) (hw:w<=64):Lib.bitLen x<=w↔x < 2 ^ w:=by
 rcases bitLenAux_le 64 x w hw with h|h
 .exact h
 .omega
theorem shl_u64 (x:Int) (n:Nat) (hn:n<=64):shl .u64 x (n:Int)=IntKind.u64.wrap (x*2 ^ n):=by
 unfold shl
 rw[Int.toNat_natCast,show IntKind.u64.bits=64 from rfl,Nat.min_eq_left hn]
theorem shr_u64 (x:Int) (n:Nat) (hn:n<=64):shr .u64 x (n:Int)=x / 2 ^ n:=by
 unfold shr
 rw[Int.toNat_natCast,show IntKind.u64.bits=64 from rfl,Nat.min_eq_left hn]
theorem shl_u8 (x:Int) (n:Nat) (hn:n<=8):shl .u8 x (n:Int)=IntKind.u8.wrap (x*2 ^ n):=by
 unfold shl
 rw[Int.toNat_natCast,show IntKind.u8.bits=8 from rfl,Nat.min_eq_left hn]
theorem shr_u8 (x:Int) (n:Nat) (hn:n<=8):shr .u8 x (n:Int)=x / 2 ^ n:=by
 unfold shr
 rw[Int.toNat_natCast,show IntKind.u8.bits=8 from rfl,Nat.min_eq_left hn]
theorem pow_le_256 {n:Nat} (h:n<=8):2 ^ n<=256:=by
 have:=Nat.pow_le_pow_right (show 0 < 2 by decide) h
 simpa using this
theorem mn_eq (a b:Nat):mn (a:Int) (b:Int)=((min a b:Nat):Int):=by unfold mn;split<;>omega
theorem place (w i k:Nat) (h:w*i+k<=9223372036854775800):wrap64 ((wrap64 ((i:Int)*(w:Int)))+(k:Int))=((w*i+k:Nat):Int):=by
 have e:(i:Int)*(w:Int)=((w*i:Nat):Int):=by rw[Int.mul_comm,<- Int.natCast_mul]
 rw[e,w64 (x:=((w*i:Nat):Int)) (by omega) (by omega),w64 (by omega) (by omega)]
 omega
theorem div8 (p:Nat) (h:p<=9223372036854775800):wrap64 (Int.tdiv (p:Int) 8)=((p / 8:Nat):Int):=by
 rw[Int.tdiv_eq_ediv_of_nonneg (by omega),w64 (by omega) (by omega)];omega
theorem mod8 (p:Nat):Int.tmod (p:Int) 8=((p % 8:Nat):Int):=by rw[Int.tmod_eq_emod_of_nonneg (by omega)];omega
theorem mod2 (p:Nat):Int.tmod (p:Int) 2=((p % 2:Nat):Int):=by rw[Int.tmod_eq_emod_of_nonneg (by omega)];omega
theorem inc (p:Nat) (h:p<=9223372036854775800):wrap64 ((p:Int)+1)=((p+1:Nat):Int):=by
 rw[w64 (by omega) (by omega)];omega
theorem sub64 (a b:Nat) (h:b<=a) (ha:a<=9223372036854775800):wrap64 ((a:Int) - (b:Int))=((a - b:Nat):Int):=by rw[w64 (by omega) (by omega)];omega
theorem add64 (a b:Nat) (h:a+b<=9223372036854775800):wrap64 ((a:Int)+(b:Int))=((a+b:Nat):Int):=by rw[w64 (by omega) (by omega)];omega
end Go.Proofs.YtooeclfeallkkaaQ
end
