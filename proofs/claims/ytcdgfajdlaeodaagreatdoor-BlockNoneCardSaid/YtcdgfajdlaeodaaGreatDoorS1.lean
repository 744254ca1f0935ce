/- Part 1 of the proof: contracts of functions, and plain laws. -/
import Derived.Test.YtcdgfajdlaeodaaGreatDoorS0
import Derived.Test.YtcdgfajdlaeodaaGreatDoorChecked
set_option maxRecDepth 100000
set_option maxHeartbeats 4000000
namespace Go.Proofs.YtcdgfajdlaeodaaGreatDoor
end Go.Proofs.YtcdgfajdlaeodaaGreatDoor
namespace Go.Proofs.YtcdgfajdlaeodaaGreatDoor.Num
def zigI (n:Int):Int:=if 0<=n then 2*n else-2*n-1
def zagI (n:Int):Int:=if n%2=0 then n/2 else-(n/2)-1
theorem zig_bd(n:Int)(h1: -9223372036854775808<=n)(h2:n<=9223372036854775807):0<=zigI n/\zigI n<18446744073709551616:=by
 unfold zigI;split<;>omega
def smallF:Nat->Nat->List UInt8
 |0,n=>[UInt8.ofNat n]
 |f+1,n=>if n<128 then[UInt8.ofNat n] else UInt8.ofNat (n%128+128)::smallF f (n/128)
def small(n:Nat):List UInt8:=smallF 9 n
def text (t:List UInt8):List UInt8:=small t.length++t
def wideF:Nat->Nat->List UInt8
 |0,_=>[]
 |k+1,n=>UInt8.ofNat (n%256)::wideF k (n/256)
def wide (n:Nat):List UInt8:=wideF 8 n
def szI (k:Int):Int:=min (max k 0) 255
def szN (k:Int):Nat:=(szI k).toNat
def fixed(t:List UInt8)(k:Int):List UInt8:=
 t.take (szN k)++List.replicate (szN k-(t.take (szN k)).length) 0++[UInt8.ofNat (t.take (szN k)).length]
def gsF:Nat->Nat->Nat->List UInt8->Option (Nat×Nat)
 |0,_,_,_=>none
 |_+1,_,_,[]=>none
 |f+1,i,n,b::r=>
  if (i=9/\1<b.toNat)\/(0<i/\b.toNat=0) then none
  else if b.toNat<128 then some (n+b.toNat*128^i,i+1)
  else gsF f (i+1) (n+(b.toNat-128)*128^i) r
def getSmall(l:List UInt8):Option (Nat×Nat):=gsF 10 0 0 l
def unw:List UInt8->Nat
 |[]=>0
 |b::r=>b.toNat+256*unw r
def getWide(l:List UInt8):Option (Nat×Nat):=if l.length<8 then none else some (unw (l.take 8),8)
def getText(l:List UInt8)(most:Int):Option (List UInt8×Nat):=
 match getSmall l with
 |none=>none
 |some (n,k)=>if most<0\/l.length-k<n\/most.toNat<n then none else some ((l.drop k).take n,k+n)
def getFixed(l:List UInt8)(k:Int):Option (List UInt8×Nat):=
 match l[szN k]? with
 |none=>none
 |some b=>if szN k<b.toNat\/((l.take (szN k)).drop b.toNat).all (·==0)=false then none else some (l.take b.toNat,szN k+1)
def getTake(l:List UInt8)(n:Int):Option (List UInt8×Nat):=if n<0\/(l.length:Int)<n then none else some (l.take n.toNat,n.toNat)
def ans {α:Type}(z:α)(c:List UInt8×Bool)(g:Option (α×Nat)):α:=if c.2 then z else match g with|none=>z|some (v,_)=>v
def nxt {α:Type}(c:List UInt8×Bool)(g:Option (α×Nat)):List UInt8×Bool:=if c.2 then c else match g with|none=>(c.1,true)|some (_,n)=>(c.1.drop n,false)
theorem szN_le(k:Int):szN k<=255:=by unfold szN szI;omega
theorem ofNat_toNat(n:Nat)(h:n<256):(UInt8.ofNat n).toNat=n:=by simp;omega
theorem smallF_len(f n:Nat):1<=(smallF f n).length/\(smallF f n).length<=f+1:=by
 induction f generalizing n with
 |zero=>simp[smallF]
 |succ f ih=>
  unfold smallF;split
  ·simp
  ·have:=ih (n/128);simp only[List.length_cons];omega
theorem small_len(n:Nat):1<=(small n).length/\(small n).length<=10:=smallF_len 9 n
theorem wideF_len(k n:Nat):(wideF k n).length=k:=by
 induction k generalizing n with
 |zero=>rfl
 |succ k ih=>simp[wideF,ih]
theorem wide_len(n:Nat):(wide n).length=8:=wideF_len 8 n
theorem fixed_len(t:List UInt8)(k:Int):(fixed t k).length=szN k+1:=by
 unfold fixed;simp;omega
theorem p128(i:Nat):128^(i+1)=128*128^i:=by rw[Nat.pow_succ,Nat.mul_comm]
theorem gsF_only(f i acc:Nat)(l:List UInt8)(v k:Nat)(hi:i+f=9)(h:gsF (f+1) i acc l=some (v,k)):
 ∃m,v=acc+m*128^i/\(0<i->0<m)/\m<2*128^f/\k=i+(smallF f m).length/\∃r,l=smallF f m++r:=by
 induction f generalizing i acc l with
 |zero=>
  obtain rfl:i=9:=by omega
  cases l with
  |nil=>simp[gsF] at h
  |cons b r=>
   simp only[gsF] at h;split at h
   ·cases h
   ·rename_i h1;have h1':b.toNat<=1/\b.toNat≠0:=by
     have h2:¬1<b.toNat:=fun h=>h1 (.inl ⟨trivial,h⟩);have h3:¬b.toNat=0:=fun h=>h1 (.inr ⟨by omega,h⟩);omega
    rw[if_pos (by omega)] at h;simp only[Option.some.injEq,Prod.mk.injEq] at h;refine⟨b.toNat,h.1.symm,by omega,by omega,by simp[smallF];omega,r,by simp[smallF]⟩
 |succ f ih=>
  cases l with
  |nil=>simp[gsF] at h
  |cons b r=>
   rw[gsF] at h;split at h
   ·cases h
   ·rename_i h1;split at h
    ·rename_i h2;simp only[Option.some.injEq,Prod.mk.injEq] at h;have hp:0<128^f:=Nat.pow_pos (by omega);refine⟨b.toNat,h.1.symm,by omega,by rw[p128];omega,?_,r,?_⟩
     ·unfold smallF;rw[if_pos h2];simp;omega
     ·unfold smallF;rw[if_pos h2];simp
    ·rename_i h2;obtain⟨m,hv,hm0,hm,hk,r',hr⟩:=ih (i+1) _ r (by omega) h;have hm1:=hm0 (by omega);have hbl:b.toNat<256:=UInt8.toNat_lt b;have e1:(m*128+(b.toNat-128))/128=m:=by omega
     have e2:(m*128+(b.toNat-128))%128=b.toNat-128:=by omega
     refine⟨m*128+(b.toNat-128),?_,by omega,by rw[p128];omega,?_,r',?_⟩
     ·rw[hv,p128,Nat.add_mul,<-Nat.mul_assoc];omega
     ·unfold smallF;rw[if_neg (by omega),e1,hk];simp only[List.length_cons];omega
     ·unfold smallF;rw[if_neg (by omega),e1,e2,hr];have:b.toNat-128+128=b.toNat:=by omega
      rw[this];simp
theorem getSmall_only(l:List UInt8)(v k:Nat)(h:getSmall l=some (v,k)):v<18446744073709551616/\k=(small v).length/\l=small v++l.drop k:=by
 obtain⟨m,hv,_,hm,hk,r,hr⟩:=gsF_only 9 0 0 l v k (by omega) h;have e:v=m:=by rw[hv];simp
 subst e;have hk':k=(smallF 9 v).length:=by rw[hk];omega
 refine⟨by simpa using hm,hk',?_⟩;rw[hk']
 conv=>rhs;rw[hr]
 rw[hr];simp[small]
theorem unw_lt(l:List UInt8):unw l<256^l.length:=by
 induction l with
 |nil=>simp[unw]
 |cons b r ih=>
  have hbl:b.toNat<256:=UInt8.toNat_lt b;simp only[unw,List.length_cons,Nat.pow_succ];omega
theorem wideF_unw(l:List UInt8):wideF l.length (unw l)=l:=by
 induction l with
 |nil=>rfl
 |cons b r ih=>
  have hbl:b.toNat<256:=UInt8.toNat_lt b;have e1:(b.toNat+256*unw r)%256=b.toNat:=by omega
  have e2:(b.toNat+256*unw r)/256=unw r:=by omega
  simp only[List.length_cons,wideF,unw,e1,e2,ih];simp
end Go.Proofs.YtcdgfajdlaeodaaGreatDoor.Num
namespace Go.Proofs.YtcdgfajdlaeodaaGreatDoor
end Go.Proofs.YtcdgfajdlaeodaaGreatDoor
namespace Go.Proofs.YtcdgfajdlaeodaaGreatDoor.Num
theorem getWide_only(l:List UInt8)(v k:Nat)(h:getWide l=some (v,k)):v<18446744073709551616/\k=8/\l=wide v++l.drop 8:=by
 unfold getWide at h;split at h
 ·cases h
 ·rename_i h8;simp only[Option.some.injEq,Prod.mk.injEq] at h;have hl:(l.take 8).length=8:=by simp;omega
  have hlt:=unw_lt (l.take 8);rw[hl] at hlt;refine⟨by rw[<-h.1];simpa using hlt,h.2.symm,?_⟩;have:=wideF_unw (l.take 8);rw[hl] at this;rw[<-h.1];unfold wide;rw[this,List.take_append_drop]
theorem text_len(t:List UInt8):(text t).length=(small t.length).length+t.length:=by simp[text]
theorem getFixed_only(l:List UInt8)(k:Int)(t:List UInt8)(j:Nat)(h:getFixed l k=some (t,j)):l=fixed t k++l.drop j:=by
 unfold getFixed at h;cases hg:l[szN k]? with
 |none=>rw[hg] at h;cases h
 |some b=>
  rw[hg] at h;simp only[] at h;obtain⟨hlt,hb⟩:=List.getElem?_eq_some_iff.1 hg;split at h
  ·cases h
  ·rename_i hc;simp only[Option.some.injEq,Prod.mk.injEq] at h;have hbk:b.toNat<=szN k:=by
    rcases Nat.lt_or_ge (szN k) b.toNat with h'|h'
    ·exact absurd (.inl h') hc
    ·exact h'
   have hall:((l.take (szN k)).drop b.toNat).all (·==0)=true:=by
    cases h':((l.take (szN k)).drop b.toNat).all (·==0) with
    |true=>rfl
    |false=>exact absurd (.inr h') hc
   have htl:t.length=b.toNat:=by rw[<-h.1];simp;omega
   have hrep:(l.take (szN k)).drop b.toNat=List.replicate (szN k-b.toNat) 0:=by
    rw[List.eq_replicate_iff];refine⟨by simp;omega,fun x hx=>?_⟩;have:=List.all_eq_true.1 hall x hx;simpa using this
   have htake:t.take (szN k)=t:=List.take_of_length_le (by omega);unfold fixed;rw[htake,htl,<-hrep,<-h.1,<-h.2];have e1:l.take (szN k)=l.take b.toNat++(l.take (szN k)).drop b.toNat:=by
    conv=>lhs;rw[<-List.take_append_drop b.toNat (l.take (szN k))]
    rw[List.take_take,Nat.min_eq_left hbk]
   have e2:l.drop (szN k)=b::l.drop (szN k+1):=by rw[List.drop_eq_getElem_cons hlt,hb]
   conv=>lhs;rw[<-List.take_append_drop (szN k) l,e2,e1]
   simp
theorem getTake_some(l:List UInt8)(n:Nat)(h:n<=l.length):getTake l n=some (l.take n,n):=by
 unfold getTake;rw[if_neg (by omega),Int.toNat_natCast]
end Go.Proofs.YtcdgfajdlaeodaaGreatDoor.Num
namespace Go.Proofs.YtcdgfajdlaeodaaGreatDoor
section
open Go.RowKit
theorem so{k:IntKind}{a b:Int}(h:a=b):Ending.returned (.int k a)=.returned (.int k b):=by rw[h]
theorem oR(n:Int)(w:World)(h1: -9223372036854775808<=n)(h2:n<=9223372036854775807):
 Calls Tryz.prog 225 #[.int .i64 n] w fun e w'=>e=.returned (.int .i64 (Num.szI n))/\w=w':=by
 by_cases h0:n<0
 ·have hb:Hid (0=Num.szI n):=by show _=_;unfold Num.szI;omega
  go_enter Tryz.func225,Tryz.ntmps225
  go_wp2;go_ret;exact⟨so hb.out,rfl⟩
 ·have h0':0<=n:=by omega
  clear h0;by_cases h5:255<n
  ·have hb:Hid (255=Num.szI n):=by show _=_;unfold Num.szI;omega
   go_enter Tryz.func225,Tryz.ntmps225
   go_wp2;go_ret;exact⟨so hb.out,rfl⟩
  ·have hb:Hid (n=Num.szI n):=by show _=_;unfold Num.szI;omega
   go_enter Tryz.func225,Tryz.ntmps225
   go_wp2;go_ret;exact⟨so hb.out,rfl⟩
theorem Jv(a:Nat)(h:a<18446744073709551616):a^^^18446744073709551615=18446744073709551615-a:=by
 have e:(BitVec.ofNat 64 a^^^BitVec.allOnes 64).toNat=(~~~ BitVec.ofNat 64 a).toNat:=by rw[BitVec.xor_allOnes]
 rw[BitVec.toNat_xor,BitVec.toNat_not,BitVec.toNat_allOnes,BitVec.toNat_ofNat,Nat.mod_eq_of_lt (by simpa using h)] at e;simpa using e
theorem FZ(n:Int)(h1: -9223372036854775808<=n)(h2:n<=9223372036854775807):
 bits BinOp.xor IntKind.u64 (IntKind.u64.wrap (IntKind.u64.wrap n*2)) (IntKind.u64.wrap (n/9223372036854775808))=Num.zigI n:=by
 have w (x:Int):IntKind.u64.wrap x=x%18446744073709551616:=by simp[IntKind.wrap,IntKind.bits,IntKind.signed]
 rw[u64_xor _ _ (by rw[w];omega) (by rw[w];omega) (by rw[w];omega) (by rw[w];omega)]
 simp only[w]
 unfold Num.zigI
 by_cases h:0<=n
 ·have e:n/9223372036854775808=0:=by omega
  rw[if_pos h,e];simp;omega
 ·have e:n/9223372036854775808%18446744073709551616=18446744073709551615:=by omega
  rw[if_neg h,e];have e2:(18446744073709551615:Int).toNat=18446744073709551615:=rfl;rw[e2,Jv _ (by omega)];omega
theorem gN(n:Int)(w:World)(h1: -9223372036854775808<=n)(h2:n<=9223372036854775807):
 Calls Tryz.prog 181 #[.int .i64 n] w fun e w'=>e=.returned (.int .u64 (Num.zigI n))/\w=w':=by
 have hb:=af (FZ n h1 h2)
 go_enter Tryz.func181,Tryz.ntmps181
 go_wp2
 go_ret
 exact⟨so hb.out,rfl⟩
theorem Le(m:Int)(h0:0<=m):bits BinOp.or IntKind.u8 (m%256) 128=(((UInt8.ofNat (m.toNat%128+128)).toNat:Nat):Int):=by
 rw[u8_or _ _ (by omega) (by omega) (by omega) (by omega),Num.ofNat_toNat _ (by omega),show (128:Int).toNat=128 from rfl];have e:∀x:Fin 256,x.val|||128=x.val%128+128:=by decide+kernel
 have h:=e ⟨(m%256).toNat,by omega⟩;simp only at h;rw[h];congr 1;omega
def py(n:Int)(w:World)(vn vi:Value)(wr:World):Prop:=
 ∃(k:Nat) (m:Int) (E:List UInt8),vi=.int .i64 (k:Nat)/\vn=.int .u64 m/\E.length=k/\k<=9/\0<=m/\m<18446744073709551616/\m.toNat<128^(10-k)/\
  Num.small n.toNat=E++Num.smallF (9-k) m.toNat/\wr=w.alloc (.cells (kg 10 E) 160)
theorem py.next{n:Int}{w:World}{k:Nat}{m:Int}{E:List UInt8}(hk:E.length=k)(hk9:k<=9)(hm0:0<=m)(hm:m<18446744073709551616)(hp:m.toNat<128^(10-k))
 (he:Num.small n.toNat=E++Num.smallF (9-k) m.toNat) (hlt:128<=m) (wr:World)
 (hw:wr=w.alloc (.cells ((kg 10 E).setIfInBounds k (.int .u8 (bits BinOp.or IntKind.u8 (m%256) 128))) 160)):
 k+1<=9/\py n w (.int .u64 (m/128)) (.int .i64 ((k:Int)+1)) wr:=by
 have hk8:k<=8:=by
  rcases Nat.lt_or_ge k 9 with h|h
  ·omega
  ·obtain rfl:k=9:=by omega
   simp at hp;omega
 refine⟨by omega,k+1,m/128,E++[UInt8.ofNat (m.toNat%128+128)],by simp,rfl,by simp[hk],by omega,by omega,by omega,?_,?_,?_⟩
 ·have e:10-k=10-(k+1)+1:=by omega
  rw[e,Num.p128] at hp;have:(m/128).toNat=m.toNat/128:=by omega
  omega
 ·have e:9-k=9-(k+1)+1:=by omega
  rw[he,e,Num.smallF,if_neg (by omega)];have:(m/128).toNat=m.toNat/128:=by omega
  simp[this]
 ·rw[hw,Le m hm0];subst hk;rw[po 10 E (by omega)]
theorem Bl{n m:Int}{k:Nat}{E:List UInt8}(hm0:0<=m)(he:Num.small n.toNat=E++Num.smallF (9-k) m.toNat)(hlt:m<128):E++[UInt8.ofNat m.toNat]=Num.small n.toNat:=by
 rw[he];congr 1;cases 9-k with
 |zero=>simp[Num.smallF]
 |succ f=>rw[Num.smallF,if_pos (by omega)]
theorem aT(n:Int)(w:World)(h1:0<=n)(h2:n<18446744073709551616):
 Calls Tryz.prog 32 #[.int .u64 n] w fun e w'=>e=.returned (.string (bs (Num.small n.toNat)))/\Below w.heap.size w w':=by
 go_enter Tryz.func32,Tryz.ntmps32
 go_wp2
 go_loopw [0,4] (fun vn vi wr=>py n w vn vi wr) (fun _ vi _=>10-(intOf vi).toNat)
 case atStart=>
  exact⟨0,n,[],rfl,rfl,rfl,by omega,h1,h2,by simp;omega,by simp[Num.small],rfl⟩
 case round=>
  obtain⟨k,m,E,rfl,rfl,hk,hk9,hm0,hm,hp,he,rfl⟩:=hrel;by_cases hlt:128<=m
  ·have hn:=af (fun wr hw=>py.next (w:=w) hk hk9 hm0 hm hp he hlt wr hw);have ha:(kg 10 E)[k]?=some (.int .u8 0):=by rw[<-hk];exact mX 10 E (by omega)
   clear hk hp he;go_wp2;go_roundw
   case rel=>exact(hn.out _ rfl).2
   case measure=>have:=(hn.out _ rfl).1;simp[intOf];omega
  ·have hlt':m<128:=by omega
   have hd:=af (Bl hm0 he hlt');have ha:(kg 10 E)[k]?=some (.int .u8 0):=by rw[<-hk];exact mX 10 E (by omega)
   have hset:(kg 10 E).setIfInBounds k (.int .u8 m)=kg 10 (E++[UInt8.ofNat m.toNat]):=by
    have:=po 10 E (by omega) (UInt8.ofNat m.toNat);rw[Num.ofNat_toNat _ (by omega),hk,Int.toNat_of_nonneg hm0] at this;exact this
   have hs:=fun W=>uX (P:=Tryz.prog) 160 5 10 1 Tryz.underlying160 (by kernel_rfl) w.heap.size (k+1) .i64 (by omega) W;have hc:=lj (P:=Tryz.prog) 82 9 5 Tryz.underlying82 Tryz.underlying5 Tryz.underlying9 10 10 (E++[UInt8.ofNat m.toNat]) 160 w;have hl:(E++[UInt8.ofNat m.toNat]).length=k+1:=by simp[hk]
   rw[hl] at hc;rw[hd.out] at hc hset;clear hk hp he hl hlt;simp only[Int.natCast_add,Int.cast_ofNat_Int] at hs;go_wp2;go_ret;exact⟨rfl,(bR).alloc (aF _) _⟩
theorem sH(k n:Nat):Num.wideF (k+1) n=Num.wideF k n++[UInt8.ofNat (n/256^k%256)]:=by
 induction k generalizing n with
 |zero=>simp[Num.wideF]
 |succ k ih=>
  rw[Num.wideF,ih (n/256)];simp only[Num.wideF,List.cons_append,Nat.div_div_eq_div_mul];rw[Nat.pow_succ,Nat.mul_comm 256]
theorem Ld(n:Int)(h:0<=n)(k:Nat):n/2^(8*k)%256=((n.toNat/256^k%256:Nat):Int):=by
 obtain⟨m,rfl⟩:=Int.eq_ofNat_of_zero_le h;have e:(2:Int)^(8*k)=((256^k:Nat):Int):=by
  rw[show (256:Nat)^k=2^(8*k) from by rw[Nat.pow_mul]];simp
 rw[Int.toNat_natCast,e,Int.natCast_emod,Int.natCast_ediv];rfl
def DN(n:Int)(w:World)(vi:Value)(wr:World):Prop:=
 ∃(k:Nat),vi=.int .i64 (k:Nat)/\k<=8/\wr=w.alloc (.cells (kg 8 (Num.wideF k n.toNat)) 162)
theorem cG(n:Int)(w:World)(h1:0<=n)(_h2:n<18446744073709551616):
 Calls Tryz.prog 33 #[.int .u64 n] w fun e w'=>e=.returned (.string (bs (Num.wide n.toNat)))/\Below w.heap.size w w':=by
 go_enter Tryz.func33,Tryz.ntmps33
 go_wp2
 go_loopw [5] (fun vi wr=>DN n w vi wr) (fun vi _=>10-(intOf vi).toNat)
 case atStart=>exact⟨0,rfl,by omega,rfl⟩
 case round=>
  obtain⟨k,rfl,hk8,rfl⟩:=hrel;by_cases hlt:k<8
  ·have ha:(kg 8 (Num.wideF k n.toNat))[k]?=some (.int .u8 0):=by
    have:=mX 8 (Num.wideF k n.toNat) (by rw[Num.wideF_len];omega);rw[Num.wideF_len] at this;exact this
   have hset:Hid (∀wr,wr=w.alloc (.cells ((kg 8 (Num.wideF k n.toNat)).setIfInBounds k (.int .u8 (n/2^(8*k)%256))) 162)->DN n w (.int .i64 ((k:Int)+1)) wr):=by
    rintro wr rfl;refine⟨k+1,rfl,by omega,?_⟩;have:=po 8 (Num.wideF k n.toNat) (by rw[Num.wideF_len];omega) (UInt8.ofNat (n.toNat/256^k%256));rw[Num.wideF_len] at this;rw[sH,<-this,Num.ofNat_toNat _ (by omega),Ld n h1 k]
   go_wp2;go_roundw
   case rel=>exact hset.out _ rfl
   case measure=>simp[intOf];omega
  ·obtain rfl:k=8:=by omega
   have hs:=fun W=>lJ (P:=Tryz.prog) 162 5 8 1 Tryz.underlying162 (by kernel_rfl) w.heap.size W;have hc:=lj (P:=Tryz.prog) 82 9 5 Tryz.underlying82 Tryz.underlying5 Tryz.underlying9 8 8 (Num.wideF 8 n.toNat) 162 w;rw[Num.wideF_len] at hc;go_wp2;go_ret;exact⟨rfl,(bR).alloc (aF _) _⟩
theorem ee(t:List UInt8)(w:World)(h1:t.length<=1099511627776):
 Calls Tryz.prog 114 #[.string (bs t)] w fun e w'=>e=.returned (.string (bs (Num.text t)))/\Below w.heap.size w w':=by
 have hs:=Num.small_len t.length
 have hz:=af (aq t)
 have hz2:=aq (Num.small t.length)
 have hz1:(bs t).size<=1099511627776:=by rw[hz.out];exact h1
 have hc:=af (wJ (Num.small t.length) t)
 have hsz:(bs (Num.small t.length)).size<=10:=by omega
 clear hz2 hs
 go_enter Tryz.func114,Tryz.ntmps114
 go_wp2_with (go_at_call 32;refine(aT _ _ (by omega) (by omega)).mono ?_;rw[Int.toNat_natCast,hz.out];rintro e w' ⟨rfl,hb⟩)
 go_ret
 exact⟨by rw[hc.out];rfl,hb⟩
end
end Go.Proofs.YtcdgfajdlaeodaaGreatDoor
