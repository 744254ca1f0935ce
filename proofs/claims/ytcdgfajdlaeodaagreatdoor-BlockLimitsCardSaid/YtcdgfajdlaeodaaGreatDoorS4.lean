/- Part 4 of the proof: contracts of functions, and plain laws. -/
import Derived.Test.YtcdgfajdlaeodaaGreatDoorS3
import Derived.Laws.AppendOwnNone
import Derived.Lib.OwnBridge
import Derived.Deep.Slices
import Derived.OpenShut
import Derived.Lib.TrailingZeros
import Derived.Lib.ItoaNum
import Derived.Shelf.Sort.Plain
import Derived.Shelf.Slices.In.SortNone
import Derived.Shelf.SlicesE.Kit
set_option maxRecDepth 100000
set_option maxHeartbeats 4000000
namespace Go.Proofs.YtcdgfajdlaeodaaGreatDoor
section
open Go.RowKit
attribute [local go_sem] am aq
def Gp:Nat->List UInt8->Option (List Lb)
 |k,s=>if s=[] then some [] else match k with
  |0=>none
  |k+1=>match Num.getText s 48 with
   |none=>none
   |some (a,i)=>match Num.getText (s.drop i) 48 with
    |none=>none
    |some (b,j)=>(Gp k ((s.drop i).drop j)).map ((a,b)::·)
def La (key:List UInt8):Option (List Lb):=match Gp key.length key with
 |none=>none
 |some L=>if bz L=0 then some L else none
def aQ(L:List Lb):List Value:=L.flatMap fun x=>[.string (bs x.1),.string (bs x.2)]
theorem ek(L:List Lb):(aQ L).length=L.length*2:=by
 induction L with
 |nil=>rfl
 |cons x l ih=>unfold aQ at*;simp only[List.flatMap_cons,aG,de,List.length_nil,ih];omega
theorem nN:∀(L:List Lb) (i:Nat) x,L[i]?=some x->(aQ L)[i*2]?=some (.string (bs x.1))/\(aQ L)[i*2+1]?=some (.string (bs x.2))
 |[],i,x,h=>by simp at h
 |y::l,0,x,h=>by
  obtain rfl:y=x:=by simpa using h
  exact⟨rfl,rfl⟩
 |y::l,i+1,x,h=>by
  have ih:=nN l i x (by simpa using h);have e:aQ (y::l)=.string (bs y.1)::.string (bs y.2)::aQ l:=rfl;rw[e,show (i+1)*2=i*2+1+1 by omega];exact ih
theorem eY(g j:Nat):(⟨g,0,none⟩:Addr).add j=⟨g,j,none⟩:=by unfold Addr.add;split<;>simp_all
theorem ui(w:World)(xs:List Value)(t:TypeId):∀j u,xs[j]?=some u->(w.alloc (.cells xs.toArray t)).cell? ((⟨w.heap.size,0,none⟩:Addr).add j)=some u:=fun j u h=>by
 rw[eY,World.cell?_alloc_new];simpa using h
theorem Bw{w:World}{B:Nat}{v:Value}{L:List Lb}(h:w.ownsRow B 73 2 v L.length (aQ L))(hn:L.length<=1048576)(hl:∀x∈L,x.1.length<=1048576/\x.2.length<=1048576):aC w v L:=by
 have hcells:∀g,v.ownBlock=some g->∀j u,(aQ L)[j]?=some u->w.cell? ((⟨g,0,none⟩:Addr).add j)=some u:=fun g hg=>h.cells (g:=g) hg;rcases h.2 with⟨e,e0⟩|⟨g,cap,cur,e,e1,e2,e3⟩
 ·refine⟨none,0,by rw[e,e0],hn,fun i x hx=>?_⟩;rw[List.length_eq_zero_iff.1 e0] at hx;simp at hx
 ·refine⟨some ⟨g,0,none⟩,cap,e,hn,fun i x hx=>?_⟩;obtain⟨h1,h2⟩:=hl x (List.mem_of_getElem? hx);obtain⟨h3,h4⟩:=nN L i x hx;refine⟨h1,h2,g,0,rfl,?_,?_⟩
  ·have:=hcells g (by rw[e];rfl) _ _ h3;rw[eY] at this;rw[Nat.zero_add];exact this
  ·have:=hcells g (by rw[e];rfl) _ _ h4;rw[eY] at this;rw[Nat.zero_add];exact this
def tT (c:List UInt8×Bool)(n:Int):List UInt8:=if c.2 then[] else gP (Num.getText c.1 n)
def nT (c:List UInt8×Bool)(n:Int):List UInt8×Bool:=Num.nxt c (Num.getText c.1 n)
theorem BJ(l:List UInt8)(m:Int)(t:List UInt8)(k:Nat)(h:Num.getText l m=some (t,k)):(t.length:Int)<=m/\1+t.length<=k/\k<=l.length:=by
 unfold Num.getText at h;cases hs:Num.getSmall l with
 |none=>rw[hs] at h;cases h
 |some x=>
  obtain⟨n,i⟩:=x;obtain⟨_,b1,b2,b3⟩:=mr l n i hs;rw[hs] at h;simp only at h;split at h
  ·cases h
  ·rename_i hc;obtain⟨rfl,rfl⟩:=Prod.mk.inj (aA h);rw[dt,List.length_drop];omega
def cV(w:World)(v:Value)(L:List Lb):Prop:=aC w v L/\∀b,v.ownBlock=some b->nf w b=some (some 73)
theorem FS{w w':World}{S:Nat->Prop}{b:Nat}{x:Option TypeId}(h:nf w b=some x)(hk:ak w w' S)(hS:¬S b):nf w' b=some x:=by
 have hlt:=J2 h;unfold nf at*;rw[hk.block b hlt hS];exact h
theorem cV.kept{w w':World}{S:Nat->Prop}{v:Value}{L:List Lb}(h:cV w v L)(hk:ak w w' S)(hS:∀b,nf w b=some (some 73)->¬S b):cV w' v L:=by
 obtain⟨⟨a,c,rfl,h2,h3⟩,h4⟩:=h;refine⟨⟨a,c,rfl,h2,fun i x hx=>?_⟩,fun b hb=>FS (h4 b hb) hk (hS b (h4 b hb))⟩;obtain⟨h5,h6,b,o,rfl,h7,h8⟩:=h3 i x hx;have hb:=hS b (h4 b rfl);exact⟨h5,h6,b,o,rfl,hk.cell h7 hb,hk.cell h8 hb⟩
theorem cV.below{w w':World}{v:Value}{L:List Lb}(h:cV w v L)(hb:Below w.heap.size w w'):cV w' v L:=h.kept (ak.of_below (S:=fun _=>False) hb) fun _ _ e=>e
theorem ml{w:World}{B:Nat}{v:Value}{L:List Lb}(h:w.ownsRow B 73 2 v L.length (aQ L))(hn:L.length<=1048576)(hl:∀x∈L,x.1.length<=1048576/\x.2.length<=1048576):cV w v L:=⟨Bw h hn hl,fun _ hb=>aX h hb⟩
theorem ay{a b c:World}(h:Below a.heap.size a b)(k:Below b.heap.size b c):Below a.heap.size a c:=h.trans (k.mono h.size)
theorem bP{P:Program}{f:FuncId}{args:Array Value}{w:World}{v:Ending}{Q:World->Prop}{R:Ending->World->Prop}(h:Calls P f args w fun e w'=>e=v/\Q w')(k:∀w',Q w'->R v w'):Calls P f args w R:=h.mono fun e w' ⟨h1,h2⟩=>by subst h1;exact k w' h2
structure Rc where
 kind:Int
 labels:List Lb
 t:Int
 u:Int
 v:Nat
def Rc.ok(x:Rc):Prop:= -9223372036854775808<=x.kind/\x.kind<=9223372036854775807/\ -9223372036854775808<=x.t/\x.t<=9223372036854775807/\ -9223372036854775808<=x.u/\x.u<=9223372036854775807/\x.v<18446744073709551616
def gu(x:Rc)(sl:Value):List Value:=[.int .i64 x.kind,sl,.int .i64 x.t,.int .i64 x.u,.int .u64 (x.v:Int)]
def rG (x:Rc)(sl:Value):Value:=.agg #[.int .i64 x.kind,sl,.int .i64 x.t,.int .i64 x.u,.int .u64 (x.v:Int)]
def aU(t:Int):Bool:=decide (0<=t)&&decide (t<=1125899906842624)
def lh(x:Rc):Bool:=
 if x.kind=0 then decide (bz x.labels=0)&&(aU x.t&&decide (x.u=0))
 else if x.kind=1 then decide (bz x.labels=0)&&(decide (x.t<=x.u)&&decide (x.v=0))
 else if x.kind=2 then decide (x.labels.length=0)&&(aU x.t&&(decide (x.u=0)&&decide (x.v=0)))
 else false
def dJ(x:Rc)(g:Int):Int:=if lh x=false then 1 else if cw g<(aZ x.labels:Int) then 3 else 0
theorem AK(t:Int)(w:World):Calls Tryz.prog 131 #[.int .i64 t] w fun e w'=>e=.returned (.bool (aU t))/\w=w':=by
 by_cases h:0<=t
 ·have hd:decide (0<=t)=true:=by simpa using h
  have hb:aU t=decide (t<=1125899906842624):=by unfold aU;rw[hd];rfl
  rw[hb];clear hb;go_enter Tryz.func131,Tryz.ntmps131
  go_wp2;go_ret;exact⟨rfl,rfl⟩
 ·have hd:decide (0<=t)=false:=by simpa using h
  have hb:aU t=false:=by unfold aU;rw[hd];rfl
  rw[hb];clear hb;go_enter Tryz.func131,Tryz.ntmps131
  go_wp2;go_ret;exact⟨rfl,rfl⟩
def gh(g:Int):Bool:=decide (1<=g)&&decide (g<=3)
theorem vB(t:Int)(w:World):Calls Tryz.prog 104 #[.int .i64 t] w fun e w'=>e=.returned (.bool (gh t))/\w=w':=by
 by_cases h:1<=t
 ·have hd:decide (1<=t)=true:=by simpa using h
  have hb:gh t=decide (t<=3):=by unfold gh;rw[hd];rfl
  rw[hb];clear hb;go_enter Tryz.func104,Tryz.ntmps104
  go_wp2;go_ret;exact⟨rfl,rfl⟩
 ·have hd:decide (1<=t)=false:=by simpa using h
  have hb:gh t=false:=by unfold gh;rw[hd];rfl
  rw[hb];clear hb;go_enter Tryz.func104,Tryz.ntmps104
  go_wp2;go_ret;exact⟨rfl,rfl⟩
theorem pW(x:Rc)(sl:Value)(g:Int)(w:World)(hx:x.ok)(hL:aC w sl x.labels)(h1: -9223372036854775808<=g)(h2:g<=9223372036854775807):
 Calls Tryz.prog 59 #[rG x sl,.int .i64 g] w fun e w'=>e=.returned (.int .i64 (dJ x g))/\Below w.heap.size w w':=by
 obtain⟨k,L,t,u,v⟩:=x
 obtain⟨x1,x2,x3,x4,x5,x6,x7⟩:=hx
 simp only at x1 x2 x3 x4 x5 x6 x7 hL
 rw[show rG ⟨k,L,t,u,v⟩ sl=.agg #[.int .i64 k,sl,.int .i64 t,.int .i64 u,.int .u64 (v:Int)] from rfl]
 have hb0:=ai w (.cells #[.int .i64 k,sl,.int .i64 t,.int .i64 u,.int .u64 (v:Int)] 108)
 have hk0:ag (w.alloc (.cells #[.int .i64 k,sl,.int .i64 t,.int .i64 u,.int .u64 (v:Int)] 108)) w.heap.size 108 #[.int .i64 k,sl,.int .i64 t,.int .i64 u,.int .u64 (v:Int)]:=ag.new _ _ _
 generalize hW0:w.alloc (.cells #[.int .i64 k,sl,.int .i64 t,.int .i64 u,.int .u64 (v:Int)] 108)=W0 at*
 have hC:=fun (W:World) (hb:Below W0.heap.size W0 W)=>
  (show W.cell? ⟨w.heap.size,0,none⟩=some (.int .i64 k)/\W.cell? ⟨w.heap.size,1,none⟩=some sl/\W.cell? ⟨w.heap.size,2,none⟩=some (.int .i64 t)/\W.cell? ⟨w.heap.size,3,none⟩=some (.int .i64 u)/\W.cell? ⟨w.heap.size,4,none⟩=some (.int .u64 (v:Int))/\aC W sl L/\Below w.heap.size w W from
   ⟨((ag.below hk0 hb hk0.lt).cell 0).trans rfl,((ag.below hk0 hb hk0.lt).cell 1).trans rfl,((ag.below hk0 hb hk0.lt).cell 2).trans rfl,((ag.below hk0 hb hk0.lt).cell 3).trans rfl,((ag.below hk0 hb hk0.lt).cell 4).trans rfl,(hL.below hb0).below hb,ay hb0 hb⟩)
 have qC:=af (fun (W:World) (hb:Below W0.heap.size W0 W)=>(ji L sl W (hC W hb).2.2.2.2.2.1).mono fun e w' ⟨h1,h2⟩=>(show e=Ending.returned (.int .i64 (bz L))/\Below W0.heap.size W0 w' from⟨h1,ay hb h2⟩))
 have qL:=af (fun (W:World) (hb:Below W0.heap.size W0 W)=>(iN L sl W (hC W hb).2.2.2.2.2.1).mono fun e w' ⟨h1,h2⟩=>(show e=Ending.returned (.int .i64 (aZ L:Int))/\Below W0.heap.size W0 w' from⟨h1,ay hb h2⟩))
 have qM:=af (fun (W:World)=>mY g W h1 h2)
 have qT:=af (fun (W:World)=>AK t W)
 have HC:=af hC
 have HE1:=af (show lh ⟨k,L,t,u,v⟩=false->dJ ⟨k,L,t,u,v⟩ g=1 from fun e=>by unfold dJ;rw[if_pos e])
 have HE2:=af (show lh ⟨k,L,t,u,v⟩=true->dJ ⟨k,L,t,u,v⟩ g=if cw g<(aZ L:Int) then 3 else 0 from fun e=>by unfold dJ;rw[e];rfl)
 obtain⟨c0,c1,c2,c3,c4,_,hB⟩:=HC.out W0 (bQ)
 obtain⟨sa,sc,rfl,hln,_⟩:=hL
 clear hC hb0 hk0
 have HR:=af (show lh ⟨k,L,t,u,v⟩=if k=0 then decide (bz L=0)&&(aU t&&decide (u=0))
  else if k=1 then decide (bz L=0)&&(decide (t<=u)&&decide (v=0))
  else if k=2 then decide (L.length=0)&&(aU t&&(decide (u=0)&&decide (v=0)))
  else false from rfl)
 rw[show decide (v=0)=decide ((v:Int)=0) from decide_eq_decide.2 (by omega)] at HR
 generalize lh ⟨k,L,t,u,v⟩=R at*
 generalize dJ ⟨k,L,t,u,v⟩ g=V at*
 have hv0:0<=(v:Int):=by omega
 have hv1:(v:Int)<18446744073709551616:=by omega
 clear x7
 generalize (v:Int)=v at*
 generalize bz L=ce at*
 generalize aU t=tb at*
 generalize aZ L=lo at*
 generalize cw g=lm at*
 go_enter Tryz.func59,Tryz.ntmps59
 have hR:=HR.out
 have HC0:=HC.out W0 (bQ)
 clear HR HC0
 by_cases k0:k=0
 ·subst k0;rw[if_pos rfl] at hR;by_cases hce:ce=0
  ·subst hce;cases tb with
   |false=>
    have HR:=af (show R=false by rw[hR];simp);clear hR;go_wp2_with fail
    refine(qC.out _ (bQ)).mono ?_;rintro e w1 ⟨rfl,hb1⟩;obtain⟨d0,d1,d2,d3,d4,_,hB1⟩:=HC.out w1 hb1;clear qC c0 c1 c2 c3 c4;go_wp2_with fail
    refine(qT.out _).mono ?_;rintro e _ ⟨rfl,rfl⟩;clear HE2 qL qM;go_wp2;go_ret;exact⟨by rw[HE1.out HR.out];rfl,hB1⟩
   |true=>
    by_cases hu:u=0
    ·subst hu;have HR:=af (show R=true by rw[hR];simp);clear hR;go_wp2_with fail
     refine(qC.out _ (bQ)).mono ?_;rintro e w1 ⟨rfl,hb1⟩;obtain⟨d0,d1,d2,d3,d4,_,hB1⟩:=HC.out w1 hb1;clear qC c0 c1 c2 c3 c4;go_wp2_with fail
     refine(qT.out _).mono ?_;rintro e _ ⟨rfl,rfl⟩;have hE:=HE2.out HR.out;go_wp2_with fail
     refine(qL.out _ hb1).mono ?_;rintro e w2 ⟨rfl,hb2⟩;obtain⟨_,_,_,_,_,_,hB2⟩:=HC.out w2 hb2;clear HC;go_wp2_with fail
     refine(qM.out _).mono ?_;rintro e _ ⟨rfl,rfl⟩;by_cases hlm:lm<(lo:Int)
     ·have hd:decide (lm<(lo:Int))=true:=by simpa using hlm
      rw[if_pos hlm] at hE;have hE:=af hE;clear HE1 HE2;go_wp2;go_ret;exact⟨by rw[hE.out];rfl,hB2⟩
     ·have hd:decide (lm<(lo:Int))=false:=by simpa using hlm
      rw[if_neg hlm] at hE;have hE:=af hE;clear HE1 HE2;go_wp2;go_ret;exact⟨by rw[hE.out];rfl,hB2⟩
    ·have hz:(u==0)=false:=by simpa using hu
     have HR:=af (show R=false by rw[hR];simp[hu]);clear hR hu;go_wp2_with fail
     refine(qC.out _ (bQ)).mono ?_;rintro e w1 ⟨rfl,hb1⟩;obtain⟨d0,d1,d2,d3,d4,_,hB1⟩:=HC.out w1 hb1;clear qC c0 c1 c2 c3 c4;go_wp2_with fail
     refine(qT.out _).mono ?_;rintro e _ ⟨rfl,rfl⟩;clear HE2 qL qM;go_wp2;go_ret;exact⟨by rw[HE1.out HR.out];rfl,hB1⟩
  ·have hz:(ce==0)=false:=by simpa using hce
   have HR:=af (show R=false by rw[hR];simp[hce]);clear hR hce qT;go_wp2_with fail
   refine(qC.out _ (bQ)).mono ?_;rintro e w1 ⟨rfl,hb1⟩;obtain⟨d0,d1,d2,d3,d4,_,hB1⟩:=HC.out w1 hb1;clear qC c0 c1 c2 c3 c4;clear HE2 qL qM;go_wp2;go_ret;exact⟨by rw[HE1.out HR.out];rfl,hB1⟩
 rw[if_neg k0] at hR
 have hk0:(k==0)=false:=by simpa using k0
 clear k0
 by_cases k1:k=1
 ·subst k1;rw[if_pos rfl] at hR;by_cases hce:ce=0
  ·subst hce;by_cases htu:t<=u
   ·have hd:decide (t<=u)=true:=by simpa using htu
    by_cases hv:v=0
    ·subst hv;have HR:=af (show R=true by rw[hR];simp[htu]);clear hR qT;go_wp2_with fail
     refine(qC.out _ (bQ)).mono ?_;rintro e w1 ⟨rfl,hb1⟩;obtain⟨d0,d1,d2,d3,d4,_,hB1⟩:=HC.out w1 hb1;clear qC c0 c1 c2 c3 c4;have hE:=HE2.out HR.out;go_wp2_with fail
     refine(qL.out _ hb1).mono ?_;rintro e w2 ⟨rfl,hb2⟩;obtain⟨_,_,_,_,_,_,hB2⟩:=HC.out w2 hb2;clear HC;go_wp2_with fail
     refine(qM.out _).mono ?_;rintro e _ ⟨rfl,rfl⟩;by_cases hlm:lm<(lo:Int)
     ·have hd:decide (lm<(lo:Int))=true:=by simpa using hlm
      rw[if_pos hlm] at hE;have hE:=af hE;clear HE1 HE2;go_wp2;go_ret;exact⟨by rw[hE.out];rfl,hB2⟩
     ·have hd:decide (lm<(lo:Int))=false:=by simpa using hlm
      rw[if_neg hlm] at hE;have hE:=af hE;clear HE1 HE2;go_wp2;go_ret;exact⟨by rw[hE.out];rfl,hB2⟩
    ·have hz:(v==0)=false:=by simpa using hv
     have HR:=af (show R=false by rw[hR];simp[hv]);clear hR hv qT;go_wp2_with fail
     refine(qC.out _ (bQ)).mono ?_;rintro e w1 ⟨rfl,hb1⟩;obtain⟨d0,d1,d2,d3,d4,_,hB1⟩:=HC.out w1 hb1;clear qC c0 c1 c2 c3 c4;clear HE2 qL qM;go_wp2;go_ret;exact⟨by rw[HE1.out HR.out];rfl,hB1⟩
   ·have hd:decide (t<=u)=false:=by simpa using htu
    have HR:=af (show R=false by rw[hR];simp[htu]);clear hR htu qT;go_wp2_with fail
    refine(qC.out _ (bQ)).mono ?_;rintro e w1 ⟨rfl,hb1⟩;obtain⟨d0,d1,d2,d3,d4,_,hB1⟩:=HC.out w1 hb1;clear qC c0 c1 c2 c3 c4;clear HE2 qL qM;go_wp2;go_ret;exact⟨by rw[HE1.out HR.out];rfl,hB1⟩
  ·have hz:(ce==0)=false:=by simpa using hce
   have HR:=af (show R=false by rw[hR];simp[hce]);clear hR hce qT;go_wp2_with fail
   refine(qC.out _ (bQ)).mono ?_;rintro e w1 ⟨rfl,hb1⟩;obtain⟨d0,d1,d2,d3,d4,_,hB1⟩:=HC.out w1 hb1;clear qC c0 c1 c2 c3 c4;clear HE2 qL qM;go_wp2;go_ret;exact⟨by rw[HE1.out HR.out];rfl,hB1⟩
 rw[if_neg k1] at hR
 have hk1:(k==1)=false:=by simpa using k1
 clear k1
 by_cases k2:k=2
 ·subst k2;rw[if_pos rfl] at hR;generalize L.length=n at*;by_cases hl0:n=0
  ·subst hl0;cases tb with
   |false=>
    have HR:=af (show R=false by rw[hR];simp);clear hR qC;go_wp2_with fail
    refine(qT.out _).mono ?_;rintro e _ ⟨rfl,rfl⟩;clear HE2 qL qM;go_wp2;go_ret;exact⟨by rw[HE1.out HR.out];rfl,hB⟩
   |true=>
    by_cases hu:u=0
    ·subst hu;by_cases hv:v=0
     ·subst hv;have HR:=af (show R=true by rw[hR];simp);clear hR;go_wp2_with fail
      refine(qT.out _).mono ?_;rintro e _ ⟨rfl,rfl⟩;have hE:=HE2.out HR.out;go_wp2_with fail
      refine(qL.out _ (bQ)).mono ?_;rintro e w2 ⟨rfl,hb2⟩;obtain⟨_,_,_,_,_,_,hB2⟩:=HC.out w2 hb2;clear HC;go_wp2_with fail
      refine(qM.out _).mono ?_;rintro e _ ⟨rfl,rfl⟩;by_cases hlm:lm<(lo:Int)
      ·have hd:decide (lm<(lo:Int))=true:=by simpa using hlm
       rw[if_pos hlm] at hE;have hE:=af hE;clear HE1 HE2;go_wp2;go_ret;exact⟨by rw[hE.out];rfl,hB2⟩
      ·have hd:decide (lm<(lo:Int))=false:=by simpa using hlm
       rw[if_neg hlm] at hE;have hE:=af hE;clear HE1 HE2;go_wp2;go_ret;exact⟨by rw[hE.out];rfl,hB2⟩
     ·have hz:(v==0)=false:=by simpa using hv
      have HR:=af (show R=false by rw[hR];simp[hv]);clear hR hv qC;go_wp2_with fail
      refine(qT.out _).mono ?_;rintro e _ ⟨rfl,rfl⟩;clear HE2 qL qM;go_wp2;go_ret;exact⟨by rw[HE1.out HR.out];rfl,hB⟩
    ·have hz:(u==0)=false:=by simpa using hu
     have HR:=af (show R=false by rw[hR];simp[hu]);clear hR hu qC;go_wp2_with fail
     refine(qT.out _).mono ?_;rintro e _ ⟨rfl,rfl⟩;clear HE2 qL qM;go_wp2;go_ret;exact⟨by rw[HE1.out HR.out];rfl,hB⟩
  ·have hz:(n==0)=false:=by simpa using hl0
   have HR:=af (show R=false by rw[hR];simp[hl0]);clear hR qT qC;have hz':((n:Int)==0)=false:=by simp;omega
   clear hl0;clear HE2 qL qM;go_wp2;go_ret;exact⟨by rw[HE1.out HR.out];rfl,hB⟩
 rw[if_neg k2] at hR
 have hk2:(k==2)=false:=by simpa using k2
 clear k2
 have HR:=af hR
 clear hR qT qC
 clear HE2 qL qM
 go_wp2
 go_ret
 exact⟨by rw[HE1.out HR.out];rfl,hB⟩
theorem dQ{P:Program}{fn:Func}{t p u:Tmp}{ty:TypeId}(h:fn.results=#[.tmp t,.cell p ty,.tmp u])(tmps:Array Value)(w:World)(g:Nat)(tb:TypeId)(cs:Array Value)(d:TypeDesc)
 (hp:tmps.getD p undef=.pointer (some ⟨g,0,none⟩)) (hg:ag w g tb cs)
 (hu:P.underlying ty=some d) (hd:(match d with|.struct _|.array _ _=>true|_=>false)=true) (hi:(P.info? ty).map (·.size)=some cs.size):
 (results fn tmps).run P w=.ok (.tuple #[tmps.getD t undef,.agg cs,tmps.getD u undef]) w:=by
 have hp':tmps[p]?.getD undef=.pointer (some ⟨g,0,none⟩):=by simpa using hp
 simp[results,h,hp',asAddr,run_loadVar_row w g tb ty cs (0,0) d hg hu hd hi]
def cv:List UInt8:=[65,87,65,76]
def ep(g:Int)(kv:Value):Value:=.agg #[.int .i64 g,kv]
def xO(g:Int):Value:=if gh g then .tuple #[.string (bs (eU cv g.toNat 0)),ep g (.slice none 0 0),.int .i64 0] else .tuple #[.string ⟨#[]⟩,ep 0 (.slice none 0 0),.int .i64 1]
theorem FB(g:Int)(w:World):Calls Tryz.prog 138 #[.int .i64 g] w fun e w'=>e=.returned (xO g)/\Below w.heap.size w w':=by
 have qk:=af (fun W=>vB g W);have hb0:=ai w (.cells #[.int .i64 0,.slice none 0 0] 78);have hk0:ag (w.alloc (.cells #[.int .i64 0,.slice none 0 0] 78)) w.heap.size 78 #[.int .i64 0,.slice none 0 0]:=ag.new _ _ _;have HV:=af (show xO g=if gh g then .tuple #[.string (bs (eU cv g.toNat 0)),ep g (.slice none 0 0),.int .i64 0] else .tuple #[.string ⟨#[]⟩,ep 0 (.slice none 0 0),.int .i64 1] from rfl);have HG:gh g=true->∃n:Nat,g=n/\n<256/\g.toNat=n:=fun h=>by
  unfold gh at h;simp only[Bool.and_eq_true,decide_eq_true_eq] at h;exact⟨g.toNat,by omega,by omega,rfl⟩
 generalize xO g=V at*;go_enter Tryz.func138,Tryz.ntmps138
 go_wp2_with fail
 refine(qk.out _).mono ?_;rintro e _ ⟨rfl,rfl⟩;generalize hW0:w.alloc (.cells #[.int .i64 0,.slice none 0 0] 78)=W0 at*;cases hkb:gh g with
 |false=>
  have hV:=HV.out;rw[if_neg (by simp[hkb])] at hV;have HV:=af hV;clear hV HG;have h1:=ag.set_ (ag.set_ hk0 0 (.int .i64 0)) 1 (.slice none 0 0);have f0:=ag.frozen hk0 0;have f1:=ag.frozen hk0 1;have c0:W0.cell? ⟨w.heap.size,0,none⟩=some (.int .i64 0):=(ag.cell hk0 0).trans rfl;have c1:W0.cell? ⟨w.heap.size,1,none⟩=some (.slice none 0 0):=(ag.cell hk0 1).trans rfl;go_wp2_with fail
  (try simp only[Exit.inBlock,Exit.then]);refine bodyPost_ret (dQ rfl _ _ w.heap.size 78 #[.int .i64 0,.slice none 0 0] _ rfl h1 Tryz.underlying78 rfl (by kernel_rfl)) rfl ?_;refine⟨by rw[HV.out];rfl,?_⟩;exact(hb0.setCell (p:=⟨w.heap.size,0,none⟩) (aF _) _).setCell (p:=⟨w.heap.size,1,none⟩) (aF _) _
 |true=>
  obtain⟨n,rfl,hn,hn2⟩:=HG hkb;have hV:=HV.out;rw[if_pos hkb,hn2] at hV;have HV:=af hV;clear hV HG hkb qk;have q:=af (Ao cv n 0 hn (by decide) (by decide) W0);have hm:(⟨#[65,87,65,76]⟩:ByteArray)=bs cv:=rfl;go_wp2_with fail
  refine bP q.out fun w1 hb1=>?_;have hk1:=ag.below hk0 hb1 hk0.lt;have h1:=ag.set_ (ag.set_ hk1 0 (.int .i64 (n:Int))) 1 (.slice none 0 0);have f0:=ag.frozen hk1 0;have f1:=ag.frozen hk1 1;have c0:w1.cell? ⟨w.heap.size,0,none⟩=some (.int .i64 0):=(ag.cell hk1 0).trans rfl;have c1:w1.cell? ⟨w.heap.size,1,none⟩=some (.slice none 0 0):=(ag.cell hk1 1).trans rfl;have hb2:=ay hb0 hb1;go_wp2_with fail
  (try simp only[Exit.inBlock,Exit.then]);refine bodyPost_ret (dQ rfl _ _ w.heap.size 78 #[.int .i64 (n:Int),.slice none 0 0] _ rfl h1 Tryz.underlying78 rfl (by kernel_rfl)) rfl ?_;refine⟨by rw[HV.out];rfl,?_⟩;exact(hb2.setCell (p:=⟨w.heap.size,0,none⟩) (aF _) _).setCell (p:=⟨w.heap.size,1,none⟩) (aF _) _
def aS (t:Int):Nat:=(t%18446744073709551616).toNat
theorem dI(t:Int):IntKind.u64.wrap t=(aS t:Int):=by
 simp only[IntKind.wrap,IntKind.bits,IntKind.signed,aS];simp;omega
theorem gz(t:Int):aS t<18446744073709551616:=by unfold aS;omega
def jI(x:Rc):List UInt8:=[UInt8.ofNat x.kind.toNat]++Num.wide (aS x.t)++Num.wide (aS x.u)++Num.wide x.v++[UInt8.ofNat x.labels.length]
def dG (L:List Lb):List Lb:=L++List.replicate (6-L.length) ([],[])
def lK(x:Lb):List UInt8:=Num.fixed x.1 12++Num.fixed x.2 12
def rP(x:Rc):List UInt8:=jI x++(dG x.labels).flatMap lK
def oJ (x:Rc):List UInt8:=rP x++dp (rP x)
theorem dP{P:Program}(w:World)(dT sT ty elem:TypeId)(g o dLen dCap:Nat)(a:Addr)(sLen sCap:Nat)(cur:Array Value)(t:TypeId)(cs:List Value)(sz n:Nat)
 (hu:P.underlying dT=some (.slice elem)) (hs:(P.info? elem).map (·.size)=some sz)
 (hg:w.heap[g]?=some (.cells cur t (0,0))) (hn:n=Nat.min sLen dLen) (hc:cs.length=n*sz)
 (hsrc:∀j v,cs[j]?=some v->w.cell? (a.add j)=some v) (hfit:o+cs.length<=cur.size) (h1:∀v∈cs,v.oneCell'=true):
 (Builtin.copy_ #[dT,sT] ty #[.slice (some ⟨g,o,none⟩) dLen dCap,.slice (some a) sLen sCap]).run P w=
  .ok (goInt n) (w.setRow g (cur.toList.take o++cs++cur.toList.drop (o+cs.length)).toArray):=by
 have hl:=run_loadCells_list (P:=P) w a cs hsrc
 have hst:=run_storeCells_at P g o t cs 0 cur w hg (by simpa using hfit) h1
 rw[hc] at hl
 cases hq:P.info? elem with
 |none=>simp[hq] at hs
 |some i=>
  have hi:i.size=sz:=by simpa[hq] using hs
  simp[Builtin.copy_,run_underlying hu,Builtin.lenOf,Builtin.firstCells,sizeOf,typeInfo,hq,hi,<-hn,hl,hst,hc]
theorem mb{P:Program}(w:World)(dT sT ty elem:TypeId)(a:Addr)(dLen dCap sCap:Nat)(hu:P.underlying dT=some (.slice elem))(hs:((P.info? elem).map (·.size)).isSome=true):
 (Builtin.copy_ #[dT,sT] ty #[.slice (some a) dLen dCap,.slice none 0 sCap]).run P w=.ok (goInt 0) w:=by
 cases hq:P.info? elem with
 |none=>simp[hq] at hs
 |some i=>simp[Builtin.copy_,run_underlying hu,Builtin.lenOf,Builtin.firstCells,sizeOf,typeInfo,hq,storeCells]
theorem dZ{P:Program}(w:World){Q:Exit->Act->World->Prop}{ops:Array Oper}{rest:List Oper}{o:Oper}{a:Act}(hgd:o.guard=none)(d s:Operand)(t t':TypeId)
 (ho:o.op=.call {callee:=.builtin .copy,args:=#[d,s],argTypes:=#[t,t']}) (v u:Value) (hd:a.eval d=v) (hs:a.eval s=u) {v':Value} {w':World}
 (hr:(Builtin.copy_ #[t,t'] o.type #[v,u]).run P w=.ok v' w') (h:wpList P ops Q rest (a.put o.dst v') w'):wpList P ops Q (o::rest) a w:=
 wpList_plain hgd fun K hK=>by
  unfold Oper.wp execOp;simp only[ho,resolve,invoke,builtin,Sem.run_bind,Sem.run_pure,Result.andThen_ok,List.map_toArray,List.map_cons,List.map_nil,hd,hs,hr];exact hK _ _ h
theorem mi(L:List Lb)(h:L.length<=6):(dG L).length=6:=by unfold dG;simp;omega
theorem js(L M:List Lb):aQ (L++M)=aQ L++aQ M:=by unfold aQ;rw[List.flatMap_append]
theorem oT(n:Nat):aQ (List.replicate n ([],[]))=List.replicate (n*2) (.string ⟨#[]⟩):=by
 induction n with
 |zero=>rfl
 |succ n ih=>
  rw[List.replicate_succ,show (n+1)*2=n*2+1+1 by omega,List.replicate_succ,List.replicate_succ,<-ih];rfl
theorem qR{w:World}{b o c:Nat}{L:List Lb}(h:aC w (.slice (some ⟨b,o,none⟩) L.length c) L):∀j v,(aQ L)[j]?=some v->w.cell? ((⟨b,o,none⟩:Addr).add j)=some v:=fun j v hj=>by
 obtain⟨a,c',he,_,hc⟩:=h;cases he;have hlt:j<L.length*2:=by
  have:=(List.getElem?_eq_some_iff.1 hj).1;rwa[ek] at this
 have hi:j/2<L.length:=by omega
 obtain⟨_,_,b',o',e,h1,h2⟩:=hc (j/2) _ (aW hi);cases e;obtain⟨g1,g2⟩:=nN L (j/2) _ (aW hi);have hadd:(⟨b,o,none⟩:Addr).add j=⟨b,o+j,none⟩:=by unfold Addr.add;split<;>simp_all
 rw[hadd];rcases(show j=j/2*2\/j=j/2*2+1 by omega) with e|e
 ·rw[e,g1] at hj;rw[e,h1,hj]
 ·rw[e,g2] at hj;rw[e,<-Nat.add_assoc,h2,hj]
theorem zS{w:World}{g:Nat}{sa:Option Addr}{c:Nat}{L:List Lb}(hB:ag w g 139 (List.replicate 12 (.string ⟨#[]⟩)).toArray)(hL:aC w (.slice sa L.length c) L)(h6:L.length<=6):
 ∃n w',(Builtin.copy_ #[65,65] 3 #[.slice (some ⟨g,0,none⟩) 6 6,.slice sa L.length c]).run Tryz.prog w=.ok (goInt n) w'/\ag w' g 139 (aQ (dG L)).toArray/\∀B w0,Below B w0 w->B<=g->Below B w0 w':=by
 have hp:aQ (dG L)=aQ L++List.replicate (12-L.length*2) (.string ⟨#[]⟩):=by
  unfold dG;rw[js,oT];congr 2;omega
 cases sa with
 |none=>
  have h0:L=[]:=by
   obtain⟨a,c',he,_,hc⟩:=hL;cases he;cases L with
   |nil=>rfl
   |cons x l=>
    obtain⟨_,_,_,_,e,_⟩:=hc 0 x rfl;cases e
  subst h0;refine⟨0,w,mb w _ _ _ 73 _ 6 6 c Tryz.underlying65 (by kernel_rfl),?_,fun _ _ h _=>h⟩;exact hB
 |some a=>
  have hm:Nat.min L.length 6=L.length:=Nat.min_eq_left h6;by_cases h0:L=[]
  ·subst h0;refine⟨0,_,dP w _ _ _ 73 g 0 6 6 a 0 c _ _ [] 2 0 Tryz.underlying65 (by kernel_rfl) hB rfl rfl (fun j v h=>by simp at h) (by simp) (by simp),?_,fun B w0 h hg=>below_setRow h hg _⟩;have:=setRow_heap w g _ (List.replicate 12 (Value.string ⟨#[]⟩)).toArray _ _ hB;exact this
  ·obtain⟨b,o,ha⟩:∃b o,a=⟨b,o,none⟩:=by
    obtain⟨a',c',he,_,hc⟩:=hL;cases he;cases L with
    |nil=>exact absurd rfl h0
    |cons x l=>
     obtain⟨_,_,b,o,e,_⟩:=hc 0 x rfl;exact⟨b,o,aA e⟩
   subst ha;refine⟨L.length,_,dP w _ _ _ 73 g 0 6 6 _ L.length c _ _ (aQ L) 2 L.length Tryz.underlying65 (by kernel_rfl) hB hm.symm (ek L) (qR hL) (by rw[ek];simp;omega) (fun v hv=>?_),?_,fun B w0 h hg=>below_setRow h hg _⟩
   ·unfold aQ at hv;obtain⟨x,_,hx⟩:=List.mem_flatMap.1 hv;simp only[List.mem_cons,List.not_mem_nil,or_false] at hx;rcases hx with rfl|rfl<;>rfl
   ·have:=setRow_heap w g (List.replicate 12 (Value.string ⟨#[]⟩)).toArray (aQ (dG L)).toArray _ _ hB;rw[hp] at this⊢;have e:List.take 0 (List.replicate 12 (Value.string ⟨#[]⟩)).toArray.toList++aQ L++List.drop (0+(aQ L).length) (List.replicate 12 (Value.string ⟨#[]⟩)).toArray.toList=aQ L++List.replicate (12-L.length*2) (.string ⟨#[]⟩):=by
     rw[ek,List.toList_toArray,List.take_zero,List.nil_append,Nat.zero_add,List.drop_replicate]
    rw[e];exact this
theorem AR{X:List Lb}(h6:X.length=6){i:Nat}{x:Lb}(hx:X[i]?=some x)(w:World):
 (Instr.index 139 (.agg (aQ X).toArray) (.int .i64 (i:Int))).run Tryz.prog w=.ok (.agg #[.string (bs x.1),.string (bs x.2)]) w:=by
 have hi:i<6:=by
  have:=(List.getElem?_eq_some_iff.1 hx).1;omega
 match X,h6 with
 |[a,b,c,d,e,f],_=>
  rcases(show i=0\/i=1\/i=2\/i=3\/i=4\/i=5 by omega) with rfl|rfl|rfl|rfl|rfl|rfl
  all_goals
   obtain rfl:=aA hx
   rfl
theorem vA(x:Lb):(lK x).length=26:=by
 unfold lK;rw[aG,Num.fixed_len,Num.fixed_len];rfl
theorem Gk{L:List Lb}{x:Lb}(h:x∈dG L):x∈L\/x=([],[]):=by
 unfold dG at h;rcases List.mem_append.1 h with h|h
 ·exact .inl h
 ·exact .inr (List.eq_of_mem_replicate h)
theorem C8(x:Rc)(sl:Value)(w:World)(hx:x.ok)(hL:aC w sl x.labels)(hk:0<=x.kind/\x.kind<256)(h6:x.labels.length<=6):
 Calls Tryz.prog 399 #[.agg #[],rG x sl] w fun e w'=>e=.returned (.string (bs (oJ x)))/\Below w.heap.size w w':=by
 obtain⟨k,L,t,u,v⟩:=x
 obtain⟨x1,x2,x3,x4,x5,x6,x7⟩:=hx
 simp only at x1 x2 x3 x4 x5 x6 x7 hL hk h6
 obtain⟨kn,rfl⟩:∃kn:Nat,k=kn:=⟨k.toNat,by omega⟩
 rw[show rG ⟨kn,L,t,u,v⟩ sl=.agg #[.int .i64 (kn:Int),sl,.int .i64 t,.int .i64 u,.int .u64 (v:Int)] from rfl]
 have hb0:Below w.heap.size w ((w.alloc (.cells #[] 240)).alloc (.cells #[.int .i64 (kn:Int),sl,.int .i64 t,.int .i64 u,.int .u64 (v:Int)] 108)):=((Below.refl _ w).alloc (aF _) _).alloc (by simp) _
 have hk0:ag ((w.alloc (.cells #[] 240)).alloc (.cells #[.int .i64 (kn:Int),sl,.int .i64 t,.int .i64 u,.int .u64 (v:Int)] 108)) (w.heap.size+1) 108 #[.int .i64 (kn:Int),sl,.int .i64 t,.int .i64 u,.int .u64 (v:Int)]:=by
  have:=ag.new (w.alloc (.cells #[] 240)) 108 #[.int .i64 (kn:Int),sl,.int .i64 t,.int .i64 u,.int .u64 (v:Int)];rwa[aY] at this
 generalize hW0:(w.alloc (.cells #[] 240)).alloc (.cells #[.int .i64 (kn:Int),sl,.int .i64 t,.int .i64 u,.int .u64 (v:Int)] 108)=W0 at*
 have hL0:=hL.below hb0
 have HB0:=af hb0
 have c0:W0.cell? ⟨w.heap.size+1,0,none⟩=some (.int .i64 (kn:Int)):=(ag.cell hk0 0).trans rfl
 have c1:W0.cell? ⟨w.heap.size+1,1,none⟩=some sl:=(ag.cell hk0 1).trans rfl
 have c2:W0.cell? ⟨w.heap.size+1,2,none⟩=some (.int .i64 t):=(ag.cell hk0 2).trans rfl
 have c3:W0.cell? ⟨w.heap.size+1,3,none⟩=some (.int .i64 u):=(ag.cell hk0 3).trans rfl
 have c4:W0.cell? ⟨w.heap.size+1,4,none⟩=some (.int .u64 (v:Int)):=(ag.cell hk0 4).trans rfl
 have g0:=aj c0
 have g1:=aj c1
 have g2:=aj c2
 have g3:=aj c3
 have g4:=aj c4
 have w1:=dI t
 have w2:=dI u
 have b1:=gz t
 have b2:=gz u
 have hO:oJ ⟨kn,L,t,u,v⟩=(jI ⟨kn,L,t,u,v⟩++(dG L).flatMap lK)++dp (jI ⟨kn,L,t,u,v⟩++(dG L).flatMap lK):=rfl
 have hH:jI ⟨kn,L,t,u,v⟩=[UInt8.ofNat kn]++Num.wide (aS t)++Num.wide (aS u)++Num.wide v++[UInt8.ofNat L.length]:=rfl
 have hRl:(jI ⟨kn,L,t,u,v⟩).length=26:=by rw[hH];simp[Num.wide_len]
 have q1:=af (fun W=>cH (aS t:Int) W (by omega) (by omega))
 have q2:=af (fun W=>cH (aS u:Int) W (by omega) (by omega))
 have q3:=af (fun W=>cH (v:Int) W (by omega) (by omega))
 rw[show ((aS t:Int).toNat)=aS t from rfl] at q1
 rw[show ((aS u:Int).toNat)=aS u from rfl] at q2
 rw[show ((v:Int).toNat)=v from rfl] at q3
 obtain⟨sa,sc,rfl,_,hLc⟩:=id hL0
 have hku:IntKind.u8.wrap (kn:Int)=kn:=by simp[IntKind.wrap,IntKind.bits,IntKind.signed];omega
 have hlu:IntKind.u8.wrap (L.length:Int)=L.length:=by simp[IntKind.wrap,IntKind.bits,IntKind.signed];omega
 have hkb:(UInt8.ofNat kn).toNat=kn:=Num.ofNat_toNat kn (by omega)
 have hlb:(UInt8.ofNat L.length).toNat=L.length:=Num.ofNat_toNat _ (by omega)
 have l1:=Num.wide_len (aS t)
 have l2:=Num.wide_len (aS u)
 have l3:=Num.wide_len v
 generalize Num.wide (aS t)=y1 at*
 generalize Num.wide (aS u)=y2 at*
 generalize Num.wide v=y3 at*
 have a1:∀W,(Op.stringOp .add (bs [UInt8.ofNat kn]) (bs y1)).run Tryz.prog W=.ok (.string (bs ([UInt8.ofNat kn]++y1))) W:=fun W=>aJ (P:=Tryz.prog) _ _ (by simp;omega) W
 have a2:∀W,(Op.stringOp .add (bs ([UInt8.ofNat kn]++y1)) (bs y2)).run Tryz.prog W=.ok (.string (bs ([UInt8.ofNat kn]++y1++y2))) W:=fun W=>aJ (P:=Tryz.prog) _ _ (by simp;omega) W
 have a3:∀W,(Op.stringOp .add (bs ([UInt8.ofNat kn]++y1++y2)) (bs y3)).run Tryz.prog W=.ok (.string (bs ([UInt8.ofNat kn]++y1++y2++y3))) W:=fun W=>aJ (P:=Tryz.prog) _ _ (by simp;omega) W
 have a4:∀W,(Op.stringOp .add (bs ([UInt8.ofNat kn]++y1++y2++y3)) (bs [UInt8.ofNat L.length])).run Tryz.prog W=.ok (.string (bs (jI ⟨kn,L,t,u,v⟩))) W:=fun W=>by rw[hH];exact aJ (P:=Tryz.prog) _ _ (by simp;omega) W
 clear hH
 generalize jI ⟨kn,L,t,u,v⟩=H at*
 generalize [UInt8.ofNat kn]++y1++y2++y3=z3 at*
 generalize [UInt8.ofNat kn]++y1++y2=z2 at*
 generalize [UInt8.ofNat kn]++y1=z1 at*
 have HO:=af hO
 clear hO
 generalize oJ ⟨kn,L,t,u,v⟩=O at*
 go_enter Tryz.func399,Tryz.ntmps399
 go_wp2_with fail
 refine ed ?_
 iterate 3 (refine bH fun K hK=>?_;go_big_quiet_step (fail);refine hK _ ?_;clear hK K)
 (refine kw (qD [UInt8.ofNat kn]) (by kernel_rfl) (fun _ _ h=>by cases h) (by kernel_rfl) rfl (tt 5 [UInt8.ofNat kn] fun W=>by go_simp) ?_)
 (refine zk (by kernel_rfl) rfl rfl (by kernel_rfl) (by kernel_rfl) (sr 82 9 5 Tryz.underlying82 Tryz.underlying5 Tryz.underlying9 [UInt8.ofNat kn]) (i6 (type:=0) (pos:= "") (fun K hK=>?_));go_big_quiet_step (fail);refine hK _ ?_;clear hK K)
 iterate 3 (refine bH fun K hK=>?_;go_big_quiet_step (fail);refine hK _ ?_;clear hK K)
 (refine fP (f:=33) (args:=#[.int .u64 (aS t:Int)]) (v:=.string (bs y1)) (fun W hW=>q1.out W) fun K hK=>?_;go_big_quiet_step (fail);refine hK _ ?_;clear hK K)
 iterate 4 (refine bH fun K hK=>?_;go_big_quiet_step (fail);refine hK _ ?_;clear hK K)
 (refine fP (f:=33) (args:=#[.int .u64 (aS u:Int)]) (v:=.string (bs y2)) (fun W hW=>q2.out W) fun K hK=>?_;go_big_quiet_step (fail);refine hK _ ?_;clear hK K)
 iterate 3 (refine bH fun K hK=>?_;go_big_quiet_step (fail);refine hK _ ?_;clear hK K)
 (refine fP (f:=33) (args:=#[.int .u64 (v:Int)]) (v:=.string (bs y3)) (fun W hW=>q3.out W) fun K hK=>?_;go_big_quiet_step (fail);refine hK _ ?_;clear hK K)
 iterate 3 (refine bH fun K hK=>?_;go_big_quiet_step (fail);refine hK _ ?_;clear hK K)
 (refine nt (v:=.int .i64 (L.length:Int)) (fun _ _=>by go_simp) fun K hK=>?_;go_big_quiet_step (fail);refine hK _ ?_;clear hK K)
 (refine bH fun K hK=>?_;go_big_quiet_step (fail);refine hK _ ?_;clear hK K)
 (refine kw (qD [UInt8.ofNat L.length]) (by kernel_rfl) (fun _ _ h=>by cases h) (by kernel_rfl) rfl (tt 5 [UInt8.ofNat L.length] fun W=>by go_simp) ?_)
 (refine zk (by kernel_rfl) rfl rfl (by kernel_rfl) (by kernel_rfl) (sr 82 9 5 Tryz.underlying82 Tryz.underlying5 Tryz.underlying9 [UInt8.ofNat L.length]) (i6 (type:=0) (pos:= "") (fun K hK=>?_));go_big_quiet_step (fail);refine hK _ ?_;clear hK K)
 iterate 2 (refine bH fun K hK=>?_;go_big_quiet_step (fail);refine hK _ ?_;clear hK K)
 refine eF ?_
 intro W1 hb1
 simp only[az]
 intro y hy z hz
 clear hy hz
 simp only[Act.put,List.setIfInBounds_toArray,List.set_cons_succ,List.set_cons_zero]
 have hk1:=ag.below hk0 hb1 hk0.lt
 have hL1:=hL0.below hb1
 have HB1:=af (HB0.out.trans (hb1.mono HB0.out.size))
 have e1:W1.cell? ⟨w.heap.size+1,1,none⟩=some (.slice sa L.length sc):=(ag.cell hk1 1).trans rfl
 clear g0 g1 g2 g3 g4 c0 c1 c2 c3 c4 q1 q2 q3 a1 a2 a3 a4 hb1 hb0 hk0 hL hL0 HB0 hW0
 go_wp2_with fail
 have hB2:ag (W1.alloc (.cells (List.replicate 12 (.string ⟨#[]⟩)).toArray 139)) W1.heap.size 139 (List.replicate 12 (.string ⟨#[]⟩)).toArray:=ag.new _ _ _
 have hb2:=HB1.out.alloc HB1.out.size (.cells (List.replicate 12 (.string ⟨#[]⟩)).toArray 139)
 have e2:(W1.alloc (.cells (List.replicate 12 (.string ⟨#[]⟩)).toArray 139)).cell? ⟨w.heap.size+1,1,none⟩=some (.slice sa L.length sc):=(Below.cell (ai W1 _) (World.block_lt_of_cell? _ _ e1)).trans e1
 have hL2:=hL1.below (ai W1 (.cells (List.replicate 12 (.string ⟨#[]⟩)).toArray 139))
 have hG:w.heap.size<=W1.heap.size:=HB1.out.size
 simp only[List.replicate_succ,List.replicate_zero] at hB2 hb2 e2 hL2
 have g1:=aj e2
 clear HB1 hL1 e1 hk1
 generalize W1.heap.size=G at*
 refine kN ?_
 (refine nt (v:=.slice (some ⟨G,0,none⟩) 6 6) (fun _ _=>by go_simp) fun K hK=>?_;go_big_quiet_step (fail);refine hK _ ?_;clear hK K)
 iterate 2 (refine bH fun K hK=>?_;go_big_quiet_step (fail);refine hK _ ?_;clear hK K)
 refine eF ?_
 intro W3 hb3
 simp only[az]
 obtain⟨n,W4,hcp,hB4,hbel⟩:=zS (ag.below hB2 hb3 hB2.lt) (hL2.below hb3) h6
 have hb4:=hbel _ _ (ay hb2 hb3) hG
 clear hbel hB2 hb2 e2 hL2 g1 hb3
 refine dZ _ rfl _ _ _ _ rfl _ _ rfl rfl hcp ?_
 clear hcp
 have hP6:=mi L h6
 have hPl:∀x∈dG L,x.1.length<=1048576/\x.2.length<=1048576:=fun x hx=>by
  rcases Gk hx with h|h
  ·obtain⟨i,hi⟩:=List.getElem?_of_mem h;have:=hLc i x hi;exact⟨this.1,this.2.1⟩
  ·subst h;simp
 clear hLc
 generalize dG L=X at*
 go_wp2_with (refine wpList_load_row rfl _ _ rfl G rfl 139 _ (0,0) _ hB4 Tryz.underlying139 rfl (by rw[List.size_toArray,ek,hP6];kernel_rfl) ?_)
 go_loopw [5,40] (fun vs vi wr=>∃(i:Nat) (s:List UInt8),i<=6/\vi=.int .i64 (i:Int)/\vs=.string (bs s)/\s=H++(X.take i).flatMap lK/\s.length=26+i*26/\Below w.heap.size w wr) (fun vs vi _=>6-(intOf vi).toNat)
 case atStart=>exact⟨0,H,Nat.zero_le _,rfl,rfl,by simp,by omega,hb4⟩
 clear hb4 hB4
 obtain⟨i,s,hi,rfl,rfl,hs,hsl,hb⟩:=hrel
 rcases(show i<6\/i=6 by omega) with hil|rfl
 ·have hix:X[i]?=some X[i]:=aW (by omega);have hS:=af (show s++lK X[i]=H++(X.take (i+1)).flatMap lK by
   rw[eN (by omega),List.flatMap_append,hs];simp)
  have hd:decide ((i:Int)<6)=true:=by simp;omega
  have hpl:=hPl X[i] (dM _);generalize X[i]=x at*;have hrun:=fun W=>AR hP6 hix W;have hfl:=vA x;have hF:lK x=Num.fixed x.1 12++Num.fixed x.2 12:=rfl;have q1:=af (fun W=>iE x.1 12 W (by omega) (by omega) (by omega));have q2:=af (fun W=>iE x.2 12 W (by omega) (by omega) (by omega));have f1:(Num.fixed x.1 12).length=13:=Num.fixed_len _ _;have f2:(Num.fixed x.2 12).length=13:=Num.fixed_len _ _;generalize Num.fixed x.1 12=y1 at*;generalize Num.fixed x.2 12=y2 at*;have a1:∀W,(Op.stringOp .add (bs y1) (bs y2)).run Tryz.prog W=.ok (.string (bs (lK x))) W:=fun W=>by rw[hF];exact aJ (P:=Tryz.prog) _ _ (by omega) W
  clear hF;generalize lK x=y at*;have a2:∀W,(Op.stringOp .add (bs s) (bs y)).run Tryz.prog W=.ok (.string (bs (s++y))) W:=fun W=>aJ (P:=Tryz.prog) _ _ (by omega) W;have hsl2:(s++y).length=26+(i+1)*26:=by rw[aG];omega
  clear hs hix hpl hPl;generalize hs2:s++y=s2 at*;have k0:ag (wr.alloc (.cells #[.string (bs x.1),.string (bs x.2)] 73)) wr.heap.size 73 #[.string (bs x.1),.string (bs x.2)]:=ag.new _ _ _;have b0:=hb.alloc hb.size (.cells #[.string (bs x.1),.string (bs x.2)] 73);have g0:=aj ((ag.cell k0 0).trans rfl:_=some (.string (bs x.1)));have g1:=aj ((ag.cell k0 1).trans rfl:_=some (.string (bs x.2)));have HB:=af b0;clear k0 b0;go_wp2_with fail
  refine ed ?_;iterate 3 (refine bH fun K hK=>?_;go_big_quiet_step (fail);refine hK _ ?_;clear hK K)
  (refine fP (f:=177) (args:=#[.string (bs x.1),.int .i64 12]) (v:=.string (bs y1)) (fun W hW=>q1.out W) fun K hK=>?_;go_big_quiet_step (fail);refine hK _ ?_;clear hK K);iterate 2 (refine bH fun K hK=>?_;go_big_quiet_step (fail);refine hK _ ?_;clear hK K)
  (refine fP (f:=177) (args:=#[.string (bs x.2),.int .i64 12]) (v:=.string (bs y2)) (fun W hW=>q2.out W) fun K hK=>?_;go_big_quiet_step (fail);refine hK _ ?_;clear hK K);iterate 3 (refine bH fun K hK=>?_;go_big_quiet_step (fail);refine hK _ ?_;clear hK K)
  refine eF ?_;intro w5 hb5;simp only[az];clear g0 g1 q1 q2;go_wp2_with fail
  go_roundw
  case rel=>exact⟨i+1,s2,by omega,by go_num,rfl,by rw[<-hS.out],by omega,HB.out.trans (hb5.mono HB.out.size)⟩
  case measure=>simp[intOf];omega
 ·rw[List.take_of_length_le (by omega)] at hs;have hsl2:s.length=182:=by omega
  rw[<-hs] at HO;clear hs hsl;have q:=af (fun W=>mG s (by omega) W);have htl:=dS s;have hadd:∀W,(Op.stringOp .add (bs s) (bs (dp s))).run Tryz.prog W=.ok (.string (bs O)) W:=fun W=>by rw[HO.out];exact aJ (P:=Tryz.prog) s (dp s) (by omega) W
  generalize dp s=ts at*;go_wp2_with fail
  refine(q.out _).mono ?_;rintro e w5 ⟨rfl,hb5⟩;go_wp2_with fail
  go_ret;exact⟨rfl,ay hb hb5⟩
def rs(w:World)(b o:Nat)(x:Rc):Prop:=x.ok/\∃sl,w.cell? ⟨b,o,none⟩=some (.int .i64 x.kind)/\w.cell? ⟨b,o+1,none⟩=some sl/\aC w sl x.labels/\w.cell? ⟨b,o+2,none⟩=some (.int .i64 x.t)/\w.cell? ⟨b,o+3,none⟩=some (.int .i64 x.u)/\w.cell? ⟨b,o+4,none⟩=some (.int .u64 (x.v:Int))
def dz(w:World)(v:Value)(R:List Rc):Prop:=
 ∃a c,v=.slice a R.length c/\R.length<=1048576/\∀(i:Nat) x,R[i]?=some x->∃b o,a=some ⟨b,o,none⟩/\rs w b (o+i*5) x
theorem rs.below{w w':World}{b o:Nat}{x:Rc}(h:rs w b o x)(hb:Below w.heap.size w w'):rs w' b o x:=by
 obtain⟨h0,sl,h1,h2,h3,h4,h5,h6⟩:=h;have f:∀{p:Addr} {v:Value},w.cell? p=some v->w'.cell? p=some v:=fun h=>cu hb h;exact⟨h0,sl,f h1,f h2,h3.below hb,f h4,f h5,f h6⟩
theorem dz.below{w w':World}{v:Value}{R:List Rc}(h:dz w v R)(hb:Below w.heap.size w w'):dz w' v R:=by
 obtain⟨a,c,h1,h2,h3⟩:=h;refine⟨a,c,h1,h2,fun i x hx=>?_⟩;obtain⟨b,o,h4,h5⟩:=h3 i x hx;exact⟨b,o,h4,h5.below hb⟩
def Dm(x:Rc):Prop:=(0<=x.kind/\x.kind<256)/\x.labels.length<=6
theorem yW(x:Rc)(h:x.labels.length<=6):(oJ x).length=186:=by
 have hb:(rP x).length=182:=by
  unfold rP jI;have:∀l:List Lb,(l.flatMap lK).length=l.length*26:=fun l=>by
   induction l with
   |nil=>rfl
   |cons y l ih=>rw[List.flatMap_cons,aG,vA,ih,de];omega
  rw[aG,this,mi _ h];simp[Num.wide_len]
 unfold oJ;rw[aG,hb,dS]
def nW(R:List Rc):List UInt8:=R.flatMap oJ
theorem uP(R:List Rc)(v:Value)(w:World)(h:dz w v R)(hR:∀x∈R,Dm x):
 Calls Tryz.prog 400 #[.agg #[],v] w fun e w'=>e=.returned (.tuple #[.string (bs (nW R)),.bool true])/\Below w.heap.size w w':=by
 obtain⟨a,c,rfl,hn,hc⟩:=h
 have HC:=af hc
 clear hc
 go_enter Tryz.func400,Tryz.ntmps400
 go_wp2
 have kf:ag (w.alloc (.cells #[] 240)) w.heap.size 240 #[]:=ag.new _ _ _
 have hb0:=ai w (.cells #[] 240)
 go_loopw [6,11] (fun vs vi wr=>∃(i:Nat) (s:List UInt8),i<=R.length/\vi=.int .i64 (i:Int)/\vs=.string (bs s)/\s=nW (R.take i)/\s.length=i*186/\ag wr w.heap.size 240 #[]/\Below w.heap.size w wr) (fun vs vi _=>R.length-(intOf vi).toNat)
 case atStart=>exact⟨0,[],Nat.zero_le _,rfl,rfl,rfl,rfl,kf,hb0⟩
 clear kf hb0
 obtain⟨i,s,hi,rfl,rfl,hs,hsl,hk,hb⟩:=hrel
 rcases(show i<R.length\/i=R.length by omega) with hil|rfl
 ·have hix:R[i]?=some R[i]:=aW hil;have hS:=af (show s++oJ R[i]=nW (R.take (i+1)) by
   unfold nW at*
   rw[eN hil,List.flatMap_append,hs];simp)
  have hfit:=hR R[i] (dM _);obtain⟨b,o,rfl,hA⟩:=HC.out i _ hix;have hA:=hA.below (hb.mono (aF _));generalize R[i]=x at*;obtain⟨hok,sl,e0,e1,hL,e2,e3,e4⟩:=hA;have q:=af (fun (W:World) (hW:Below wr.heap.size wr W)=>C8 x sl W hok (hL.below hW) hfit.1 hfit.2);have hol:=yW x hfit.2;have a1:∀W,(Op.stringOp .add (bs s) (bs (oJ x))).run Tryz.prog W=.ok (.string (bs (s++oJ x))) W:=fun W=>aJ (P:=Tryz.prog) _ _ (by omega) W;have hsl2:(s++oJ x).length=(i+1)*186:=by rw[aG];omega
  generalize oJ x=y at*;obtain⟨va,vc,rfl,_⟩:=hL;clear hs hix hfit;generalize s++y=s2 at*;rw[show rG x (.slice va x.labels.length vc)=.agg #[.int .i64 x.kind,.slice va x.labels.length vc,.int .i64 x.t,.int .i64 x.u,.int .u64 (x.v:Int)] from rfl] at q;go_wp2_with fail
  refine(q.out _ (ai wr _)).mono ?_;rintro e w1 ⟨rfl,hb1⟩;have hb2:=(ai wr (.cells #[.int .i64 x.kind,.slice va x.labels.length vc,.int .i64 x.t,.int .i64 x.u,.int .u64 (x.v:Int)] 108)).trans (hb1.mono (by simp));have hk2:=ag.below hk hb2 hk.lt;clear q hb1;go_wp2_with fail
  go_roundw
  case rel=>exact⟨i+1,s2,by omega,by go_num,rfl,hS.out,hsl2,hk2,ay hb hb2⟩
  case measure=>simp[intOf];omega
 ·rw[List.take_length] at hs;subst hs;go_wp2_with fail
  go_ret2;exact⟨rfl,hb⟩
end
section
open Go.RowKit Go.Maps Go.WideMaps
attribute [local go_sem] am aq
def jt (v:Value):Option (DataW Unit×List MemPlace):=
 match v with
 |.int .i64 n=>some (.lit (.int .i64 n),[])
 |_=>none
theorem zy{v:Value}{n:Int}{ps:List MemPlace}(h:jt v=some (.lit (.int .i64 n),ps)):v=.int .i64 n:=by
 unfold jt at h;split at h
 ·simp only[Option.some.injEq,Prod.mk.injEq,DataW.lit.injEq,Lit.int.injEq] at h;rw[h.1.2]
 ·cases h
def j9(D:DataW Unit)(K:List (List UInt8)):Prop:=∀l:List UInt8,Maps.has D (.string l)=decide (l∈K)/\(l∈K->∀z,D.atKey (.string l) z=.lit (.int .i64 (K.idxOf l:Nat)))
theorem BC{D:DataW Unit}{K:List (List UInt8)}{l:List UInt8}(h:j9 D K)(hl:l∈K):j9 D (K++[l]):=fun x=>by
 obtain⟨h1,h2⟩:=h x;have hm:x∈K++[l]↔x∈K:=by
  simp only[List.mem_append,List.mem_cons,List.not_mem_nil,or_false];exact⟨fun e=>e.elim id fun e=>e▸hl,.inl⟩
 refine⟨by rw[h1];exact decide_eq_decide.2 hm.symm,fun hx z=>?_⟩;rw[h2 (hm.1 hx) z,List.idxOf_append,if_pos (hm.1 hx)]
theorem nP{D:DataW Unit}{K:List (List UInt8)}{l:List UInt8}(hD:IsMap D)(h:j9 D K)(hl:l∉K):j9 (D.put (.string l) (.lit (.int .i64 (K.length:Nat)))) (K++[l]):=fun x=>by
 obtain⟨h1,h2⟩:=h x;by_cases e:x=l
 ·subst e;refine⟨by rw[has_put_same hD (by trivial)];simp,fun _ z=>?_⟩;rw[atKey_put_same hD (by trivial),List.idxOf_append,if_neg hl];simp
 ·have hne:(Lit.string x)≠Lit.string l:=fun h=>e (Lit.string.inj h);have hm:x∈K++[l]↔x∈K:=by simp[e]
  refine⟨by rw[has_put_other hne,h1];exact decide_eq_decide.2 hm.symm,fun hx z=>?_⟩;rw[atKey_put_other hne,h2 (hm.1 hx) z,List.idxOf_append,if_pos (hm.1 hx)]
def sE (K:List (List UInt8)):List Value:=K.map fun k=>.string (bs k)
structure a8(w:World)(B n:Nat)(K:List (List UInt8))(kv:Value)(m:Nat)(D:DataW Unit):Prop where
 blk:ag w n 173 #[kv,.map (some m)]
 row:w.ownsRow B 9 1 kv K.length (sE K)
 map:w.ownsMap Tryz.prog 9 jt m K.length D
 dict:j9 D K
 lo:B<=n/\B<=m
def NF (n m:Nat)(kv:Value):Nat->Prop:=fun k=>k=n\/k=m\/kv.ownBlock=some k
section
variable {w w':World} {B n m:Nat} {K:List (List UInt8)} {kv:Value} {D:DataW Unit}
theorem a8.kept{S:Nat->Prop}(h:a8 w B n K kv m D)(hk:ak w w' S)(hS:∀k,NF n m kv k->¬S k):a8 w' B n K kv m D:=
 ⟨h.blk.keptK hk (hS n (.inl rfl)),aw h.row hk (fun k e=>hS k (.inr (.inr e))),eM h.map hk (hS m (.inr (.inl rfl))),h.dict,h.lo⟩
theorem a8.below(h:a8 w B n K kv m D)(hb:Below w.heap.size w w'):a8 w' B n K kv m D:=h.kept (ak.of_below (S:=fun _=>False) hb) fun _ _ e=>e
theorem a8.form(h:a8 w B n K kv m D):∃a c,kv=.slice a K.length c:=by
 rcases h.row.2 with⟨e,e0⟩|⟨g,cap,cur,e,_⟩
 ·exact⟨none,0,by rw[e,e0]⟩
 ·exact⟨_,_,e⟩
theorem a8.ne_nm(h:a8 w B n K kv m D):n≠m:=fun e=>by
 have h1:=aN h.blk;rw[e,jG h.map] at h1;simp at h1
theorem a8.ne_mk(h:a8 w B n K kv m D):kv.ownBlock≠some m:=fun e=>by
 have h1:=jG h.map;rw[aX h.row e] at h1;simp at h1
theorem DM(K:List (List UInt8))(l:List UInt8):sE (K++[l])=sE K++[.string (bs l)]:=by unfold sE;simp
theorem tq{w5:World}{kv':Value}{D':DataW Unit}{l:List UInt8}{o:Obj}(hblk:ag w n 173 #[kv,.map (some m)])(hrow:w.ownsRow B 9 1 kv K.length (sE K))(hD:w.ownsMap Tryz.prog 9 jt m (K++[l]).length D')(hd:j9 D' (K++[l]))(hlo:B<=n/\B<=m)
 (hown:w5.ownsRow B 9 1 kv' (K.length+1) (sE K++[.string (bs l)])) (hg:(w.alloc o).grownBy w5 kv.ownBlock) (hloc:kv'.ownBlock=kv.ownBlock\/kv'.ownBlock=some (w.alloc o).heap.size):
 ag w5 n 173 #[kv,.map (some m)]/\a8 (w5.setCell ⟨n,0,none⟩ kv') B n (K++[l]) kv' m D'/\dH w (w5.setCell ⟨n,0,none⟩ kv') (NF n m kv) (NF n m kv'):=by
 have n1:n≠m:=fun e=>by
  have h1:=aN hblk;rw[e,jG hD] at h1;simp at h1
 have n2:kv.ownBlock≠some n:=fun e=>by
  have h1:=aN hblk;rw[aX hrow e] at h1;simp at h1
 have n3:kv.ownBlock≠some m:=fun e=>by
  have h1:=jG hD;rw[aX hrow e] at h1;simp at h1
 have hk0:ak w (w.alloc o) (fun _=>False):=ak.alloc w o _
 have hk1:ak w w5 (fun k=>kv.ownBlock=some k):=(hk0.weaken (fun _ e=>e.elim)).trans (ak.of_grown hg fun k e=>e)
 have hb5:=hblk.keptK hk1 n2
 have hk2:ak w (w5.setCell ⟨n,0,none⟩ kv') (NF n m kv):=(hk1.weaken fun k e=>.inr (.inr e)).trans (ak.of_grown (ap w5 n 0 kv') fun k e=>.inl (aA e).symm)
 have hnn:kv'.ownBlock≠some n:=by
  rcases hloc with e|e
  ·rw[e];exact n2
  ·rw[e];intro e2;have:=hblk.lt;have:=aA e2;simp at this;omega
 refine⟨hb5,⟨(ag.set_ hb5 0 kv'),?_,?_,hd,hlo⟩,hk2,fun k hk=>?_⟩
 ·rw[DM,aG];exact aw hown (ak.of_grown (S:=fun k=>k=n) (ap w5 n 0 kv') fun k e=>(aA e).symm) (fun b e e2=>hnn (e2▸e))
 ·exact eM (eM hD hk1 n3) (ak.of_grown (S:=fun k=>k=n) (ap w5 n 0 kv') fun k e=>(aA e).symm) (fun e=>n1 e.symm)
 ·rcases hk with e|e|e
  ·exact .inl (.inl e)
  ·exact .inl (.inr (.inl e))
  ·rcases hloc with e2|e2
   ·exact .inl (.inr (.inr (e2▸e)))
   ·rw[e2] at e;have:=aA e;simp at this;exact .inr (by omega)
theorem aH{e:TypeId}{size c:Nat}{v:Value}{xs:List Value}(h:w.ownsRow B e size v c xs):∃a cap,v=.slice a c cap:=by
 rcases h.2 with⟨e,e0⟩|⟨g,cap,cur,e,_⟩
 ·exact⟨none,0,by rw[e,e0]⟩
 ·exact⟨_,_,e⟩
theorem a8.ge(h:a8 w B n K kv m D):∀k,NF n m kv k->B<=k:=fun k hk=>by
 rcases hk with rfl|rfl|e
 ·exact h.lo.1
 ·exact h.lo.2
 ·exact(h.row.lt k e).1
theorem Dr(l:List UInt8)(h:a8 w B n K kv m D)(hl:l.length<=1048576)(hK:K.length<=1048576)(hB:B<=w.heap.size):
 Calls Tryz.prog 169 #[.pointer (some ⟨n,0,none⟩),.string (bs l)] w fun e w'=>e=.returned (.tuple #[])/\∃kv' D',a8 w' B n (K++[l]) kv' m D'/\dH w w' (NF n m kv) (NF n m kv'):=by
 have hkey:keyOf Tryz.prog 9 (.string (bs l))=some (.string l):=keyOf_string_mk Tryz.underlying9 (by rw[aq];unfold maxLen;omega)
 obtain⟨sa,sc,rfl⟩:=h.form
 have c0:w.cell? ⟨n,0,none⟩=some (.slice sa K.length sc):=(ag.cell h.blk 0).trans rfl
 have c1:w.cell? ⟨n,1,none⟩=some (.map (some m)):=(ag.cell h.blk 1).trans rfl
 have HM:=af h.map
 by_cases hm:l∈K
 ·have hh:Maps.has D (.string l)=true:=by rw[(h.dict l).1];simpa using hm
  go_enter Tryz.func169,Tryz.ntmps169
  have ⟨i0,hi,hz0,hz1,hz2⟩:=info_parts (show (Tryz.prog.info? 9).map (fun i=>(i.zero,i.size,i.bytes))=some (some (.string ⟨#[]⟩),1,16) by kernel_rfl);have hD2:w.ownsMap Tryz.prog 9 jt m (K++[l]).length D:=h.map.mono (by simp);have HP:=af (fun w5 kv' (a:w5.ownsRow B 9 1 kv' (K.length+1) (sE K++[.string (bs l)])) b c=>tq (w5:=w5) (kv':=kv') (D':=D) (l:=l) (o:=.cells #[.string (bs l)] 9) h.blk h.row hD2 (BC h.dict hm) h.lo a b c);have hrow:=h.row;clear hD2 h;go_wp2_with (first|(at_lookup;refine wpList_lookup_own_ok _ rfl _ _ 171 rfl 9 3 (string_keyed Tryz.underlying9) Tryz.underlying171 jt (z:=.int .i64 0) (by kernel_rfl) (.lit (.int .i64 0)) [] rfl m K.length D rfl HM.out _ _ rfl hkey ?_;intro x ps hx;rw[hh];clear hx)|(at_builtin;refine wpList_append_own_at _ rfl _ _ 76 rfl B 9 i0 (.string ⟨#[]⟩) 1 16 Tryz.underlying76 hi hz0 hz1 hz2 rfl (by decide) _ _ _ rfl (World.ownsRow.alloc hrow _) ⟨_,0,none⟩ 1 1 [.string (bs l)] rfl rfl (cell_one_new _ _ _) (by simp[Value.oneCell']) (by unfold maxLen;omega) (by omega) (by simp;omega) ?_;intro v' w5 hown' hgrow hnil hloc;have HH:=af (HP.out w5 v' hown' hgrow hloc);obtain⟨sa',sc',rfl⟩:=aH hown';have d0:w5.cell? ⟨n,0,none⟩=some _:=(ag.cell HH.out.1 0).trans rfl;have f0:=ag.frozen HH.out.1 0;clear hown' hgrow hnil hloc HP hrow HM))
  go_end0
  exact⟨rfl,_,_,HH.out.2.1,HH.out.2.2⟩
 ·have hh:Maps.has D (.string l)=false:=by rw[(h.dict l).1];simpa using hm
  have ⟨i0,hi,hz0,hz1,hz2⟩:=info_parts (show (Tryz.prog.info? 9).map (fun i=>(i.zero,i.size,i.bytes))=some (some (.string ⟨#[]⟩),1,16) by kernel_rfl);have hdict:=nP h.map.isMap h.dict hm;have HX:=af h;clear h;go_enter Tryz.func169,Tryz.ntmps169
  have g0:=aj c0;have g1:=aj c1;go_wp2_with (at_lookup;refine wpList_lookup_own_ok _ rfl _ _ 171 rfl 9 3 (string_keyed Tryz.underlying9) Tryz.underlying171 jt (z:=.int .i64 0) (by kernel_rfl) (.lit (.int .i64 0)) [] rfl m K.length D rfl HM.out _ _ rfl hkey ?_;intro x ps hx;rw[hh];clear hx)
  refine kN ?_;iterate 9 (refine bH fun K hK=>?_;go_big_quiet_step (fail);refine hK _ ?_;clear hK K)
  (refine nt (v:=.int .i64 (K.length:Int)) (fun _ _=>by go_simp) fun K hK=>?_;go_big_quiet_step (fail);refine hK _ ?_;clear hK K);refine eF ?_;intro w0 hb0;simp only[az];have HX0:=af (HX.out.below hb0);have HM:=af HX0.out.map;have hB0:B<=w0.heap.size:=aK hB hb0.size;have HT0:=af (show dH w w0 (NF n m (.slice sa K.length sc)) (NF n m (.slice sa K.length sc)) from dH.of_below hb0);clear hb0 HX;refine wpList_mapUpdate_own _ rfl _ _ _ 171 rfl 9 3 (string_keyed Tryz.underlying9) Tryz.underlying171 jt m K.length D rfl HM.out (by unfold maxLen;omega) _ _ _ rfl rfl hkey (.lit (.int .i64 (K.length:Int))) [] rfl ?_;intro w1 hown1 hgrow1;have hkm:ak w0 w1 (fun k=>k=m):=ak.of_grown hgrow1 fun k e=>(aA e).symm;have hblk1:=HX0.out.blk.keptK hkm HX0.out.ne_nm;have hrow:=aw HX0.out.row hkm (fun b e e2=>HX0.out.ne_mk (e2▸e));have hB1:B<=w1.heap.size:=aK hB0 hkm.size;have hD2:w1.ownsMap Tryz.prog 9 jt m (K++[l]).length (D.put (.string l) (.lit (.int .i64 (K.length:Int)))):=hown1.mono (by simp);have HP:=af (fun w5 kv' (a:w5.ownsRow B 9 1 kv' (K.length+1) (sE K++[.string (bs l)])) b c=>tq (w5:=w5) (kv':=kv') (l:=l) (o:=.cells #[.string (bs l)] 9) hblk1 hrow hD2 hdict HX0.out.lo a b c);have HT:=af (show dH w0 w1 (NF n m (.slice sa K.length sc)) (NF n m (.slice sa K.length sc)) from dH.of_kept (hkm.weaken fun k e=>.inr (.inl e)));have k0:w1.cell? ⟨n,0,none⟩=some (.slice sa K.length sc):=(ag.cell hblk1 0).trans rfl;clear hD2 hown1 hgrow1 hkm hblk1 hdict g0 g1;go_wp2_with (at_builtin;refine wpList_append_own_at _ rfl _ _ 76 rfl B 9 i0 (.string ⟨#[]⟩) 1 16 Tryz.underlying76 hi hz0 hz1 hz2 rfl (by decide) _ _ _ rfl (World.ownsRow.alloc hrow _) ⟨_,0,none⟩ 1 1 [.string (bs l)] rfl rfl (cell_one_new _ _ _) (by simp[Value.oneCell']) (by unfold maxLen;omega) (by omega) (by simp;omega) ?_;intro v' w5 hown' hgrow hnil hloc;have HH:=af (HP.out w5 v' hown' hgrow hloc);obtain⟨sa',sc',rfl⟩:=aH hown';have d0:w5.cell? ⟨n,0,none⟩=some _:=(ag.cell HH.out.1 0).trans rfl;have f0:=ag.frozen HH.out.1 0;clear hown' hgrow hnil hloc HP hrow HM)
  go_end0
  exact⟨rfl,_,_,HH.out.2.1,HT0.out.trans (HT.out.trans HH.out.2.2)⟩
end
def iB(w:World)(v:Value)(K:List (List UInt8)):Prop:=
 ∃a c,v=.slice a K.length c/\K.length<=1048576/\∀(i:Nat) x,K[i]?=some x->x.length<=1048576/\∃b o,a=some ⟨b,o,none⟩/\w.cell? ⟨b,o+i,none⟩=some (.string (bs x))
theorem iB.below{w w':World}{v:Value}{K:List (List UInt8)}(h:iB w v K)(hb:Below w.heap.size w w'):iB w' v K:=by
 obtain⟨a,c,h1,h2,h3⟩:=h;refine⟨a,c,h1,h2,fun i x hx=>?_⟩;obtain⟨h4,b,o,h6,h7⟩:=h3 i x hx;exact⟨h4,b,o,h6,cu hb h7⟩
theorem gE{w:World}{B:Nat}{v:Value}{K:List (List UInt8)}(h:w.ownsRow B 9 1 v K.length (sE K))(hn:K.length<=1048576)(hl:∀x∈K,x.length<=1048576):iB w v K:=by
 have hcells:∀g,v.ownBlock=some g->∀j u,(sE K)[j]?=some u->w.cell? ((⟨g,0,none⟩:Addr).add j)=some u:=fun g hg=>h.cells (g:=g) hg;rcases h.2 with⟨e,e0⟩|⟨g,cap,cur,e,e1,e2,e3⟩
 ·refine⟨none,0,by rw[e,e0],hn,fun i x hx=>?_⟩;rw[List.length_eq_zero_iff.1 e0] at hx;simp at hx
 ·refine⟨some ⟨g,0,none⟩,cap,e,hn,fun i x hx=>?_⟩;refine⟨hl x (List.mem_of_getElem? hx),g,0,rfl,?_⟩;have:=hcells g (by rw[e];rfl) i (.string (bs x)) (by unfold sE;rw[List.getElem?_map,hx];rfl);rw[eY] at this;rw[Nat.zero_add];exact this
theorem nO:j9 (.map []) []:=fun l=>⟨by simp[Maps.has],fun h=>by cases h⟩
theorem Gn(g:Int)(kv:Value)(K:List (List UInt8))(w:World)(h:iB w kv K):
 Calls Tryz.prog 105 #[ep g kv] w fun e w'=>∃n m kv' D,e=.returned (.pointer (some ⟨n,0,none⟩))/\a8 w' w.heap.size n K kv' m D/\Below w.heap.size w w':=by
 have hmm:=@run_makeMap Tryz.prog
 obtain⟨a,c,rfl,hn,hc⟩:=h
 have HC:=af hc
 clear hc
 rw[show ep g (.slice a K.length c)=.agg #[.int .i64 g,.slice a K.length c] from rfl]
 have e0:Below w.heap.size w (((w.alloc (.cells #[.int .i64 g,.slice a K.length c] 78)).alloc (.map #[] 0)).alloc (.cells #[.slice none 0 0,.map (some (w.heap.size+1))] 173)):=(((Below.refl _ w).alloc (aF _) _).alloc (by simp) _).alloc (by simp;omega) _
 have m0:((w.alloc (.cells #[.int .i64 g,.slice a K.length c] 78)).alloc (.map #[] 0)).ownsMap Tryz.prog 9 jt (w.heap.size+1) 0 (.map []):=by
  have:=World.ownsMap_made (w.alloc (.cells #[.int .i64 g,.slice a K.length c] 78)) Tryz.prog 9 jt;rwa[aY] at this
 have n0:a8 (((w.alloc (.cells #[.int .i64 g,.slice a K.length c] 78)).alloc (.map #[] 0)).alloc (.cells #[.slice none 0 0,.map (some (w.heap.size+1))] 173)) w.heap.size (w.heap.size+1+1) [] (.slice none 0 0) (w.heap.size+1) (.map []):=by
  refine⟨?_,eE,World.ownsMap.alloc m0 _,nO,by omega,by omega⟩;have:=ag.new ((w.alloc (.cells #[.int .i64 g,.slice a K.length c] 78)).alloc (.map #[] 0)) 173 #[.slice none 0 0,.map (some (w.heap.size+1))];rwa[aY,aY] at this
 clear m0
 go_enter Tryz.func105,Tryz.ntmps105
 go_wp2
 go_loopw [12] (fun vi wr=>∃(i:Nat) (kv':Value) (D:DataW Unit),i<=K.length/\vi=.int .i64 (i:Int)/\a8 wr w.heap.size (w.heap.size+1+1) (K.take i) kv' (w.heap.size+1) D/\Below w.heap.size w wr) (fun vi _=>K.length-(intOf vi).toNat)
 case atStart=>exact⟨0,_,_,Nat.zero_le _,rfl,n0,e0⟩
 clear n0 e0
 obtain⟨i,kv',D,hi,rfl,hN,hb⟩:=hrel
 rcases(show i<K.length\/i=K.length by omega) with hil|rfl
 ·have HT:=af (show K.take i++[K[i]]=K.take (i+1) from(eN hil).symm);obtain⟨hx1,b,o,rfl,d0⟩:=HC.out i _ (aW hil);have e0:=hb.cell (World.block_lt_of_cell? _ _ d0);rw[d0] at e0;have q:=af (Dr K[i] hN hx1 (by rw[dt];omega) hb.size);rw[HT.out] at q;clear d0 HT;generalize K[i]=x at*;go_wp2_with fail
  refine q.out.mono ?_;rintro e w1 ⟨rfl,kv2,D2,hN2,hT⟩;go_wp2_with fail
  go_roundw
  case rel=>exact⟨i+1,kv2,D2,by omega,by go_num,hN2,hb.trans (hT.kept.below hb.size hN.ge)⟩
  case measure=>simp[intOf];omega
 ·rw[List.take_length] at hN;go_wp2_with fail
  go_ret;exact⟨_,_,_,_,rfl,hN,hb⟩
def cl(K:List (List UInt8))(L:List Lb):List UInt8×List (List UInt8):=
 if dE L∈K then(Num.small (K.idxOf (dE L)),K) else(Num.small K.length++Num.text (dE L),K++[dE L])
section
variable {w w':World} {B n m:Nat} {K:List (List UInt8)} {kv:Value} {D:DataW Unit}
theorem C3(L:List Lb)(v:Value)(h:a8 w B n K kv m D)(hL:aC w v L)(hl:(dE L).length<=1048576)(hK:K.length<=1048576)(hB:B<=w.heap.size):
 Calls Tryz.prog 396 #[.pointer (some ⟨n,0,none⟩),v] w fun e w'=>e=.returned (.string (bs (cl K L).1))/\∃kv' D',a8 w' B n (cl K L).2 kv' m D'/\dH w w' (NF n m kv) (NF n m kv'):=by
 have q1:=af (pq L v w hL)
 obtain⟨va,vc,rfl,_⟩:=hL
 have hP:cl K L=if dE L∈K then(Num.small (K.idxOf (dE L)),K) else(Num.small K.length++Num.text (dE L),K++[dE L]):=rfl
 generalize dE L=l at*
 have hkey:keyOf Tryz.prog 9 (.string (bs l))=some (.string l):=keyOf_string_mk Tryz.underlying9 (by rw[aq];unfold maxLen;omega)
 by_cases hm:l∈K
 ·rw[if_pos hm] at hP;rw[hP];have hh:Maps.has D (.string l)=true:=by rw[(h.dict l).1];simpa using hm
  have hat:=(h.dict l).2 hm (.lit (.int .i64 0));have hix:K.idxOf l<K.length:=List.idxOf_lt_length_of_mem hm;clear hP;generalize K.idxOf l=j at*;go_enter Tryz.func396,Tryz.ntmps396
  go_wp2_with fail
  refine bP q1.out fun w1 hb1=>?_;have hN1:=h.below hb1;have hT1:dH w w1 (NF n m kv) (NF n m kv):=dH.of_below hb1;have hB1:B<=w1.heap.size:=aK hB hb1.size;clear q1 hb1 h;obtain⟨sa,sc,rfl⟩:=hN1.form;have c0:w1.cell? ⟨n,0,none⟩=some (.slice sa K.length sc):=(ag.cell hN1.blk 0).trans rfl;have c1:w1.cell? ⟨n,1,none⟩=some (.map (some m)):=(ag.cell hN1.blk 1).trans rfl;have HM:=af hN1.map;have q2:=af (fun W=>aT (j:Int) W (by omega) (by omega));rw[show ((j:Int).toNat)=j from rfl] at q2;have hw:IntKind.u64.wrap (j:Int)=j:=by simp[IntKind.wrap,IntKind.bits,IntKind.signed];omega
  have HN:=af hN1;have HT:=af hT1;clear hN1 hT1;go_wp2_with (at_lookup;refine wpList_lookup_own_ok _ rfl _ _ 171 rfl 9 3 (string_keyed Tryz.underlying9) Tryz.underlying171 jt (z:=.int .i64 0) (by kernel_rfl) (.lit (.int .i64 0)) [] rfl m K.length D rfl HM.out _ _ rfl hkey ?_;intro x ps hx;rw[hat] at hx;obtain rfl:=zy hx;clear hx;rw[hh])
  clear hat hh;go_wp2_with fail
  refine(q2.out _).mono ?_;rintro e w2 ⟨rfl,hb2⟩;go_wp2_with fail
  go_ret;exact⟨rfl,_,_,HN.out.below hb2,HT.out.trans (dH.of_below hb2)⟩
 ·rw[if_neg hm] at hP;rw[hP];go_enter Tryz.func396,Tryz.ntmps396
  go_wp2_with fail
  refine bP q1.out fun w1 hb1=>?_;have hN1:=h.below hb1;have hT1:dH w w1 (NF n m kv) (NF n m kv):=dH.of_below hb1;have hB1:B<=w1.heap.size:=aK hB hb1.size;clear q1 hb1 h;obtain⟨sa,sc,rfl⟩:=hN1.form;have c0:w1.cell? ⟨n,0,none⟩=some (.slice sa K.length sc):=(ag.cell hN1.blk 0).trans rfl;have c1:w1.cell? ⟨n,1,none⟩=some (.map (some m)):=(ag.cell hN1.blk 1).trans rfl;have HM:=af hN1.map;have hh:Maps.has D (.string l)=false:=by rw[(hN1.dict l).1];simpa using hm
  have q2:=af (fun W=>aT (K.length:Int) W (by omega) (by omega));rw[show ((K.length:Int).toNat)=K.length from rfl] at q2;have q3:=af (fun W=>eh l W (by omega));have z1:=Num.small_len K.length;have z2:(Num.text l).length<=2000000:=by rw[Num.text_len];have:=Num.small_len l.length;omega
  have hadd:∀W,(Op.stringOp .add (bs (Num.small K.length)) (bs (Num.text l))).run Tryz.prog W=.ok (.string (bs (Num.small K.length++Num.text l))) W:=fun W=>aJ (P:=Tryz.prog) _ _ (by omega) W;have qA:=af (fun W (hb:Below w1.heap.size w1 W)=>Dr l (hN1.below hb) hl hK (aK hB1 hb.size));have HT:=af hT1;generalize hr:Num.small K.length++Num.text l=r at*;clear hP hT1 hN1 hm z1 z2;have hw:IntKind.u64.wrap (K.length:Int)=K.length:=by simp[IntKind.wrap,IntKind.bits,IntKind.signed];omega
  have g0:=aj c0;go_wp2_with (at_lookup;refine wpList_lookup_own_ok _ rfl _ _ 171 rfl 9 3 (string_keyed Tryz.underlying9) Tryz.underlying171 jt (z:=.int .i64 0) (by kernel_rfl) (.lit (.int .i64 0)) [] rfl m K.length D rfl HM.out _ _ rfl hkey ?_;intro x ps hx;rw[hh];clear hx)
  refine(q2.out _).mono ?_;rintro e w2 ⟨rfl,hb2⟩;go_wp2_with fail
  refine(q3.out _).mono ?_;rintro e w3 ⟨rfl,hb3⟩;have hb:=ay hb2 hb3;have HT2:=af (HT.out.trans (dH.of_below hb));have qA2:=af (qA.out _ hb);clear hb hb2 hb3 qA HT q2 q3;go_wp2_with fail
  refine qA2.out.mono ?_;rintro e w4 ⟨rfl,kv2,D2,hN2,hT2⟩;go_wp2_with fail
  go_ret;exact⟨by subst hr;rfl,_,_,hN2,HT2.out.trans hT2⟩
end
abbrev CS:=List UInt8×Bool
def sV (c:CS):Int:=if c.2 then 0 else oV (Num.getSmall c.1)
def sN (c:CS):CS:=Num.nxt c (Num.getSmall c.1)
def wV (c:CS):Int:=if c.2 then 0 else oV (Num.getWide c.1)
def wN (c:CS):CS:=Num.nxt c (Num.getWide c.1)
theorem LO(g:Nat)(c:CS)(w:World)(hB:gC w g c.1 c.2)(hs:c.1.length<=1099511627776):
 Calls Tryz.prog 142 #[.pointer (some ⟨g,0,none⟩)] w fun e w'=>e=.returned (.int .u64 (sV c))/\gC w' g (sN c).1 (sN c).2/\w.grownBy w' (some g):=CN g c.1 c.2 w hB hs
theorem Le(g:Nat)(c:CS)(w:World)(hB:gC w g c.1 c.2)(hs:c.1.length<=1099511627776):
 Calls Tryz.prog 141 #[.pointer (some ⟨g,0,none⟩)] w fun e w'=>e=.returned (.int .u64 (wV c))/\gC w' g (wN c).1 (wN c).2/\w.grownBy w' (some g):=JT g c.1 c.2 w hB hs
theorem ev{α:Type}(c:CS)(g:Option (α×Nat)):(Num.nxt c g).1.length<=c.1.length:=by
 unfold Num.nxt;split
 ·exact aF _
 ·cases g with
  |none=>exact aF _
  |some x=>simp
def jn(K:List (List UInt8))(c:CS):Option (List Lb×List (List UInt8))×CS:=
 if (sN c).2=true\/(K.length:Int)<sV c then(none,sN c)
 else if sV c<(K.length:Int) then
  ((La (K.getD (sV c).toNat [])).bind fun L=>if K.idxOf (K.getD (sV c).toNat [])=(sV c).toNat then some (L,K) else none,sN c)
 else if (nT (sN c) 600).2=true\/tT (sN c) 600∈K then(none,nT (sN c) 600)
 else((La (tT (sN c) 600)).map fun L=>(L,K++[tT (sN c) 600]),nT (sN c) 600)
section
variable {w w':World} {B n m gc:Nat} {K:List (List UInt8)} {kv:Value} {D:DataW Unit}
end
end
section
open Go.RowKit
theorem vy{R:World->World->Prop}{P:Program}{ops:Array Oper}{w0:World}{n:Nat}{ds:List Deferred}{F:Act->World->Prop}{rest:List Oper}{H:List (Tmp×bj)}{a:Act}{o:Oper}[bC R](d e:Tmp){r:bj}
 (hop:o.op=.assign (.tmp d)\/o.op=.move (.tmp d)) (hgd:o.guard=none) (hh:cx H d=some r) (hk:r.keeps R) (hd:o.dst=some e)
 (h:bO R P ops w0 n ds F rest ((e,r)::H) a):bO R P ops w0 n ds F (o::rest) H a:=by
 refine oQ hk (fun c w hR hf=>.inr ⟨?_,fun K Q' hK=>?_⟩) hd h
 ·unfold Region.wanted;rw[hgd]
 ·have h1:=hf d (by rcases hop with e|e<;>simp[Oper.looksAt,e,hgd,Op.operands]);unfold en at h1;rw[hh] at h1;unfold Oper.wp execOp;rcases hop with e|e<;>rw[e]<;>exact hK _ _ (bC.refl w) h1
theorem tm{w0:World}{n:Nat}{news:List Value}:(eZ w0 n news).keeps bZ:=by
 rintro x W W' ⟨p,c,rfl,hp,hc⟩ hR;exact⟨p,c,rfl,hp,fun j u hu=>(Below.cell hR (World.block_lt_of_cell? _ _ (hc j u hu))).trans (hc j u hu)⟩
theorem jr{P:Program}{ops:Array Oper}{w0:World}{n:Nat}{ds:List Deferred}{F:Act->World->Prop}{rest:List Oper}{H:List (Tmp×bj)}{a:Act}{o:Oper}(d mm:Nat)(news:List Value)
 (hw:Region.wanted o (yielded ops a.tmps)=true) (hns:∀cs b,o.op≠.select cs b) (hl:bf ops H o=true) (hd:o.dst=some d) (E:TypeId)
 (hr:∀w,(execOp a.eval o).run P w=.ok (.value (.slice (some ⟨w.heap.size,0,none⟩) mm mm)) (w.alloc (.cells news.toArray E)))
 (h:bO bZ P ops w0 n ds F rest ((d,eZ w0 mm news)::H) a):bO bZ P ops w0 n ds F (o::rest) H a:=by
 refine kw tm hw hns hl hd (fun w hW=>⟨_,_,hr w,ai w _,w.heap.size,mm,rfl,hW.size,fun j u hu=>?_⟩) h
 rw[eY,World.cell?_alloc_new]
 simpa using hu
def tZ(w0:World)(g:Nat)(cs:List CS)(c0:CS)(h0:cs[0]?=some c0)(hC:gC w0 g c0.1 c0.2):fM where
 ph q w:=ak w0 w (fun k=>k=g)/\∃c,cs[q]?=some c/\gC w g c.1 c.2
 K a b:=ak a b (fun k=>k=g)
 w0:=w0
 start:=⟨ak.refl _ _,c0,h0,hC⟩
 refl w:=ak.refl w _
 trans h k:=h.trans k
 grow h:=ak.of_below h
 stay h k:=⟨h.1.trans (ak.of_below k),by obtain⟨c,h1,h2⟩:=h.2;exact⟨c,h1,ag.below h2 k h2.lt⟩⟩
theorem mU{P:Program}{f:FuncId}{args:Array Value}{w0 w:World}{g q:Nat}{cs:List CS}{c0 c c':CS}{h0:cs[0]?=some c0}{hC:gC w0 g c0.1 c0.2}{v:Value}(hw:(tZ w0 g cs c0 h0 hC).ph q w)(hc:cs[q]?=some c)(hc':cs[q+1]?=some c')
 (h:gC w g c.1 c.2->Calls P f args w fun e w'=>e=.returned v/\gC w' g c'.1 c'.2/\w.grownBy w' (some g)):
 Calls P f args w fun e w'=>e=.returned v/\(tZ w0 g cs c0 h0 hC).K w w'/\(tZ w0 g cs c0 h0 hC).ph (q+1) w':=by
 obtain⟨h1,c2,h2,h3⟩:=hw
 obtain rfl:c2=c:=by rw[hc] at h2;exact(aA h2).symm
 refine(h h3).mono ?_
 rintro e w' ⟨rfl,h4,h5⟩
 have hk:ak w w' (fun k=>k=g):=ak.of_grown h5 fun k e=>(aA e).symm
 exact⟨rfl,hk,h1.trans hk,c',hc',h4⟩
theorem fS{S:fM}{ch:List Nat}{P:Program}{ops:Array Oper}{n k:Nat}{ds:List Deferred}{F:Act->World->Prop}{rest:List Oper}{H:List (Tmp×bj)}{a:Act}{o:Oper}(q:Nat)(hi:ch.contains k=true)(hq:ch.idxOf k=q)(hgd:o.guard=none)(hns:∀cs b,o.op≠.select cs b)(hl:bf ops H o=true)(hd:o.dst=none)
 (hr:∀w,S.ph q w->∃w',(execOp a.eval o).run P w=.ok .skip w'/\S.K w w'/\S.ph (q+1) w')
 (h:bR S ch P ops n ds F (k+1) rest H a):bR S ch P ops n ds F k (o::rest) H a:=by
 refine⟨fun _ _=>True,fun _ _ _ _ _=>trivial,Lo hi hq fun c w hb hs=>⟨by unfold Region.wanted;rw[hgd],fun K Q' hK=>?_⟩,?_⟩
 ·have he:=cr hl hs;obtain⟨w',h1,h2,h3⟩:=hr w hb;unfold Oper.wp;rw[bM hns he,h1];exact hK _ _ h2 h3 trivial
 ·have:(fun t=>if o.dst=some t then(fun _ _=>True:bj) else en H a t)=en H a:=by
   funext t;rw[hd];simp
  rw[this];exact h
def SR (g:Nat)(vl:Value):Nat->Prop:=fun k=>k=g\/vl.ownBlock=some k
def md(w0:World)(g:Nat)(cs:List CS)(c0:CS)(h0:cs[0]?=some c0)(hC:gC w0 g c0.1 c0.2)(vl:Value)(fin:Option Obj)(m:Nat)(hlt:∀k,vl.ownBlock=some k->k<w0.heap.size):fM where
 ph q w:=ak w0 w (SR g vl)/\(∃c,cs[q]?=some c/\gC w g c.1 c.2)/\∀k,vl.ownBlock=some k->(q<=m->w.heap[k]?=w0.heap[k]?)
 K a b:=ak a b (SR g vl)/\∀k,vl.ownBlock=some k->k<a.heap.size->b.heap[k]?=a.heap[k]?\/b.heap[k]?=fin
 w0:=w0
 start:=⟨ak.refl _ _,⟨c0,h0,hC⟩,fun _ _ _=>rfl⟩
 refl w:=⟨ak.refl w _,fun _ _ _=>.inl rfl⟩
 trans h k:=⟨h.1.trans k.1,fun i hi hl=>by
  rcases k.2 i hi (dU hl h.1.size) with e|e
  ·rw[e];exact h.2 i hi hl
  ·exact .inr e⟩
 grow h:=⟨ak.of_below h,fun k _ hl=>.inl (h.block k hl)⟩
 stay h k:=⟨h.1.trans (ak.of_below k),(by obtain⟨c,h1,h2⟩:=h.2.1;exact⟨c,h1,ag.below h2 k h2.lt⟩),fun i hi hq=>(k.block i (dU (hlt i hi) h.1.size)).trans (h.2.2 i hi hq)⟩
section
variable {P:Program} {w0:World} {g:Nat} {cs:List CS} {c0:CS} {h0:cs[0]?=some c0} {hC:gC w0 g c0.1 c0.2} {vl:Value} {fin:Option Obj} {m:Nat} {hlt:∀k,vl.ownBlock=some k->k<w0.heap.size}
theorem vh{f:FuncId}{args:Array Value}{w:World}{q:Nat}{c c':CS}{v:Value}(hg:vl.ownBlock≠some g)(hw:(md w0 g cs c0 h0 hC vl fin m hlt).ph q w)(hc:cs[q]?=some c)(hc':cs[q+1]?=some c')(hq:q+1<=m)
 (h:gC w g c.1 c.2->Calls P f args w fun e w'=>e=.returned v/\gC w' g c'.1 c'.2/\w.grownBy w' (some g)):
 Calls P f args w fun e w'=>e=.returned v/\(md w0 g cs c0 h0 hC vl fin m hlt).K w w'/\(md w0 g cs c0 h0 hC vl fin m hlt).ph (q+1) w':=by
 obtain⟨h1,⟨c2,h2,h3⟩,h6⟩:=hw
 obtain rfl:c2=c:=by rw[hc] at h2;exact(aA h2).symm
 refine(h h3).mono ?_
 rintro e w' ⟨rfl,h4,h5⟩
 have hk:ak w w' (SR g vl):=ak.of_grown h5 fun k e=>.inl (aA e).symm
 have hr:∀k,vl.ownBlock=some k->k<w.heap.size->w'.heap[k]?=w.heap[k]?:=fun k hk hl=>h5.block k hl (fun e=>hg (hk.trans e))
 exact⟨rfl,⟨hk,fun k hk hl=>.inl (hr k hk hl)⟩,h1.trans hk,⟨c',hc',h4⟩,fun k hk _=>(hr k hk (dU (hlt k hk) h1.size)).trans (h6 k hk (by omega))⟩
theorem Bl{n:Nat}{news:List Value}:(eZ w0 n news).keeps (md w0 g cs c0 h0 hC vl fin m hlt).K:=by
 rintro x W W' ⟨p,c,rfl,hp,hc⟩ hR;exact⟨p,c,rfl,hp,fun j u hu=>ak.cell hR.1 (hc j u hu) fun e=>by
  rw[pV] at e
  rcases e with e|e
  ·have:=hC.lt
   simp only at e
   omega
  ·have:=hlt p e
   omega⟩
theorem Cx{B:Nat}{e:TypeId}{size n:Nat}{xs:List Value}:(lD w0 B e size vl.ownBlock fin n xs).keeps (md w0 g cs c0 h0 hC vl fin m hlt).K:=by
 rintro v W W' ⟨h1,h2⟩ hR;rcases h2 with⟨h2,h3⟩|⟨k,h2,h3⟩
 ·have hs:∀k,vl.ownBlock=some k->W'.heap[k]?=W.heap[k]?:=fun k hk=>by
   rcases hR.2 k hk (jK h1 (h2.trans hk)) with e|e
   ·exact e
   ·rw[e,h3 k hk]
  exact⟨gK h1 fun k hk=>hs k (h2▸hk),.inl ⟨h2,fun k hk=>(hs k hk).trans (h3 k hk)⟩⟩
 ·exact⟨gK h1 fun i hi=>hR.1.block i (jK h1 hi) fun e=>by
   rw[h2] at hi
   obtain rfl:=aA hi
   rcases e with e|e
   ·have:=hC.lt;omega
   ·have:=hlt _ e;omega,.inr ⟨k,h2,h3⟩⟩
theorem Bt{ch:List Nat}{ops:Array Oper}{n k:Nat}{ds:List Deferred}{F:Act->World->Prop}{rest:List Oper}{H:List (Tmp×bj)}{a:Act}{o:Oper}{d:Tmp}{mm:Nat}{news:List Value}
 (hi:ch.contains k=false) (hw:Region.wanted o (yielded ops a.tmps)=true) (hns:∀cs b,o.op≠.select cs b) (hl:bf ops H o=true) (hd:o.dst=some d) (E:TypeId)
 (hr:∀w,(execOp a.eval o).run P w=.ok (.value (.slice (some ⟨w.heap.size,0,none⟩) mm mm)) (w.alloc (.cells news.toArray E)))
 (h:bR (md w0 g cs c0 h0 hC vl fin m hlt) ch P ops n ds F (k+1) rest ((d,eZ w0 mm news)::H) a):bR (md w0 g cs c0 h0 hC vl fin m hlt) ch P ops n ds F k (o::rest) H a:=by
 refine pI hi Bl hw hns hl hd (fun w hW=>⟨_,_,hr w,ai w _,w.heap.size,mm,rfl,?_,fun j u hu=>?_⟩) h
 ·obtain⟨q,hk,_⟩:=hW;exact hk.size
 ·rw[eY,World.cell?_alloc_new];simpa using hu
theorem GF{ch:List Nat}{ops:Array Oper}{nn k:Nat}{ds:List Deferred}{F:Act->World->Prop}{rest:List Oper}{H:List (Tmp×bj)}{a:Act}{o:Oper}{s x d:Tmp}{t e:TypeId}{i:TypeInfo}{z:Value}{size bytes B n mm:Nat}{xs news:List Value}{c:CS}
 (hfin:fin=bg w0 vl size n news) (hi:ch.contains k=true) (hq:ch.idxOf k=m) (hgd:o.guard=none) (ho:o.op=.call {callee:=.builtin .append,args:=#[.tmp s,.tmp x],argTypes:=#[t,t]}) (hd:o.dst=some d)
 (ht:P.underlying t=some (.slice e)) (hin:P.info? e=some i) (hz:i.zero=some z) (hsize:i.size=size) (hby:i.bytes=bytes) (hzs:z.cells.size=size) (hsz:0<size)
 (hsn:cx H s=none) (hs:a.eval (.tmp s)=vl) (hx:cx H x=some (eZ w0 mm news)) (hown:w0.ownsRow B e size vl n xs) (hl:news.length=mm*size)
 (h1:∀u∈news,u.oneCell'=true) (h63:n+mm<=maxLen) (hbytes:(n+mm)*bytes<=140737488355328) (hbase:B<=w0.heap.size) (hg:vl.ownBlock≠some g) (hc:cs[m]?=some c) (hc':cs[m+1]?=some c)
 (h:bR (md w0 g cs c0 h0 hC vl fin m hlt) ch P ops nn ds F (k+1) rest ((d,lD w0 B e size vl.ownBlock fin (n+mm) (xs++news))::H) a):
 bR (md w0 g cs c0 h0 hC vl fin m hlt) ch P ops nn ds F k (o::rest) H a:=by
 refine pH m hi hq Cx (fun cc w hW hf=>⟨?_,fun K Q' hK=>?_⟩) hd h
 ·unfold Region.wanted;rw[hgd]
 ·have hes:=hf s (by simp[Oper.looksAt,ho,hgd,Op.operands,Call.operands]);have hex:=hf x (by simp[Oper.looksAt,ho,hgd,Op.operands,Call.operands]);unfold en at hes hex;rw[hsn] at hes;rw[hx] at hex;obtain⟨p,c',hex,hp,hcl⟩:=hex;simp only at hes;obtain⟨hk,⟨c2,hc2,hC2⟩,hrow⟩:=hW;obtain rfl:c2=c:=by rw[hc] at hc2;exact(aA hc2).symm
  have hrow':∀k,vl.ownBlock=some k->w.heap[k]?=w0.heap[k]?:=fun k hk=>hrow k hk (aF _);have hownw:w.ownsRow B e size vl n xs:=gK hown hrow';have hap:bg w vl size n news=fin:=by
   rw[hfin];unfold bg;cases vl with
   |slice av al ac=>
    cases av with
    |none=>rfl
    |some ad=>
     simp only;rw[hrow' ad.block rfl]
   |_=>rfl
  obtain⟨v',w',hr,h2,h3⟩:=jk (P:=P) t o.type e i z size bytes ht hin hz hsize hby hzs hsz B w w vl n xs hownw mm c' ⟨p,0,none⟩ news hl hcl h1 h63 hbytes (aK hbase hk.size) (bC.refl w);rw[hap] at h2 h3;have hk2:ak w w' (SR g vl):=ak.of_grown h2.1 fun k e=>.inr e;unfold Oper.wp execOp;simp only[ho,resolve,invoke,builtin,Sem.run_bind,Sem.run_pure,Result.andThen_ok,List.map_toArray,List.map_cons,List.map_nil,hes,hs,hex,hr];refine hK _ _ ⟨hk2,fun k hk _=>h2.2 k hk⟩ ⟨hk.trans hk2,⟨c2,hc',ag.grown hC2 h2.1 (fun e=>hg e.symm)⟩,fun k _ hq=>by omega⟩ ?_;refine⟨h3.1,h3.2.imp id fun ⟨k,e1,e2⟩=>⟨k,e1,aK hk.size e2⟩⟩
end
end
section
open Go.RowKit
attribute [local go_sem] am aq
theorem Lq{W:World}{b:Nat}{T:TypeId}{u0 u1 u2 u3 u4:Value}(h:ag W b T #[u0,u1,u2,u3,u4])(v0 v1 v2 v3 v4:Value):
 ag (((((W.setCell ⟨b,0,none⟩ v0).setCell ⟨b,1,none⟩ v1).setCell ⟨b,2,none⟩ v2).setCell ⟨b,3,none⟩ v3).setCell ⟨b,4,none⟩ v4) b T #[v0,v1,v2,v3,v4]/\
  ak W (((((W.setCell ⟨b,0,none⟩ v0).setCell ⟨b,1,none⟩ v1).setCell ⟨b,2,none⟩ v2).setCell ⟨b,3,none⟩ v3).setCell ⟨b,4,none⟩ v4) (fun k=>k=b):=
 ⟨ag.set_ (ag.set_ (ag.set_ (ag.set_ (ag.set_ h 0 v0) 1 v1) 2 v2) 3 v3) 4 v4,
  ak.of_grown (bi (bi (bi (bi (ap _ _ _ _) (ap _ _ _ _)) (ap _ _ _ _)) (ap _ _ _ _)) (ap _ _ _ _)) fun _ e=>(aA e).symm⟩
def dF (n:Nat):Int:=if n<9223372036854775808 then n else(n:Int)-18446744073709551616
theorem vC(n:Nat)(h:n<18446744073709551616):IntKind.i64.wrap (n:Int)=dF n:=by
 unfold dF;simp[IntKind.wrap,IntKind.bits,IntKind.signed];split<;>split<;>omega
theorem Df(n:Nat)(h:n<18446744073709551616): -9223372036854775808<=dF n/\dF n<=9223372036854775807:=by unfold dF;split<;>omega
def fT (c:CS):List UInt8:=if c.2 then[] else gP (Num.getFixed c.1 12)
def fN (c:CS):CS:=Num.nxt c (Num.getFixed c.1 12)
theorem CF(g:Nat)(c:CS)(w:World)(hB:gC w g c.1 c.2)(hs:c.1.length<=1099511627776):
 Calls Tryz.prog 282 #[.pointer (some ⟨g,0,none⟩),.int .i64 12] w fun e w'=>e=.returned (.string (bs (fT c)))/\gC w' g (fN c).1 (fN c).2/\w.grownBy w' (some g):=KC g c.1 c.2 12 w hB hs (by omega) (by omega)
theorem Hd(c:CS)(h:c.1.length<=1048576):(fT c).length<=1048576:=by
 unfold fT;split
 ·simp
 ·cases hf:Num.getFixed c.1 12 with
  |none=>simp[gP]
  |some x=>
   obtain⟨t,j⟩:=x;have:=congrArg List.length (Num.getFixed_only _ _ _ _ hf);unfold Num.getFixed at hf;split at hf
   ·cases hf
   ·split at hf
    ·cases hf
    ·obtain⟨rfl,rfl⟩:=Prod.mk.inj (aA hf);simp only[gP,dt];omega
def fU:Nat->CS->List Lb×CS
 |0,c=>([],c)
 |n+1,c=>let r:=fU n (fN (fN c));((fT c,fT (fN c))::r.1,r.2)
def jV(s:List UInt8):Rc×CS:=
 let X:=(s.drop 1).take 185
 let r:=fU (min (X.getD 24 0).toNat 6) (X.drop 25,false)
 (⟨((s.getD 0 0).toNat:Nat),r.1,dF (Num.unw (X.take 8)),dF (Num.unw ((X.drop 8).take 8)),Num.unw ((X.drop 16).take 8)⟩,r.2)
def aV(Z:List (Rc×Value)):List Value:=Z.flatMap fun z=>gu z.1 z.2
def Ik(w:World)(v:Value)(Z:List (Rc×Value)):Prop:=
 (∃p c,v=.slice (some ⟨p,0,none⟩) Z.length c/\∀j u,(aV Z)[j]?=some u->w.cell? ((⟨p,0,none⟩:Addr).add j)=some u)/\∀z∈Z,z.1.ok/\cV w z.2 z.1.labels
def gi(s:List UInt8):Option Rc×Int:=
 if s.length<186 then(none,1)
 else if (jV s).2.2=true\/dJ (jV s).1 1≠0\/oJ (jV s).1≠s.take 186 then(none,2)
 else(some (jV s).1,0)
def rx(s:List UInt8)(e:Ending)(w':World):Prop:=match (gi s).1 with
 |none=>e=.returned (.tuple #[.slice none 0 0,.string (bs s),.int .i64 (gi s).2])
 |some x=>∃v sl,e=.returned (.tuple #[v,.string (bs (s.drop 186)),.int .i64 0])/\Ik w' v [(x,sl)]
theorem uQ(s:List UInt8)(w:World)(hl:s.length<=1000000):
 Calls Tryz.prog 398 #[.agg #[],.string (bs s)] w fun e w'=>rx s e w'/\Below w.heap.size w w':=by
 by_cases h1:s.length<186
 ·have hG:gi s=(none,1):=by unfold gi;rw[if_pos h1]
  have HQ:=af (show ∀w',rx s (.returned (.tuple #[.slice none 0 0,.string (bs s),.int .i64 1])) w' from fun w'=>by unfold rx;rw[hG]);have hd:decide ((s.length:Int)<186)=true:=by simp;omega
  go_enter Tryz.func398,Tryz.ntmps398
  go_wp2_with fail
  go_ret3;exact⟨HQ.out _,ai w _⟩
 have hd:decide ((s.length:Int)<186)=false:=by simp;omega
 have hX:((s.drop 1).take 185).length=185:=by simp;omega
 have he1:(bs s).extract 1 186=bs ((s.drop 1).take 185):=by rw[bV]
 have h186:(186:Int)<=(s.length:Int):=by omega
 have h0:s[0]?=some s[0]:=aW (by omega)
 have hG:gi s=if (jV s).2.2=true\/dJ (jV s).1 1≠0\/oJ (jV s).1≠s.take 186 then(none,2) else(some (jV s).1,0):=by unfold gi;rw[if_neg h1]
 have hidx:∀W,(Instr.index 9 (.string (bs s)) (.int .i64 0)).run Tryz.prog W=.ok (.int .u8 (s[0].toNat:Int)) W:=fun W=>cF (P:=Tryz.prog) 9 Tryz.underlying9 s 0 s[0] h0 .i64 W
 have hF:jV s=(⟨(s[0].toNat:Nat),(fU (min (((s.drop 1).take 185).getD 24 0).toNat 6) (((s.drop 1).take 185).drop 25,false)).1,dF (Num.unw (((s.drop 1).take 185).take 8)),dF (Num.unw ((((s.drop 1).take 185).drop 8).take 8)),Num.unw ((((s.drop 1).take 185).drop 16).take 8)⟩,(fU (min (((s.drop 1).take 185).getD 24 0).toNat 6) (((s.drop 1).take 185).drop 25,false)).2):=by
  unfold jV;rw[List.getD_eq_getElem?_getD,h0];rfl
 have hkn:=s[0].toNat_lt
 generalize s[0].toNat=kn at*
 have hw64:wrap64 (kn:Int)=kn:=by unfold wrap64;omega
 generalize hXe:(s.drop 1).take 185=X at*
 go_enter Tryz.func398,Tryz.ntmps398
 go_wp2_with fail
 have hC0:gC ((w.alloc (.cells #[] 240)).alloc (.cells #[.string (bs X),.bool false] 210)) (w.heap.size+1) X false:=by
  have:=ag.new (w.alloc (.cells #[] 240)) 210 #[.string (bs X),.bool false];rwa[aY] at this
 have hb0:Below w.heap.size w ((w.alloc (.cells #[] 240)).alloc (.cells #[.string (bs X),.bool false] 210)):=((Below.refl _ w).alloc (aF _) _).alloc (by simp) _
 have hf0:ag ((w.alloc (.cells #[] 240)).alloc (.cells #[.string (bs X),.bool false] 210)) w.heap.size 240 #[]:=(ag.new w _ _).alloc _
 generalize (w.alloc (.cells #[] 240)).alloc (.cells #[.string (bs X),.bool false] 210)=W0 at*
 have v1:Num.getWide X=some (Num.unw (X.take 8),8):=by unfold Num.getWide;rw[if_neg (by omega)]
 have v2:Num.getWide (X.drop 8)=some (Num.unw ((X.drop 8).take 8),8):=by unfold Num.getWide;rw[if_neg (by simp;omega)]
 have v3:Num.getWide (X.drop 16)=some (Num.unw ((X.drop 16).take 8),8):=by unfold Num.getWide;rw[if_neg (by simp;omega)]
 have b1:=(Num.getWide_only _ _ _ v1).1
 have b2:=(Num.getWide_only _ _ _ v2).1
 have b3:=(Num.getWide_only _ _ _ v3).1
 have k1:∀W,gC W (w.heap.size+1) X false->_:=fun W hW=>ol (w.heap.size+1) X _ 8 (X.drop 8) W hW (by omega) v1 rfl
 have k2:∀W,gC W (w.heap.size+1) (X.drop 8) false->_:=fun W hW=>ol (w.heap.size+1) (X.drop 8) _ 8 (X.drop 16) W hW (by simp;omega) v2 (by rw[List.drop_drop])
 have k3:∀W,gC W (w.heap.size+1) (X.drop 16) false->_:=fun W hW=>ol (w.heap.size+1) (X.drop 16) _ 8 (X.drop 24) W hW (by simp;omega) v3 (by rw[List.drop_drop])
 have K1:=af k1
 have K2:=af k2
 have K3:=af k3
 clear k1 k2 k3 v1 v2 v3
 generalize Num.unw (X.take 8)=n1 at*
 generalize Num.unw ((X.drop 8).take 8)=n2 at*
 generalize Num.unw ((X.drop 16).take 8)=n3 at*
 have z1:=vC n1 b1
 have z2:=vC n2 b2
 refine fy (tZ W0 (w.heap.size+1) [(X,false),(X.drop 8,false),(X.drop 16,false),(X.drop 24,false)] (X,false) rfl hC0) [3,5,7] rfl (by kernel_rfl) (by kernel_rfl) rfl (by kernel_rfl) (by kernel_rfl) (by kernel_rfl) ?_
 (refine iK fun K hK=>?_;go_big_quiet_step (fail);refine hK _ ?_;clear hK K)
 (refine zi (v:=.int .u8 (kn:Int)) (by kernel_rfl) (by kernel_rfl) (fun _ _ h=>by cases h) (by kernel_rfl) (by kernel_rfl) (fun W hW=>by show (do pure (Next.value (<-Instr.index 9 (.string (bs s)) (.int .i64 0))):Sem Next).run _ W=_;rw[Sem.run_bind,hidx W];rfl) (oP (type:=0) (pos:= "") (fun K hK=>?_));go_big_quiet_step (fail);refine hK _ ?_;clear hK K)
 (refine iK fun K hK=>?_;go_big_quiet_step (fail);refine hK _ ?_;clear hK K)
 (refine Au 0 (f:=141) (args:=#[.pointer (some ⟨w.heap.size+1,0,none⟩)]) (v:=.int .u64 (n1:Int)) (fun W hW=>mU hW rfl rfl (K1.out W)) fun K hK=>?_;go_big_quiet_step (fail);refine hK _ ?_;clear hK K)
 (refine iK fun K hK=>?_;go_big_quiet_step (fail);refine hK _ ?_;clear hK K)
 (refine Au 1 (f:=141) (args:=#[.pointer (some ⟨w.heap.size+1,0,none⟩)]) (v:=.int .u64 (n2:Int)) (fun W hW=>mU hW rfl rfl (K2.out W)) fun K hK=>?_;go_big_quiet_step (fail);refine hK _ ?_;clear hK K)
 (refine iK fun K hK=>?_;go_big_quiet_step (fail);refine hK _ ?_;clear hK K)
 (refine Au 2 (f:=141) (args:=#[.pointer (some ⟨w.heap.size+1,0,none⟩)]) (v:=.int .u64 (n3:Int)) (fun W hW=>mU hW rfl rfl (K3.out W)) fun K hK=>?_;go_big_quiet_step (fail);refine hK _ ?_;clear hK K)
 (refine Kj (v:=.agg #[.int .i64 (kn:Int),.slice none 0 0,.int .i64 (dF n1),.int .i64 (dF n2),.int .u64 (n3:Int)]) (fun W hW=>by skip;go_simp) fun K hK=>?_;go_big_quiet_step (fail);refine hK _ ?_;clear hK K)
 have hgl:=hC0.lt
 refine pI (d:=8) (r:=fun x w1=>∃b,x=.pointer (some ⟨b,0,none⟩)/\W0.heap.size<=b/\ag w1 b 108 #[.int .i64 0,.slice none 0 0,.int .i64 0,.int .i64 0,.int .u64 0]) (by kernel_rfl) ?_ (by kernel_rfl) (fun _ _ h=>by cases h) (by kernel_rfl) rfl (fun W hW=>?_) ?_
 ·rintro x W W' ⟨b,rfl,hb,hB⟩ hk;exact⟨b,rfl,hb,hB.keptK hk (by omega)⟩
 ·obtain⟨q,hk,_⟩:=hW;exact⟨.pointer (some ⟨W.heap.size,0,none⟩),W.alloc (.cells #[.int .i64 0,.slice none 0 0,.int .i64 0,.int .i64 0,.int .u64 0] 108),by go_simp,ai W _,W.heap.size,rfl,hk.size,ag.new _ _ _⟩
 refine xW ?_
 rintro W1 hK1 ⟨_,c3,hc3,hC3⟩
 obtain rfl:c3=(X.drop 24,false):=(aA hc3).symm
 simp only[az]
 rintro x ⟨b,rfl,hbb,hB⟩
 simp only[Act.put,List.setIfInBounds_toArray,List.set_cons_succ,List.set_cons_zero]
 have hb1:Below w.heap.size w W1:=hb0.trans (ak.below hK1 hb0.size (fun k hk=>by omega))
 have hf1:ag W1 w.heap.size 240 #[]:=hf0.keptK hK1 (by omega)
 have hbg:b≠w.heap.size+1:=by omega
 have hbw:w.heap.size+2<=b:=by omega
 have c0:W1.cell? ⟨b,0,none⟩=some (.int .i64 0):=(ag.cell hB 0).trans rfl
 have c1:W1.cell? ⟨b,1,none⟩=some (.slice none 0 0):=(ag.cell hB 1).trans rfl
 have c2:W1.cell? ⟨b,2,none⟩=some (.int .i64 0):=(ag.cell hB 2).trans rfl
 have c4:W1.cell? ⟨b,3,none⟩=some (.int .i64 0):=(ag.cell hB 3).trans rfl
 have c5:W1.cell? ⟨b,4,none⟩=some (.int .u64 0):=(ag.cell hB 4).trans rfl
 have f0:=ag.frozen hB 0
 have f1:=ag.frozen hB 1
 have f2:=ag.frozen hB 2
 have f3:=ag.frozen hB 3
 have f4:=ag.frozen hB 4
 clear hidx he1 K1 K2 K3 hK1 hC0 hb0 hf0 hbb hgl hc3
 go_wp2_with fail
 obtain⟨hB2,hK2⟩:=Lq hB (.int .i64 (kn:Int)) (.slice none 0 0) (.int .i64 (dF n1)) (.int .i64 (dF n2)) (.int .u64 (n3:Int))
 have hC4:=ag.keptK hC3 hK2 (fun e=>hbg e.symm)
 have hf2:=hf1.keptK hK2 (fun e=>by omega)
 have hb2:=hb1.trans (ak.below hK2 hb1.size (fun k hk=>by omega))
 clear hB hC3 hf1 hb1 hK2 c0 c1 c2 c4 c5 f0 f1 f2 f3 f4
 generalize ((((W1.setCell ⟨b,0,none⟩ (.int .i64 (kn:Int))).setCell ⟨b,1,none⟩ (.slice none 0 0)).setCell ⟨b,2,none⟩ (.int .i64 (dF n1))).setCell ⟨b,3,none⟩ (.int .i64 (dF n2))).setCell ⟨b,4,none⟩ (.int .u64 (n3:Int))=W2 at*
 have hd24:X.drop 24=X.getD 24 0::X.drop 25:=by
  rw[List.getD_eq_getElem?_getD,aW (show 24<X.length by omega),List.drop_eq_getElem_cons (show 24<X.length by omega)];rfl
 have q:=af (uy (w.heap.size+1) (X.drop 24) 1 [X.getD 24 0] 1 (X.drop 25) W2 hC4 (by simp;omega) (by omega) (by omega) (by rw[hd24];exact Num.getTake_some _ 1 (by simp)) (by rw[hd24];rfl))
 have hX25:(X.drop 25).length=160:=by simp;omega
 clear hd24
 have hyn:=(X.getD 24 0).toNat_lt
 have hy0:∀W,(Instr.index 9 (.string (bs [X.getD 24 0])) (.int .i64 0)).run Tryz.prog W=.ok (.int .u8 ((X.getD 24 0).toNat:Int)) W:=fun W=>cF (P:=Tryz.prog) 9 Tryz.underlying9 [X.getD 24 0] 0 (X.getD 24 0) rfl .i64 W
 generalize X.getD 24 0=y at*
 go_wp2_with fail
 refine q.out.mono ?_
 rintro e W3 ⟨rfl,hC5,hg5⟩
 go_wp2_with fail
 have hmn:min (y.toNat:Int) 6=((min y.toNat 6:Nat):Int):=by omega
 rw[hmn]
 have hN6:min y.toNat 6<=6:=Nat.min_le_right _ _
 clear hmn hy0 hyn
 generalize min y.toNat 6=N at*
 have hk3:ak W2 W3 (fun k=>k=w.heap.size+1):=ak.of_grown hg5 fun k e=>(aA e).symm
 have hB3:=hB2.keptK hk3 hbg
 have hf3:=hf2.keptK hk3 (fun e=>by omega)
 have hb3:=hb2.trans (ak.below hk3 hb2.size (fun k hk=>by omega))
 clear hk3 hg5 hB2 hf2 hb2 hC4 q
 generalize hX5:X.drop 25=X5 at*
 go_loopw [29] (fun vi wr=>∃(i:Nat) (L:List Lb) (c:CS) (vl:Value),i<=N/\vi=.int .i64 (i:Int)/\L.length=i/\(fU N (X5,false))=(L++(fU (N-i) c).1,(fU (N-i) c).2)/\
  (∀x∈L,x.1.length<=1048576/\x.2.length<=1048576)/\c.1.length<=160/\gC wr (w.heap.size+1) c.1 c.2/\ag wr b 108 #[.int .i64 (kn:Int),vl,.int .i64 (dF n1),.int .i64 (dF n2),.int .u64 (n3:Int)]/\
  wr.ownsRow w.heap.size 73 2 vl L.length (aQ L)/\ag wr w.heap.size 240 #[]/\Below w.heap.size w wr) (fun vi _=>N-(intOf vi).toNat)
 case atStart=>exact⟨0,[],(X5,false),.slice none 0 0,Nat.zero_le _,rfl,rfl,by simp,by simp,by simp only;omega,hC5,hB3,eE,hf3,hb3⟩
 clear hC5 hB3 hf3 hb3
 obtain⟨_,L,c,vl,hi,rfl,rfl,hfx,hLb,hcl,hC,hB,hrow,hf,hb⟩:=hrel
 have hvg:vl.ownBlock≠some (w.heap.size+1):=fun e=>by
  have h1:=aX hrow e;rw[aN hC] at h1;simp at h1
 have hvb:vl.ownBlock≠some b:=fun e=>by
  have h1:=aX hrow e;rw[aN hB] at h1;simp at h1
 have hvf:vl.ownBlock≠some w.heap.size:=fun e=>by
  have h1:=aX hrow e;rw[aN hf] at h1;simp at h1
 rcases(show L.length<N\/L.length=N by omega) with hil|hil
 ·obtain⟨i0,hin,hz0,hz1,hz2⟩:=info_parts (show (Tryz.prog.info? 73).map (fun i=>(i.zero,i.size,i.bytes))=some (some (.agg #[.string ⟨#[]⟩,.string ⟨#[]⟩]),2,32) by kernel_rfl);have hfx2:fU N (X5,false)=(L++[(fT c,fT (fN c))]++(fU (N-(L.length+1)) (fN (fN c))).1,(fU (N-(L.length+1)) (fN (fN c))).2):=by
   rw[hfx,show N-L.length=N-(L.length+1)+1 by omega]
   conv=>lhs;unfold fU
   simp
  have hc2l:(fN (fN c)).1.length<=160:=aK (ev _ _) (aK (ev _ _) hcl);have hc1l:(fN c).1.length<=160:=aK (ev _ _) hcl;have t1:(fT c).length<=1048576:=Hd c (by omega);have t2:(fT (fN c)).length<=1048576:=Hd (fN c) (by omega);have k1:=af (fun W hW=>CF (w.heap.size+1) c W hW (by omega));have k2:=af (fun W hW=>CF (w.heap.size+1) (fN c) W hW (by omega));have hltr:∀k,vl.ownBlock=some k->k<wr.heap.size:=fun k hk=>jK hrow hk;have HS:=af hfx2;clear hfx hfx2;generalize hx1:fN c=c1 at*;generalize fN c1=c2 at*;generalize fT c=a1 at*;generalize fT c1=a2 at*;obtain⟨sa,sc,rfl⟩:=aH hrow;have hcell:∀x:PW (md wr (w.heap.size+1) [c,c1,c2,c2] c rfl hC (.slice sa L.length sc) (bg wr (.slice sa L.length sc) 2 L.length [.string (bs a1),.string (bs a2)]) 2 hltr),x.w.cell? ⟨b,1,none⟩=some (.slice sa L.length sc):=fun x=>by
   obtain⟨q,hk,_⟩:=x.2;exact((hB.keptK hk (fun e=>e.elim hbg (fun e=>hvb e))).cell 1).trans rfl
  go_wp2_with fail
  refine fy (md wr (w.heap.size+1) [c,c1,c2,c2] c rfl hC (.slice sa L.length sc) (bg wr (.slice sa L.length sc) 2 L.length [.string (bs a1),.string (bs a2)]) 2 hltr) [2,3,6] rfl (by kernel_rfl) (by kernel_rfl) rfl (by kernel_rfl) (by kernel_rfl) (by kernel_rfl) ?_;iterate 2 (refine iK fun K hK=>?_;go_big_quiet_step (fail);refine hK _ ?_;clear hK K)
  (refine Au 0 (f:=282) (args:=#[.pointer (some ⟨w.heap.size+1,0,none⟩),.int .i64 12]) (v:=.string (bs a1)) (fun W hW=>vh hvg hW rfl rfl (by omega) (k1.out W)) fun K hK=>?_;go_big_quiet_step (fail);refine hK _ ?_;clear hK K)
  (refine Au 1 (f:=282) (args:=#[.pointer (some ⟨w.heap.size+1,0,none⟩),.int .i64 12]) (v:=.string (bs a2)) (fun W hW=>vh hvg hW rfl rfl (by omega) (k2.out W)) fun K hK=>?_;go_big_quiet_step (fail);refine hK _ ?_;clear hK K)
  (refine Kj (v:=.agg #[.string (bs a1),.string (bs a2)]) (fun W hW=>by skip;go_simp) fun K hK=>?_;go_big_quiet_step (fail);refine hK _ ?_;clear hK K);refine Bt (d:=36) (mm:=1) (news:=[.string (bs a1),.string (bs a2)]) (by kernel_rfl) (by kernel_rfl) (fun _ _ h=>by cases h) (by kernel_rfl) rfl 73 (fun W=>by go_simp) ?_;refine GF (d:=37) (s:=32) (x:=36) (c:=c2) rfl (by kernel_rfl) (by kernel_rfl) rfl rfl rfl Tryz.underlying65 hin hz0 hz1 hz2 rfl (by decide) rfl rfl rfl hrow rfl (by simp[Value.oneCell']) (by unfold maxLen;omega) (by omega) hb.size hvg rfl rfl ?_
  (refine iK fun K hK=>?_;go_big_quiet_step (fail);refine hK _ ?_;clear hK K);refine xW ?_;rintro w5 hK5 ⟨hk5,⟨cc,hcc,hC5⟩,_⟩;obtain rfl:cc=c2:=(aA hcc).symm;simp only[az];rintro v' ⟨hown,_⟩ z _;simp only[Act.put,List.setIfInBounds_toArray,List.set_cons_succ,List.set_cons_zero];obtain⟨sa',sc',rfl⟩:=aH hown;have hB5:=hB.keptK hk5 (fun e=>e.elim hbg (fun e=>hvb e));have hf5:=hf.keptK hk5 (fun e=>e.elim (fun e=>by omega) (fun e=>hvf e));have hb5:=hb.trans (ak.below hk5 hb.size (fun k hk=>by
   rcases hk with e|e
   ·omega
   ·exact(hrow.lt k e).1))
  have e1:w5.cell? ⟨b,1,none⟩=some (.slice sa L.length sc):=(ag.cell hB5 1).trans rfl;have f1:=ag.frozen hB5 1;have hnb:(Value.slice sa' (L.length+1) sc').ownBlock≠some b:=fun e=>by
   have h1:=aX hown e;rw[aN hB5] at h1;simp at h1
  have hk6:ak w5 (w5.setCell ⟨b,1,none⟩ (.slice sa' (L.length+1) sc')) (fun k=>k=b):=ak.of_grown (ap _ _ _ _) fun k e=>(aA e).symm;have hB6:ag (w5.setCell ⟨b,1,none⟩ (.slice sa' (L.length+1) sc')) b 108 #[.int .i64 (kn:Int),.slice sa' (L.length+1) sc',.int .i64 (dF n1),.int .i64 (dF n2),.int .u64 (n3:Int)]:=ag.set_ hB5 1 _;have hC6:=ag.keptK hC5 hk6 (fun e=>hbg e.symm);have hf6:=hf5.keptK hk6 (fun e=>by omega);have hr6:=aw hown hk6 (fun k e e2=>hnb (e2▸e));have hb6:=hb5.trans (ak.below hk6 hb5.size (fun k hk=>by omega));have hrl:aQ (L++[(a1,a2)])=aQ L++[.string (bs a1),.string (bs a2)]:=by rw[js];rfl
  clear k1 k2 hcell hK5 hk5 hC5 hown hB5 hf5 hb5 hk6 hrow hB hC hf hb hltr hvg hvb hvf hnb;go_wp2_with fail
  go_roundw
  case rel=>
   refine⟨L.length+1,L++[(a1,a2)],cc,_,by omega,by go_num,by simp,HS.out,?_,hc2l,hC6,hB6,?_,hf6,hb6⟩
   ·intro x hx;rcases List.mem_append.1 hx with h|h
    ·exact hLb x h
    ·obtain rfl:=List.mem_singleton.1 h;exact⟨t1,t2⟩
   ·rw[hrl,aG];exact hr6
  case measure=>simp[intOf];omega
 ·subst hil;rw[Nat.sub_self] at hfx;have hfx2:fU L.length (X5,false)=(L,c):=by rw[hfx];unfold fU;simp
  rw[hfx2] at hF;clear hfx hfx2 hX5;have hL6:L.length<=6:=by omega
  have hLo:=ml hrow (by omega) hLb;have c1':=hC.c1;have g1:=aj c1';have d0:wr.cell? ⟨b,0,none⟩=some (.int .i64 (kn:Int)):=(ag.cell hB 0).trans rfl;have d1:wr.cell? ⟨b,1,none⟩=some vl:=(ag.cell hB 1).trans rfl;have d2:wr.cell? ⟨b,2,none⟩=some (.int .i64 (dF n1)):=(ag.cell hB 2).trans rfl;have d3:wr.cell? ⟨b,3,none⟩=some (.int .i64 (dF n2)):=(ag.cell hB 3).trans rfl;have d4:wr.cell? ⟨b,4,none⟩=some (.int .u64 (n3:Int)):=(ag.cell hB 4).trans rfl;obtain⟨va,vc,rfl⟩:=aH hrow;have g2:=aj d0;have g3:=aj d1;have g4:=aj d2;have g5:=aj d3;have g6:=aj d4;have hok:(⟨kn,L,dF n1,dF n2,n3⟩:Rc).ok:=by
   have e1:=Df n1 b1;have e2:=Df n2 b2;exact⟨by simp only;omega,by simp only;omega,e1.1,e1.2,e2.1,e2.2,b3⟩
  rw[hF] at hG;simp only at hG;have HW:=af (show ∀w',gi s=(none,2)->rx s (.returned (.tuple #[.slice none 0 0,.string (bs s),.int .i64 2])) w' from fun w' e=>by unfold rx;rw[e]);have HT:=af (show ∀w' v sl,gi s=(some ⟨kn,L,dF n1,dF n2,n3⟩,0)->Ik w' v [(⟨kn,L,dF n1,dF n2,n3⟩,sl)]->rx s (.returned (.tuple #[v,.string (bs (s.drop 186)),.int .i64 0])) w' from fun w' v sl e h=>by unfold rx;rw[e];exact⟨v,sl,rfl,h⟩);have qV:=af (fun (W:World) (hW:bZ wr W)=>pW ⟨kn,L,dF n1,dF n2,n3⟩ (.slice va L.length vc) 1 W hok (hLo.1.below hW) (by omega) (by omega));have qO:=af (fun (W:World) (hW:bZ wr W)=>C8 ⟨kn,L,dF n1,dF n2,n3⟩ (.slice va L.length vc) W hok (hLo.1.below hW) ⟨by simp only;omega,by simp only;omega⟩ hL6);rw[show rG ⟨kn,L,dF n1,dF n2,n3⟩ (.slice va L.length vc)=.agg #[.int .i64 (kn:Int),.slice va L.length vc,.int .i64 (dF n1),.int .i64 (dF n2),.int .u64 (n3:Int)] from rfl] at qV qO;generalize hxx:(⟨kn,L,dF n1,dF n2,n3⟩:Rc)=xx at*;generalize oJ xx=ob at*;have HG:=af hG;clear hG hF;cases hcb:c.2 with
  |true=>
   have HE:=af (HW.out · (by rw[HG.out,if_pos (.inl hcb)]));clear HG HW HT qV qO;rw[hcb] at g1;go_wp2_with fail
   refine ed ?_;iterate 3 (refine bH fun K hK=>?_;go_big_quiet_step (fail);refine hK _ ?_;clear hK K)
   iterate 3 (refine Bo fun K hK=>?_;go_big_quiet_step (fail);refine hK _ ?_;clear hK K)
   iterate 2 (refine bH fun K hK=>?_;go_big_quiet_step (fail);refine hK _ ?_;clear hK K)
   iterate 6 (refine Bo fun K hK=>?_;go_big_quiet_step (fail);refine hK _ ?_;clear hK K)
   (refine bH fun K hK=>?_;go_big_quiet_step (fail);refine hK _ ?_;clear hK K);refine eF ?_;intro w5 hb5;simp only[az];go_wp2_with fail
   go_ret3;exact⟨HE.out _,ay hb hb5⟩
  |false=>
   rw[hcb] at g1;generalize hve:dJ xx 1=ve at*;by_cases h0v:ve=0
   ·subst h0v;have he2:(bs s).extract 0 186=bs (s.take 186):=by rw[bV];rfl
    have he3:(bs s).extract 186 s.length=bs (s.drop 186):=by rw[bV,List.take_of_length_le (by simp)]
    generalize hst:s.take 186=st at*;by_cases hoe:ob=st
    ·have HE:=af (HT.out · · · (by rw[HG.out,if_neg (by simp[hcb,hoe])]));have hoz:(ob==st)=true:=by simpa using hoe
     clear HG HW HT;go_wp2_with fail
     refine ed ?_;iterate 4 (refine bH fun K hK=>?_;go_big_quiet_step (fail);refine hK _ ?_;clear hK K)
     (refine fP (f:=59) (args:=#[.agg #[.int .i64 (kn:Int),.slice va L.length vc,.int .i64 (dF n1),.int .i64 (dF n2),.int .u64 (n3:Int)],.int .i64 1]) (v:=.int .i64 0) (fun W hW=>qV.out W hW) fun K hK=>?_;go_big_quiet_step (fail);refine hK _ ?_;clear hK K);iterate 5 (refine bH fun K hK=>?_;go_big_quiet_step (fail);refine hK _ ?_;clear hK K)
     (refine fP (f:=399) (args:=#[.agg #[],.agg #[.int .i64 (kn:Int),.slice va L.length vc,.int .i64 (dF n1),.int .i64 (dF n2),.int .u64 (n3:Int)]]) (v:=.string (bs ob)) (fun W hW=>qO.out W hW) fun K hK=>?_;go_big_quiet_step (fail);refine hK _ ?_;clear hK K)
     (refine bH fun K hK=>?_;go_big_quiet_step (fail);refine hK _ ?_;clear hK K)
     (refine nt (v:=.string (bs st)) (fun _ _=>by go_simp) fun K hK=>?_;go_big_quiet_step (fail);refine hK _ ?_;clear hK K);iterate 2 (refine bH fun K hK=>?_;go_big_quiet_step (fail);refine hK _ ?_;clear hK K)
     refine eF ?_;intro w5 hb5;simp only[az];have f:∀{p:Addr} {v:Value},wr.cell? p=some v->w5.cell? p=some v:=fun h=>cu hb5 h;have g2:=aj (f d0);have g3:=aj (f d1);have g4:=aj (f d2);have g5:=aj (f d3);have g6:=aj (f d4);have h186':¬(s.length:Int)<186:=by omega
     go_wp2_with fail
     refine ed ?_
     (refine bH fun K hK=>?_;go_big_quiet_step (fail);refine hK _ ?_;clear hK K);refine jr 57 1 [.int .i64 (kn:Int),.slice va L.length vc,.int .i64 (dF n1),.int .i64 (dF n2),.int .u64 (n3:Int)] (by kernel_rfl) (fun _ _ h=>by cases h) (by kernel_rfl) rfl 108 (fun W=>by go_simp) ?_
     (refine bH fun K hK=>?_;go_big_quiet_step (fail);refine hK _ ?_;clear hK K)
     (refine nt (v:=.string (bs (s.drop 186))) (fun _ _=>by go_simp) fun K hK=>?_;go_big_quiet_step (fail);refine hK _ ?_;clear hK K);refine vy 57 4 (.inl rfl) rfl rfl tm rfl ?_;iterate 2 (refine bH fun K hK=>?_;go_big_quiet_step (fail);refine hK _ ?_;clear hK K)
     refine eF ?_;intro w6 hb6;simp only[az];rintro v4 ⟨p4,c4,rfl,_,hcl4⟩ z _;simp only[Act.put,List.setIfInBounds_toArray,List.set_cons_succ,List.set_cons_zero];go_wp2_with fail
     go_ret3;refine⟨HE.out _ _ (.slice va L.length vc) ⟨⟨p4,c4,rfl,?_⟩,fun z hz=>?_⟩,hb.trans ((ay hb5 hb6).mono hb.size)⟩
     ·rw[show aV [(xx,.slice va L.length vc)]=[.int .i64 (kn:Int),.slice va L.length vc,.int .i64 (dF n1),.int .i64 (dF n2),.int .u64 (n3:Int)] from by rw[<-hxx];rfl];exact hcl4
     ·obtain rfl:=List.mem_singleton.1 hz;refine⟨hok,?_⟩;have:=(hLo.below hb5).below hb6;rw[<-hxx];exact this
    ·have HE:=af (HW.out · (by rw[HG.out,if_pos (.inr (.inr hoe))]));have hoz:(ob != st)=true:=by simpa using hoe
     have hoz2:(ob==st)=false:=by simpa using hoe
     clear HG HW HT;go_wp2_with fail
     refine ed ?_;iterate 4 (refine bH fun K hK=>?_;go_big_quiet_step (fail);refine hK _ ?_;clear hK K)
     (refine fP (f:=59) (args:=#[.agg #[.int .i64 (kn:Int),.slice va L.length vc,.int .i64 (dF n1),.int .i64 (dF n2),.int .u64 (n3:Int)],.int .i64 1]) (v:=.int .i64 0) (fun W hW=>qV.out W hW) fun K hK=>?_;go_big_quiet_step (fail);refine hK _ ?_;clear hK K);iterate 5 (refine bH fun K hK=>?_;go_big_quiet_step (fail);refine hK _ ?_;clear hK K)
     (refine fP (f:=399) (args:=#[.agg #[],.agg #[.int .i64 (kn:Int),.slice va L.length vc,.int .i64 (dF n1),.int .i64 (dF n2),.int .u64 (n3:Int)]]) (v:=.string (bs ob)) (fun W hW=>qO.out W hW) fun K hK=>?_;go_big_quiet_step (fail);refine hK _ ?_;clear hK K)
     (refine bH fun K hK=>?_;go_big_quiet_step (fail);refine hK _ ?_;clear hK K)
     (refine nt (v:=.string (bs st)) (fun _ _=>by go_simp) fun K hK=>?_;go_big_quiet_step (fail);refine hK _ ?_;clear hK K);iterate 2 (refine bH fun K hK=>?_;go_big_quiet_step (fail);refine hK _ ?_;clear hK K)
     refine eF ?_;intro w5 hb5;simp only[az];go_wp2_with fail
     go_ret3;exact⟨HE.out _,ay hb hb5⟩
   ·have hvz:(ve != 0)=true:=by simpa using h0v
    have HE:=af (HW.out · (by rw[HG.out,if_pos (.inr (.inl h0v))]));clear HG HW HT qO;go_wp2_with fail
    refine ed ?_;iterate 4 (refine bH fun K hK=>?_;go_big_quiet_step (fail);refine hK _ ?_;clear hK K)
    (refine fP (f:=59) (args:=#[.agg #[.int .i64 (kn:Int),.slice va L.length vc,.int .i64 (dF n1),.int .i64 (dF n2),.int .u64 (n3:Int)],.int .i64 1]) (v:=.int .i64 ve) (fun W hW=>qV.out W hW) fun K hK=>?_;go_big_quiet_step (fail);refine hK _ ?_;clear hK K);iterate 3 (refine bH fun K hK=>?_;go_big_quiet_step (fail);refine hK _ ?_;clear hK K)
    iterate 6 (refine Bo fun K hK=>?_;go_big_quiet_step (fail);refine hK _ ?_;clear hK K)
    (refine bH fun K hK=>?_;go_big_quiet_step (fail);refine hK _ ?_;clear hK K);refine eF ?_;intro w5 hb5;simp only[az];go_wp2_with fail
    go_ret3;exact⟨HE.out _,ay hb hb5⟩
end
section
open Go.RowKit Go.Maps Go.WideMaps
attribute [local go_sem] am aq
def qI{w0:World}{B n m:Nat}{K:List (List UInt8)}{kv:Value}{D:DataW Unit}(_h:a8 w0 B n K kv m D)(K':List (List UInt8)):fM where
 ph q w:=(q=0/\bZ w0 w)\/(q≠0/\∃kv' D',a8 w B n K' kv' m D'/\dH w0 w (NF n m kv) (NF n m kv'))
 K _ _:=True
 w0:=w0
 start:=.inl ⟨rfl,bQ⟩
 refl _:=trivial
 trans _ _:=trivial
 grow _:=trivial
 stay h k:=by
  rcases h with⟨h1,h2⟩|⟨h1,kv',D',h2,h3⟩
  ·exact .inl ⟨h1,h2.trans (Below.mono k h2.size)⟩
  ·exact .inr ⟨h1,kv',D',h2.below k,h3.trans (dH.of_below k)⟩
section
variable {w0 w:World} {B n m:Nat} {K K':List (List UInt8)} {kv:Value} {D:DataW Unit} {h:a8 w0 B n K kv m D}
theorem Bm{q:Nat}(hw:(qI h K').ph q w):ak w0 w (NF n m kv):=by
 rcases hw with⟨_,h2⟩|⟨_,kv',D',h2,h3⟩
 ·exact ak.of_below h2
 ·exact h3.kept
theorem cM{p:Addr}{v:Value}(hp:w0.cell? p=some v)(hn:¬NF n m kv p.block):∀x:PW (qI h K'),x.w.cell? p=some v:=fun x=>by
 obtain⟨q,hq⟩:=x.2;exact(Bm hq).cell hp hn
theorem pG{f:FuncId}{args:Array Value}{v:Value}(hw:(qI h K').ph 0 w)
 (hc:bZ w0 w->Calls Tryz.prog f args w fun e w'=>e=.returned v/\∃kv' D',a8 w' B n K' kv' m D'/\dH w w' (NF n m kv) (NF n m kv')):
 Calls Tryz.prog f args w fun e w'=>e=.returned v/\(qI h K').K w w'/\(qI h K').ph (0+1) w':=by
 rcases hw with⟨_,h2⟩|⟨h1,_⟩
 ·refine(hc h2).mono ?_;rintro e w' ⟨rfl,kv',D',h3,h4⟩;exact⟨rfl,trivial,.inr ⟨by omega,kv',D',h3,(dH.of_below h2).trans h4⟩⟩
 ·exact absurd rfl h1
end
theorem dh{w:World}{B n m k:Nat}{K:List (List UInt8)}{kv:Value}{D:DataW Unit}{t:TypeId}(h:a8 w B n K kv m D)(hk:nf w k=some (some t))(h1:t≠173)(h2:t≠9):¬NF n m kv k:=fun e=>by
 rcases e with rfl|rfl|e
 ·rw[aN h.blk] at hk;simp at hk;exact h1 hk.symm
 ·rw[jG h.map] at hk;simp at hk
 ·rw[aX h.row e] at hk;simp at hk;exact h2 hk.symm
def bG(K:List (List UInt8))(x:Rc):List UInt8×List (List UInt8):=
 if x.kind=0 then(Num.small 0++(cl K x.labels).1++Num.small (aS x.t)++Num.wide x.v,(cl K x.labels).2)
 else if x.kind=1 then(Num.small 1++(cl K x.labels).1++Num.small (Num.zigI x.t).toNat++Num.small (Num.zigI x.u).toNat,(cl K x.labels).2)
 else(Num.small 2++Num.small (aS x.t),K)
theorem xe(K:List (List UInt8))(L:List Lb)(h:(dE L).length<=1048576):(cl K L).1.length<=1048600:=by
 unfold cl;split
 ·have:=Num.small_len (K.idxOf (dE L));simp only;omega
 ·have h1:=Num.small_len K.length;have h2:=Num.small_len (dE L).length;simp only[aG,Num.text_len];omega
section
variable {w:World} {B n m:Nat} {K:List (List UInt8)} {kv:Value} {D:DataW Unit}
theorem yM(x:Rc)(sl:Value)(h:a8 w B n K kv m D)(hx:x.ok)(hk:x.kind=0\/x.kind=1\/x.kind=2)(hL:∀W,Below B w W->aC W sl x.labels)(hl:(dE x.labels).length<=1048576)(hK:K.length<=1048576)(hB:B<=w.heap.size):
 Calls Tryz.prog 405 #[.agg #[.pointer (some ⟨n,0,none⟩)],rG x sl] w fun e w'=>e=.returned (.string (bs (bG K x).1))/\∃kv' D',a8 w' B n (bG K x).2 kv' m D'/\dH w w' (NF n m kv) (NF n m kv'):=by
 obtain⟨k,L,t,u,v⟩:=x
 obtain⟨x1,x2,x3,x4,x5,x6,x7⟩:=hx
 simp only at x1 x2 x3 x4 x5 x6 x7 hL hk hl
 rw[show rG ⟨k,L,t,u,v⟩ sl=.agg #[.int .i64 k,sl,.int .i64 t,.int .i64 u,.int .u64 (v:Int)] from rfl]
 have hb0:Below w.heap.size w ((w.alloc (.cells #[.pointer (some ⟨n,0,none⟩)] 242)).alloc (.cells #[.int .i64 k,sl,.int .i64 t,.int .i64 u,.int .u64 (v:Int)] 108)):=((Below.refl _ w).alloc (aF _) _).alloc (by simp) _
 have hn0:ag ((w.alloc (.cells #[.pointer (some ⟨n,0,none⟩)] 242)).alloc (.cells #[.int .i64 k,sl,.int .i64 t,.int .i64 u,.int .u64 (v:Int)] 108)) w.heap.size 242 #[.pointer (some ⟨n,0,none⟩)]:=(ag.new w _ _).alloc _
 have hk0:ag ((w.alloc (.cells #[.pointer (some ⟨n,0,none⟩)] 242)).alloc (.cells #[.int .i64 k,sl,.int .i64 t,.int .i64 u,.int .u64 (v:Int)] 108)) (w.heap.size+1) 108 #[.int .i64 k,sl,.int .i64 t,.int .i64 u,.int .u64 (v:Int)]:=by
  have:=ag.new (w.alloc (.cells #[.pointer (some ⟨n,0,none⟩)] 242)) 108 #[.int .i64 k,sl,.int .i64 t,.int .i64 u,.int .u64 (v:Int)];rwa[aY] at this
 obtain⟨sa,sc,rfl,_⟩:=id (hL w (bQ))
 generalize hW0:(w.alloc (.cells #[.pointer (some ⟨n,0,none⟩)] 242)).alloc (.cells #[.int .i64 k,.slice sa L.length sc,.int .i64 t,.int .i64 u,.int .u64 (v:Int)] 108)=W0 at*
 have hC:=af (fun (W:World) (hb:Below W0.heap.size W0 W)=>
  (show W.cell? ⟨w.heap.size,0,none⟩=some (.pointer (some ⟨n,0,none⟩))/\W.cell? ⟨w.heap.size+1,0,none⟩=some (.int .i64 k)/\W.cell? ⟨w.heap.size+1,1,none⟩=some (.slice sa L.length sc)/\W.cell? ⟨w.heap.size+1,2,none⟩=some (.int .i64 t)/\W.cell? ⟨w.heap.size+1,3,none⟩=some (.int .i64 u)/\W.cell? ⟨w.heap.size+1,4,none⟩=some (.int .u64 (v:Int))/\
   a8 W B n K kv m D/\nf W w.heap.size=some (some 242)/\nf W (w.heap.size+1)=some (some 108)/\dH w W (NF n m kv) (NF n m kv) from
   ⟨((ag.below hn0 hb hn0.lt).cell 0).trans rfl,((ag.below hk0 hb hk0.lt).cell 0).trans rfl,((ag.below hk0 hb hk0.lt).cell 1).trans rfl,((ag.below hk0 hb hk0.lt).cell 2).trans rfl,((ag.below hk0 hb hk0.lt).cell 3).trans rfl,((ag.below hk0 hb hk0.lt).cell 4).trans rfl,
     (h.below hb0).below hb,aN (ag.below hn0 hb hn0.lt),aN (ag.below hk0 hb hk0.lt),(dH.of_below hb0).trans (dH.of_below hb)⟩))
 obtain⟨c0,d0,d1,d2,d3,d4,_⟩:=hC.out W0 (bQ)
 have w1:=dI t
 have b1:=gz t
 have hKn:(k:Int)=0\/k=1\/k=2:=hk
 have qP:=af (fun (W:World) (hN:a8 W B n K kv m D) (hb:Below B w W)=>C3 L (.slice sa L.length sc) hN (hL W hb) hl hK (aK hB hb.size))
 have hpl:=xe K L hl
 clear hn0 hk0 hb0
 rcases hk with rfl|rfl|rfl
 ·have hS:bG K ⟨0,L,t,u,v⟩=(Num.small 0++(cl K L).1++Num.small (aS t)++Num.wide v,(cl K L).2):=rfl;rw[hS];have q1:=af (fun W=>aT 0 W (by omega) (by omega));rw[show ((0:Int).toNat)=0 from rfl] at q1;have l1:=Num.small_len 0;have q2:=af (fun W=>aT (aS t:Int) W (by omega) (by omega));rw[show ((aS t:Int).toNat)=aS t from rfl] at q2;have q3:=af (fun W=>cH (v:Int) W (by omega) (by omega));rw[show ((v:Int).toNat)=v from rfl] at q3;have l2:=Num.small_len (aS t);have l3:=Num.wide_len v;clear hS;rcases hpp:cl K L with⟨p1,K2⟩
  rw[hpp] at qP hpl;simp only at hpl;generalize Num.small 0=y1 at*;generalize Num.small (aS t)=y2 at*;generalize Num.wide v=y3 at*;have a1:∀W,(Op.stringOp .add (bs y1) (bs p1)).run Tryz.prog W=.ok (.string (bs (y1++p1))) W:=fun W=>aJ (P:=Tryz.prog) _ _ (by omega) W;have a2:∀W,(Op.stringOp .add (bs (y1++p1)) (bs y2)).run Tryz.prog W=.ok (.string (bs (y1++p1++y2))) W:=fun W=>aJ (P:=Tryz.prog) _ _ (by simp;omega) W;have a3:∀W,(Op.stringOp .add (bs (y1++p1++y2)) (bs y3)).run Tryz.prog W=.ok (.string (bs (y1++p1++y2++y3))) W:=fun W=>aJ (P:=Tryz.prog) _ _ (by simp;omega) W;generalize y1++p1++y2++y3=z3 at*;generalize y1++p1++y2=z2 at*;generalize y1++p1=z1 at*;go_enter Tryz.func405,Tryz.ntmps405
  go_wp2_with fail
  refine(q1.out _).mono ?_;rintro e W1 ⟨rfl,hb1⟩;obtain⟨e0,f0,f1,f2,f3,f4,hN1,t1,t2,hT1⟩:=hC.out W1 hb1;clear c0 d0 d1 d2 d3 d4 hC;have hbB:=dH.kept hT1;have hBel:=ak.below hbB hB h.ge;have HQ:=af (fun (W:World) (hW:bZ W1 W)=>qP.out W (hN1.below hW) (hBel.trans (Below.mono hW (aK hB hbB.size))));have n1':=dh hN1 t1 (by decide) (by decide);have n2':=dh hN1 t2 (by decide) (by decide);have g0:=cM (h:=hN1) (K':=K2) e0 n1';have g1:=cM (h:=hN1) (K':=K2) f1 n2';have g2:=cM (h:=hN1) (K':=K2) f2 n2';have g3:=cM (h:=hN1) (K':=K2) f3 n2';have g4:=cM (h:=hN1) (K':=K2) f4 n2';go_wp2_with fail
  refine cQ (qI hN1 K2) [5] rfl (by kernel_rfl) (by kernel_rfl) (by kernel_rfl) (by kernel_rfl) ?_;iterate 5 (refine iK fun K hK=>?_;go_big_quiet_step (fail);refine hK _ ?_;clear hK K)
  (refine Au 0 (f:=396) (args:=#[.pointer (some ⟨n,0,none⟩),.slice sa L.length sc]) (v:=.string (bs p1)) (fun W hW=>pG hW (HQ.out W)) fun K hK=>?_;go_big_quiet_step (fail);refine hK _ ?_;clear hK K);iterate 4 (refine iK fun K hK=>?_;go_big_quiet_step (fail);refine hK _ ?_;clear hK K)
  (refine Iq (f:=32) (args:=#[.int .u64 (aS t:Int)]) (v:=.string (bs y2)) (fun W hW=>q2.out W) fun K hK=>?_;go_big_quiet_step (fail);refine hK _ ?_;clear hK K);iterate 3 (refine iK fun K hK=>?_;go_big_quiet_step (fail);refine hK _ ?_;clear hK K)
  (refine Iq (f:=33) (args:=#[.int .u64 (v:Int)]) (v:=.string (bs y3)) (fun W hW=>q3.out W) fun K hK=>?_;go_big_quiet_step (fail);refine hK _ ?_;clear hK K);iterate 2 (refine iK fun K hK=>?_;go_big_quiet_step (fail);refine hK _ ?_;clear hK K)
  refine xW ?_;rintro W2 _ hp;obtain⟨_,kv2,D2,hN2,hT2⟩:=hp.resolve_left (fun e=>by cases e.1);simp only[az];clear g0 g1 g2 g3 g4;go_wp2_with fail
  go_ret;exact⟨rfl,_,_,hN2,hT1.trans hT2⟩
 ·have hS:bG K ⟨1,L,t,u,v⟩=(Num.small 1++(cl K L).1++Num.small (Num.zigI t).toNat++Num.small (Num.zigI u).toNat,(cl K L).2):=rfl;rw[hS];have q1:=af (fun W=>aT 1 W (by omega) (by omega));rw[show ((1:Int).toNat)=1 from rfl] at q1;have l1:=Num.small_len 1;have zb1:=Num.zig_bd t x3 x4;have zb2:=Num.zig_bd u x5 x6;have q4:=af (fun W=>(gL t W x3 x4).mono fun e w' ⟨h1,h2⟩=>(show e=Ending.returned (.int .u64 (Num.zigI t))/\bZ W w' from⟨h1,h2▸bQ⟩));have q5:=af (fun W=>(gL u W x5 x6).mono fun e w' ⟨h1,h2⟩=>(show e=Ending.returned (.int .u64 (Num.zigI u))/\bZ W w' from⟨h1,h2▸bQ⟩));have q2:=af (fun W=>aT (Num.zigI t) W zb1.1 zb1.2);have q3:=af (fun W=>aT (Num.zigI u) W zb2.1 zb2.2);have l2:=Num.small_len (Num.zigI t).toNat;have l3:=Num.small_len (Num.zigI u).toNat;clear hS zb1 zb2;rcases hpp:cl K L with⟨p1,K2⟩
  rw[hpp] at qP hpl;simp only at hpl;generalize Num.small 1=y1 at*;generalize Num.small (Num.zigI t).toNat=y2 at*;generalize Num.small (Num.zigI u).toNat=y3 at*;generalize Num.zigI t=zt at*;generalize Num.zigI u=zu at*;have a1:∀W,(Op.stringOp .add (bs y1) (bs p1)).run Tryz.prog W=.ok (.string (bs (y1++p1))) W:=fun W=>aJ (P:=Tryz.prog) _ _ (by omega) W;have a2:∀W,(Op.stringOp .add (bs (y1++p1)) (bs y2)).run Tryz.prog W=.ok (.string (bs (y1++p1++y2))) W:=fun W=>aJ (P:=Tryz.prog) _ _ (by simp;omega) W;have a3:∀W,(Op.stringOp .add (bs (y1++p1++y2)) (bs y3)).run Tryz.prog W=.ok (.string (bs (y1++p1++y2++y3))) W:=fun W=>aJ (P:=Tryz.prog) _ _ (by simp;omega) W;generalize y1++p1++y2++y3=z3 at*;generalize y1++p1++y2=z2 at*;generalize y1++p1=z1 at*;go_enter Tryz.func405,Tryz.ntmps405
  go_wp2_with fail
  refine(q1.out _).mono ?_;rintro e W1 ⟨rfl,hb1⟩;obtain⟨e0,f0,f1,f2,f3,f4,hN1,t1,t2,hT1⟩:=hC.out W1 hb1;clear c0 d0 d1 d2 d3 d4 hC;have hbB:=dH.kept hT1;have hBel:=ak.below hbB hB h.ge;have HQ:=af (fun (W:World) (hW:bZ W1 W)=>qP.out W (hN1.below hW) (hBel.trans (Below.mono hW (aK hB hbB.size))));have n1':=dh hN1 t1 (by decide) (by decide);have n2':=dh hN1 t2 (by decide) (by decide);have g0:=cM (h:=hN1) (K':=K2) e0 n1';have g1:=cM (h:=hN1) (K':=K2) f1 n2';have g2:=cM (h:=hN1) (K':=K2) f2 n2';have g3:=cM (h:=hN1) (K':=K2) f3 n2';have g4:=cM (h:=hN1) (K':=K2) f4 n2';go_wp2_with fail
  refine cQ (qI hN1 K2) [5] rfl (by kernel_rfl) (by kernel_rfl) (by kernel_rfl) (by kernel_rfl) ?_;iterate 5 (refine iK fun K hK=>?_;go_big_quiet_step (fail);refine hK _ ?_;clear hK K)
  (refine Au 0 (f:=396) (args:=#[.pointer (some ⟨n,0,none⟩),.slice sa L.length sc]) (v:=.string (bs p1)) (fun W hW=>pG hW (HQ.out W)) fun K hK=>?_;go_big_quiet_step (fail);refine hK _ ?_;clear hK K);iterate 3 (refine iK fun K hK=>?_;go_big_quiet_step (fail);refine hK _ ?_;clear hK K)
  (refine Iq (f:=181) (args:=#[.int .i64 t]) (v:=.int .u64 zt) (fun W hW=>q4.out W) fun K hK=>?_;go_big_quiet_step (fail);refine hK _ ?_;clear hK K)
  (refine Iq (f:=32) (args:=#[.int .u64 zt]) (v:=.string (bs y2)) (fun W hW=>q2.out W) fun K hK=>?_;go_big_quiet_step (fail);refine hK _ ?_;clear hK K);iterate 3 (refine iK fun K hK=>?_;go_big_quiet_step (fail);refine hK _ ?_;clear hK K)
  (refine Iq (f:=181) (args:=#[.int .i64 u]) (v:=.int .u64 zu) (fun W hW=>q5.out W) fun K hK=>?_;go_big_quiet_step (fail);refine hK _ ?_;clear hK K)
  (refine Iq (f:=32) (args:=#[.int .u64 zu]) (v:=.string (bs y3)) (fun W hW=>q3.out W) fun K hK=>?_;go_big_quiet_step (fail);refine hK _ ?_;clear hK K);iterate 2 (refine iK fun K hK=>?_;go_big_quiet_step (fail);refine hK _ ?_;clear hK K)
  refine xW ?_;rintro W2 _ hp;obtain⟨_,kv2,D2,hN2,hT2⟩:=hp.resolve_left (fun e=>by cases e.1);simp only[az];clear g0 g1 g2 g3 g4;go_wp2_with fail
  go_ret;exact⟨rfl,_,_,hN2,hT1.trans hT2⟩
 ·have hS:bG K ⟨2,L,t,u,v⟩=(Num.small 2++Num.small (aS t),K):=rfl;have q1:=af (fun W=>aT 2 W (by omega) (by omega));rw[show ((2:Int).toNat)=2 from rfl] at q1;have q2:=af (fun W=>aT (aS t:Int) W (by omega) (by omega));rw[show ((aS t:Int).toNat)=aS t from rfl] at q2;have l1:=Num.small_len 2;have l2:=Num.small_len (aS t);rw[hS];generalize Num.small 2=y1 at*;generalize Num.small (aS t)=y2 at*;have hadd:∀W,(Op.stringOp .add (bs y1) (bs y2)).run Tryz.prog W=.ok (.string (bs (y1++y2))) W:=fun W=>aJ (P:=Tryz.prog) _ _ (by omega) W;generalize y1++y2=y at*;clear hS hpl qP;go_enter Tryz.func405,Tryz.ntmps405
  go_wp2_with fail
  refine(q1.out _).mono ?_;rintro e W1 ⟨rfl,hb1⟩;obtain⟨e0,f0,f1,f2,f3,f4,hN1,t1,t2,hT1⟩:=hC.out W1 hb1;clear c0 d0 d1 d2 d3 d4;go_wp2_with fail
  refine(q2.out _).mono ?_;rintro e W2 ⟨rfl,hb2⟩;go_wp2_with fail
  go_ret;exact⟨rfl,_,_,hN1.below hb2,hT1.trans (dH.of_below hb2)⟩
end
def bl:List (List UInt8)->List Rc->Option (List UInt8)×List (List UInt8)
 |K,[]=>(some [],K)
 |K,x::R=>if 20000<(bG K x).1.length then(none,(bG K x).2)
  else((bl (bG K x).2 R).1.map (bI (bG K x).1++·),(bl (bG K x).2 R).2)
theorem jU(K:List (List UInt8))(L:List Lb):(cl K L).2.length<=K.length+1:=by
 unfold cl;split<;>simp
theorem iD(K:List (List UInt8))(x:Rc):(bG K x).2.length<=K.length+1:=by
 unfold bG;have:=jU K x.labels;split
 ·exact this
 ·split
  ·exact this
  ·simp
def Dl(x:Rc):Prop:=(x.kind=0\/x.kind=1\/x.kind=2)/\(dE x.labels).length<=1048576
def Kd (r:Option (List UInt8)):Value:=match r with
 |none=>.tuple #[.string ⟨#[]⟩,.bool false]
 |some s=>.tuple #[.string (bs s),.bool true]
section
variable {w:World} {B n m:Nat} {K:List (List UInt8)} {kv:Value} {D:DataW Unit}
theorem uE(R:List Rc)(v:Value)(wA:World)(hA:Below wA.heap.size wA w)(hAB:wA.heap.size<=B)(h:a8 w B n K kv m D)(hR:dz wA v R)(hf:∀x∈R,Dl x)(hK:K.length+R.length<=1048576)(hB:B<=w.heap.size):
 Calls Tryz.prog 402 #[.agg #[.pointer (some ⟨n,0,none⟩)],v] w fun e w'=>e=.returned (Kd (bl K R).1)/\(∃kv' D',((bl K R).1≠none->a8 w' B n (bl K R).2 kv' m D')/\dH w w' (NF n m kv) (NF n m kv')):=by
 obtain⟨a,c,rfl,hn,hc⟩:=hR
 have HC:=af hc
 clear hc
 have hb0:=ai w (.cells #[.pointer (some ⟨n,0,none⟩)] 242)
 have hk0:ag (w.alloc (.cells #[.pointer (some ⟨n,0,none⟩)] 242)) w.heap.size 242 #[.pointer (some ⟨n,0,none⟩)]:=ag.new _ _ _
 have hV:∀{r},(bl K R).1=r->Kd (bl K R).1=Kd r:=fun e=>by rw[e]
 have HV:=af (fun r (e:(bl K R).1=r)=>hV e)
 clear hV
 go_enter Tryz.func402,Tryz.ntmps402
 go_wp2_with fail
 go_loopw [6,12] (fun vs vi wr=>∃(i:Nat) (s:List UInt8) (Ki:List (List UInt8)) (kvi:Value) (Di:DataW Unit),i<=R.length/\vi=.int .i64 (i:Int)/\vs=.string (bs s)/\s.length<=i*30000/\Ki.length<=K.length+i/\
  bl K R=((bl Ki (R.drop i)).1.map (s++·),(bl Ki (R.drop i)).2)/\a8 wr B n Ki kvi m Di/\ag wr w.heap.size 242 #[.pointer (some ⟨n,0,none⟩)]/\dH w wr (NF n m kv) (NF n m kvi)/\Below B w wr) (fun _ vi _=>R.length-(intOf vi).toNat)
 case atStart=>exact⟨0,[],K,kv,D,Nat.zero_le _,rfl,rfl,by simp,by omega,by rw[List.drop_zero];cases bl K R;simp,h.below hb0,hk0,dH.of_below hb0,hb0.mono hB⟩
 clear hb0 hk0
 obtain⟨i,s,Ki,kvi,Di,hi,rfl,rfl,hsl,hKi,hP,hN,hk,hT,hbB⟩:=hrel
 rcases(show i<R.length\/i=R.length by omega) with hil|rfl
 ·have hfit:=hf R[i] (dM _);rw[List.drop_eq_getElem_cons hil] at hP;obtain⟨b,o,rfl,hRA⟩:=HC.out i _ (aW hil);have hAr:Below wA.heap.size wA wr:=hA.trans (hbB.mono hAB);have hLW:∀sl,aC wA sl R[i].labels->∀W,Below B wr W->aC W sl R[i].labels:=fun sl hsl W hW=>hsl.below (hAr.trans (hW.mono hAB));have hcell:∀{p:Addr} {v:Value},wA.cell? p=some v->wr.cell? p=some v:=fun h=>cu hAr h;obtain⟨hok,sl,e0,e1,hL,e2,e3,e4⟩:=hRA;have e0:=hcell e0;have e1:=hcell e1;have e2:=hcell e2;have e3:=hcell e3;have e4:=hcell e4;have HL:=af (hLW sl hL);obtain⟨va,vc,rfl,_⟩:=hL;have HPx:=af (fun (K':List (List UInt8))=>(show bl K' (R[i]::R.drop (i+1))=if 20000<(bG K' R[i]).1.length then(none,(bG K' R[i]).2)
   else((bl (bG K' R[i]).2 (R.drop (i+1))).1.map (bI (bG K' R[i]).1++·),(bl (bG K' R[i]).2 (R.drop (i+1))).2) from rfl))
  rw[HPx.out Ki] at hP;clear hLW hcell HPx;generalize R[i]=x at*;have hB':B<=wr.heap.size:=aK hB hT.kept.size;have hb1:=ai wr (.cells #[.int .i64 x.kind,.slice va x.labels.length vc,.int .i64 x.t,.int .i64 x.u,.int .u64 (x.v:Int)] 108);have q:=af (yM x (.slice va x.labels.length vc) (hN.below hb1) hok hfit.1 (fun W hW=>HL.out W ((hb1.mono hB').trans hW)) hfit.2 (by omega) (aK hB' hb1.size));rw[show rG x (.slice va x.labels.length vc)=.agg #[.int .i64 x.kind,.slice va x.labels.length vc,.int .i64 x.t,.int .i64 x.u,.int .u64 (x.v:Int)] from rfl] at q;have hkk:=iD Ki x;rcases hso:bG Ki x with⟨p1,K2⟩
  rw[hso] at q hP hkk;simp only at q hP hkk;have k0:wr.cell? ⟨w.heap.size,0,none⟩=some (.pointer (some ⟨n,0,none⟩)):=(ag.cell hk 0).trans rfl;have k0':=cu hb1 k0;by_cases h20:20000<p1.length
  ·rw[if_pos h20] at hP;have hP':(bl K R).1=none:=by rw[hP];rfl
   have HE:=af (HV.out none hP');have HP':=af hP';clear hP';have hd:decide (20000<p1.length)=true:=by simpa using h20
   have hd':decide (20000<(p1.length:Int))=true:=by simp;omega
   clear hP HV;go_wp2_with fail
   refine q.out.mono ?_;rintro e W1 ⟨rfl,kv1,D1,hN1,hT1⟩;go_wp2_with fail
   go_ret2;exact⟨by rw[HE.out];rfl,kv1,D1,fun e=>absurd HP'.out e,hT.trans ((dH.of_below hb1).trans hT1)⟩
  ·rw[if_neg h20] at hP;have hd:decide (20000<p1.length)=false:=by simpa using h20
   have hd':decide (20000<(p1.length:Int))=false:=by simp;omega
   have q2:=af (fun W=>hU p1 (by omega) W);have hfl:(bI p1).length<=20020:=by
    unfold bI;rw[dD,Num.text_len];have:=Num.small_len p1.length;omega
   generalize bI p1=fp at*;have hadd:∀W,(Op.stringOp .add (bs s) (bs fp)).run Tryz.prog W=.ok (.string (bs (s++fp))) W:=fun W=>aJ (P:=Tryz.prog) _ _ (by omega) W;have hs2:(s++fp).length<=(i+1)*30000:=by rw[aG];omega
   have HP2:=af (show bl K R=((bl K2 (R.drop (i+1))).1.map ((s++fp)++·),(bl K2 (R.drop (i+1))).2) by
    rw[hP]
    cases (bl K2 (R.drop (i+1))).1<;>simp)
   clear hP;generalize s++fp=s2 at*;go_wp2_with fail
   refine q.out.mono ?_;rintro e W1 ⟨rfl,kv1,D1,hN1,hT1⟩;have hTt:=(dH.of_below (F:=NF n m kvi) hb1).trans hT1;have hk1:=hk.keptK hTt.kept (dh hN (aN hk) (by decide) (by decide));have hbb:=hbB.trans (ak.below hTt.kept hB' hN.ge);clear q hk;go_wp2_with fail
   refine(q2.out _).mono ?_;rintro e W2 ⟨rfl,hb2⟩;go_wp2_with fail
   go_roundw
   case rel=>exact⟨i+1,s2,K2,kv1,D1,by omega,by go_num,rfl,hs2,by omega,HP2.out,hN1.below hb2,ag.below hk1 hb2 hk1.lt,hT.trans (hTt.trans (dH.of_below hb2)),hbb.trans (Below.mono hb2 (aK hB' hTt.kept.size))⟩
   case measure=>simp[intOf];omega
 ·rw[List.drop_length] at hP;have hP2:bl K R=(some s,Ki):=by rw[hP];simp[bl]
  have HE:=af (HV.out (some s) (by rw[hP2]));clear hP HV;go_wp2_with fail
  go_ret2;exact⟨by rw[HE.out];rfl,kvi,Di,fun _=>by rw[hP2];exact hN,hT⟩
end
theorem lj{P:Program}{fn:Func}{p u:Tmp}{ty:TypeId}(h:fn.results=#[.cell p ty,.tmp u])(tmps:Array Value)(w:World)(g:Nat)(tb:TypeId)(cs:Array Value)(d:TypeDesc)
 (hp:tmps.getD p undef=.pointer (some ⟨g,0,none⟩)) (hg:ag w g tb cs)
 (hu:P.underlying ty=some d) (hd:(match d with|.struct _|.array _ _=>true|_=>false)=true) (hi:(P.info? ty).map (·.size)=some cs.size):
 (results fn tmps).run P w=.ok (.tuple #[.agg cs,tmps.getD u undef]) w:=by
 have hp':tmps[p]?.getD undef=.pointer (some ⟨g,0,none⟩):=by simpa using hp
 simp[results,h,hp',asAddr,run_loadVar_row w g tb ty cs (0,0) d hg hu hd hi]
theorem Cj{W:World}{b:Nat}{T:TypeId}{u0 u1 u2 u3 u4:Value}(h:ag W b T #[u0,u1,u2,u3,u4]):
 (W.cell? ⟨b,0,none⟩=some u0/\W.cell? ⟨b,1,none⟩=some u1/\W.cell? ⟨b,2,none⟩=some u2/\W.cell? ⟨b,3,none⟩=some u3/\W.cell? ⟨b,4,none⟩=some u4)/\
  W.frozen? ⟨b,0,none⟩=false/\W.frozen? ⟨b,1,none⟩=false/\W.frozen? ⟨b,2,none⟩=false/\W.frozen? ⟨b,3,none⟩=false/\W.frozen? ⟨b,4,none⟩=false:=
 ⟨⟨(ag.cell h 0).trans rfl,(ag.cell h 1).trans rfl,(ag.cell h 2).trans rfl,(ag.cell h 3).trans rfl,(ag.cell h 4).trans rfl⟩,ag.frozen h 0,ag.frozen h 1,ag.frozen h 2,ag.frozen h 3,ag.frozen h 4⟩
theorem ak.new_keep{a b c:World}{S:Nat->Prop}{g:Nat}(h:ak a b S)(k:ak b c (fun k=>k=g))(hg:a.heap.size<=g):ak a c S:=
 ⟨k.os.trans h.os,k.tape.trans h.tape,k.output.trans h.output,aK h.size k.size,fun i hi hn=>(k.block i (dU hi h.size) (by omega)).trans (h.block i hi hn)⟩
def qX(smp:CS->(Int×Nat)×CS)(K:List (List UInt8))(c:CS):Option (Rc×List (List UInt8))×CS:=
 if (sN c).2=true\/2<sV c then(none,sN c)
 else if sV c=2 then
  if (sN (sN c)).2=true then(none,sN (sN c)) else(some (⟨2,[],dF (sV (sN c)).toNat,0,0⟩,K),sN (sN c))
 else match jn K (sN c) with
  |(none,c2)=>(none,c2)
  |(some (L,K'),c2)=>
   if sV c=0 then
    if (smp c2).2.2=true then(none,(smp c2).2) else(some (⟨0,L,(smp c2).1.1,0,(smp c2).1.2⟩,K'),(smp c2).2)
   else if (sN (sN c2)).2=true then(none,sN (sN c2)) else(some (⟨1,L,Num.zagI (sV c2),Num.zagI (sV (sN c2)),0⟩,K'),sN (sN c2))
def wE (w0:World)(g:Nat)(T:TypeId)(cs':Array Value):fM where
 ph q w:=(q=0/\bZ w0 w)\/(q≠0/\ak w0 w (fun k=>k=g)/\ag w g T cs')
 K _ _:=True
 w0:=w0
 start:=.inl ⟨rfl,bQ⟩
 refl _:=trivial
 trans _ _:=trivial
 grow _:=trivial
 stay h k:=by
  rcases h with⟨h1,h2⟩|⟨h1,h2,h3⟩
  ·exact .inl ⟨h1,h2.trans (Below.mono k h2.size)⟩
  ·exact .inr ⟨h1,h2.trans (ak.of_below k),ag.below h3 k h3.lt⟩
theorem dd{w0:World}{g:Nat}{T:TypeId}{cs':Array Value}{p:Addr}{v:Value}(hp:w0.cell? p=some v)(hn:p.block≠g):∀x:PW (wE w0 g T cs'),x.w.cell? p=some v:=fun x=>by
 obtain⟨q,hq⟩:=x.2;rcases hq with⟨_,h2⟩|⟨_,h2,_⟩
 ·exact(ak.of_below (S:=fun k=>k=g) h2).cell hp hn
 ·exact h2.cell hp hn
theorem xf(K:List (List UInt8))(c:CS):(jn K c).2.1.length<=c.1.length:=by
 have h1:(sN c).1.length<=c.1.length:=ev _ _;have h2:(nT (sN c) 600).1.length<=c.1.length:=aK (ev _ _) h1;unfold jn;split
 ·exact h1
 ·split
  ·exact h1
  ·split<;>exact h2
section
variable {w:World} {B n m gc:Nat} {K:List (List UInt8)} {kv:Value} {D:DataW Unit}
end
def KI (c:CS):(Int×Nat)×CS:=((dF (sV c).toNat,(wV (sN c)).toNat),wN (sN c))
theorem lZ(c:CS):∃n:Nat,wV c=n/\n<18446744073709551616:=by
 unfold wV;split
 ·exact⟨0,rfl,by omega⟩
 ·cases h:Num.getWide c.1 with
  |none=>exact⟨0,rfl,by omega⟩
  |some x=>
   obtain⟨n,k⟩:=x;exact⟨n,rfl,(Num.getWide_only _ _ _ h).1⟩
def yz(K:List (List UInt8))(s:List UInt8):Option (Rc×List (List UInt8))×Int:=
 if (aB s 20000).2.2≠0 then(none,(aB s 20000).2.2)
 else match qX KI K ((aB s 20000).1,false) with
  |(none,_)=>(none,2)
  |(some (x,K'),c)=>if nC c.1 c.2=false\/dJ x 2≠0 then(none,2) else(some (x,K'),0)
theorem ia(s:List UInt8)(m:Nat):(aB s m).1.length<=s.length/\(aB s m).2.1.length<=s.length:=by
 unfold aB;split
 ·exact⟨by simp,aF _⟩
 ·split
  ·exact⟨by simp,aF _⟩
  ·split
   ·exact⟨by simp,aF _⟩
   ·split
    ·exact⟨by simp;omega,by simp⟩
    ·exact⟨by simp,aF _⟩
section
variable {w:World} {B n m:Nat} {K:List (List UInt8)} {kv:Value} {D:DataW Unit}
end
theorem Kq{W:World}{b:Nat}{T:TypeId}{u0:Value}(h:ag W b T #[u0]):W.cell? ⟨b,0,none⟩=some u0:=(ag.cell h 0).trans rfl
theorem dN{W:World}{b:Nat}{T:TypeId}{u0 u1:Value}(h:ag W b T #[u0,u1]):(W.cell? ⟨b,0,none⟩=some u0/\W.cell? ⟨b,1,none⟩=some u1)/\W.frozen? ⟨b,0,none⟩=false/\W.frozen? ⟨b,1,none⟩=false:=
 ⟨⟨(ag.cell h 0).trans rfl,(ag.cell h 1).trans rfl⟩,ag.frozen h 0,ag.frozen h 1⟩
def fm(K:List (List UInt8))(lt:Int)(lv:Nat)(x:Rc):List UInt8×List (List UInt8)×Int×Nat:=
 if x.kind=0 then(Num.small 0++(cl K x.labels).1++Num.small (Num.zigI (x.t-lt)).toNat++Num.small (x.v^^^lv),(cl K x.labels).2,x.t,x.v)
 else((bG K x).1,(bG K x).2,lt,lv)
def cP:List (List UInt8)->Int->Nat->List Rc->List UInt8×List (List UInt8)
 |K,_,_,[]=>([],K)
 |K,lt,lv,x::R=>let o:=fm K lt lv x;let r:=cP o.2.1 o.2.2.1 o.2.2.2 R;(o.1++r.1,r.2)
def gk(K:List (List UInt8))(R:List Rc):(List UInt8×Bool)×List (List UInt8):=
 if R=[] then(([],true),K)
 else((bI (Num.small R.length++(cP K 0 0 R).1),decide ((Num.small R.length++(cP K 0 0 R).1).length<=20000)),(cP K 0 0 R).2)
def Dk(x:Rc):Prop:=(x.kind=0\/x.kind=1\/x.kind=2)/\(dE x.labels).length<=700/\(x.kind=0->0<=x.t/\x.t<=1125899906842624)
theorem nq(K:List (List UInt8))(L:List Lb):(cl K L).1.length<=(dE L).length+20:=by
 unfold cl;split
 ·have:=Num.small_len (K.idxOf (dE L));simp only;omega
 ·have h1:=Num.small_len K.length;have h2:=Num.small_len (dE L).length;simp only[aG,Num.text_len];omega
theorem oA(K:List (List UInt8))(x:Rc):(bG K x).1.length<=(dE x.labels).length+60:=by
 have h0:=nq K x.labels;have z0:=Num.small_len 0;have z1:=Num.small_len 1;have z2:=Num.small_len 2;have z3:=Num.small_len (aS x.t);have z4:=Num.wide_len x.v;have z5:=Num.small_len (Num.zigI x.t).toNat;have z6:=Num.small_len (Num.zigI x.u).toNat;unfold bG;split
 ·simp only[aG];omega
 ·split
  ·simp only[aG];omega
  ·simp only[aG];omega
section
variable {w:World} {B n m:Nat} {K:List (List UInt8)} {kv:Value} {D:DataW Unit}
theorem rL(R:List Rc)(v:Value)(wA:World)(hA:Below wA.heap.size wA w)(hAB:wA.heap.size<=B)(h:a8 w B n K kv m D)(hR:dz wA v R)(hf:∀x∈R,Dk x)(hR1:R.length<=400)(hK:K.length<=1000000)(hB:B<=w.heap.size):
 Calls Tryz.prog 407 #[.agg #[.pointer (some ⟨n,0,none⟩)],v] w fun e w'=>e=.returned (.tuple #[.string (bs (gk K R).1.1),.bool (gk K R).1.2])/\∃kv' D',a8 w' B n (gk K R).2 kv' m D'/\dH w w' (NF n m kv) (NF n m kv'):=by
 obtain⟨a,c,rfl,hn,hc⟩:=hR
 have b0:=ai w (.cells #[.pointer (some ⟨n,0,none⟩)] 244)
 have k0:ag (w.alloc (.cells #[.pointer (some ⟨n,0,none⟩)] 244)) w.heap.size 244 #[.pointer (some ⟨n,0,none⟩)]:=ag.new _ _ _
 by_cases hnil:R=[]
 ·subst hnil;rw[show gk K []=(([],true),K) from by unfold gk;rw[if_pos rfl]];go_enter Tryz.func407,Tryz.ntmps407
  go_wp2_with fail
  go_ret2;exact⟨rfl,kv,D,h.below b0,dH.of_below b0⟩
 have hz:(R.length==0)=false:=by simpa using hnil
 have hRl:0<R.length:=List.length_pos_iff.2 hnil
 have hz':((R.length:Int)==0)=false:=by simp;omega
 have HC:=af hc
 clear hc
 have hP:gk K R=((bI (Num.small R.length++(cP K 0 0 R).1),decide ((Num.small R.length++(cP K 0 0 R).1).length<=20000)),(cP K 0 0 R).2):=by unfold gk;rw[if_neg hnil]
 rw[hP]
 have q0:=af (fun W=>aT (R.length:Int) W (by omega) (by omega))
 rw[show ((R.length:Int).toNat)=R.length from rfl] at q0
 have hwl:IntKind.u64.wrap (R.length:Int)=R.length:=by simp[IntKind.wrap,IntKind.bits,IntKind.signed];omega
 have y0l:=Num.small_len R.length
 have HP:=af (show ∀s,s=Num.small R.length++(cP K 0 0 R).1->bI (Num.small R.length++(cP K 0 0 R).1)=bI s/\decide ((Num.small R.length++(cP K 0 0 R).1).length<=20000)=decide (s.length<=20000) from fun s e=>by rw[e];exact⟨rfl,rfl⟩)
 clear hP
 generalize hy0:Num.small R.length=y0 at*
 go_enter Tryz.func407,Tryz.ntmps407
 go_wp2_with fail
 refine(q0.out _).mono ?_
 rintro e W1 ⟨rfl,hb1⟩
 have hbw1:=ay b0 hb1
 have k1:=ag.below k0 hb1 k0.lt
 have b2:=ai W1 (.cells #[.int .i64 0,.int .u64 0] 127)
 have kl:ag (W1.alloc (.cells #[.int .i64 0,.int .u64 0] 127)) W1.heap.size 127 #[.int .i64 0,.int .u64 0]:=ag.new _ _ _
 have k2:=ag.below k1 b2 k1.lt
 have hN2:=(h.below hbw1).below b2
 have hT2:dH w (W1.alloc (.cells #[.int .i64 0,.int .u64 0] 127)) (NF n m kv) (NF n m kv):=(dH.of_below hbw1).trans (dH.of_below b2)
 have hbB2:Below B w (W1.alloc (.cells #[.int .i64 0,.int .u64 0] 127)):=(hbw1.mono hB).trans (b2.mono (aK hB hbw1.size))
 have hgl:w.heap.size<W1.heap.size:=k1.lt
 clear q0 k0 b0 hb1 hbw1 k1 b2
 go_wp2_with fail
 go_loopw [6,19] (fun vs vi wr=>∃(i:Nat) (s:List UInt8) (Ki:List (List UInt8)) (lt:Int) (lv:Nat) (kvi:Value) (Di:DataW Unit),i<=R.length/\vi=.int .i64 (i:Int)/\vs=.string (bs s)/\s.length<=10+i*1000/\Ki.length<=K.length+i/\0<=lt/\lt<=1125899906842624/\lv<18446744073709551616/\
  (y0++(cP K 0 0 R).1,(cP K 0 0 R).2)=(s++(cP Ki lt lv (R.drop i)).1,(cP Ki lt lv (R.drop i)).2)/\a8 wr B n Ki kvi m Di/\ag wr w.heap.size 244 #[.pointer (some ⟨n,0,none⟩)]/\ag wr W1.heap.size 127 #[.int .i64 lt,.int .u64 (lv:Int)]/\
  dH w wr (NF n m kv) (NF n m kvi)/\Below B w wr) (fun _ vi _=>R.length-(intOf vi).toNat)
 case atStart=>exact⟨0,y0,K,0,0,kv,D,Nat.zero_le _,rfl,rfl,by omega,by omega,by omega,by omega,by omega,by rw[List.drop_zero],hN2,k2,kl,hT2,hbB2⟩
 clear hN2 k2 kl hT2 hbB2 h
 generalize W1.heap.size=gl at*
 obtain⟨i,s,Ki,lt,lv,kvi,Di,hi,rfl,rfl,hsl,hKi,hlt0,hlt1,hlv,hP,hN,hk,hkl,hT,hbB⟩:=hrel
 rcases(show i<R.length\/i=R.length by omega) with hil|rfl
 ·have hfit:=hf R[i] (dM _);rw[List.drop_eq_getElem_cons hil] at hP;obtain⟨b,o,rfl,hRA⟩:=HC.out i _ (aW hil);have hAr:Below wA.heap.size wA wr:=hA.trans (hbB.mono hAB);have hLW:∀sl,aC wA sl R[i].labels->∀W,Below B wr W->aC W sl R[i].labels:=fun sl hsl W hW=>hsl.below (hAr.trans (hW.mono hAB));have hcell:∀{p:Addr} {v:Value},wA.cell? p=some v->wr.cell? p=some v:=fun h=>cu hAr h;obtain⟨hok,sl,e0,e1,hL,e2,e3,e4⟩:=hRA;have e0:=hcell e0;have e1:=hcell e1;have e2:=hcell e2;have e3:=hcell e3;have e4:=hcell e4;have HL:=af (hLW sl hL);obtain⟨va,vc,rfl,_⟩:=hL;have hP2:(y0++(cP K 0 0 R).1,(cP K 0 0 R).2)=(s++(fm Ki lt lv R[i]).1++(cP (fm Ki lt lv R[i]).2.1 (fm Ki lt lv R[i]).2.2.1 (fm Ki lt lv R[i]).2.2.2 (R.drop (i+1))).1,(cP (fm Ki lt lv R[i]).2.1 (fm Ki lt lv R[i]).2.2.1 (fm Ki lt lv R[i]).2.2.2 (R.drop (i+1))).2):=by
   rw[hP,List.append_assoc];rfl
  clear hLW hcell hP;generalize R[i]=x at*;have hB':B<=wr.heap.size:=aK hB hT.kept.size;have hb1:=ai wr (.cells #[.int .i64 x.kind,.slice va x.labels.length vc,.int .i64 x.t,.int .i64 x.u,.int .u64 (x.v:Int)] 108);have kr:ag (wr.alloc (.cells #[.int .i64 x.kind,.slice va x.labels.length vc,.int .i64 x.t,.int .i64 x.u,.int .u64 (x.v:Int)] 108)) wr.heap.size 108 #[.int .i64 x.kind,.slice va x.labels.length vc,.int .i64 x.t,.int .i64 x.u,.int .u64 (x.v:Int)]:=ag.new _ _ _;have hN1:=hN.below hb1;have hk1:=ag.below hk hb1 hk.lt;have hkl1:=ag.below hkl hb1 hkl.lt;have hT1:=hT.trans (dH.of_below hb1);have hbB1:=hbB.trans (Below.mono hb1 hB');have HL1:=af (fun W (hW:Below B (wr.alloc (.cells #[.int .i64 x.kind,.slice va x.labels.length vc,.int .i64 x.t,.int .i64 x.u,.int .u64 (x.v:Int)] 108)) W)=>HL.out W ((hb1.mono hB').trans hW));have hB1:=aK hB' hb1.size;have d0:=Kq hk1;by_cases hk0:x.kind=0
  ·simp only[hk0] at kr hN1 hk1 hkl1 hT1 hbB1 HL1 hB1 d0 e0 hb1;have hO:fm Ki lt lv x=(Num.small 0++(cl Ki x.labels).1++Num.small (Num.zigI (x.t-lt)).toNat++Num.small (x.v^^^lv),(cl Ki x.labels).2,x.t,x.v):=by unfold fm;rw[if_pos hk0]
   have htm:=hfit.2.2 hk0;have hxb:x.v^^^lv<18446744073709551616:=Nat.xor_lt_two_pow (n:=64) hok.2.2.2.2.2.2 hlv;have hxr:=u64_xor_nat x.v lv hok.2.2.2.2.2.2 hlv;have hsw:IntKind.i64.wrap (x.t-lt)=x.t-lt:=by simp[IntKind.wrap,IntKind.bits,IntKind.signed];omega
   have hsw2:wrap64 (x.t-lt)=x.t-lt:=by unfold wrap64;omega
   have zb:=Num.zig_bd (x.t-lt) (by omega) (by omega);have q1:=af (fun W=>aT 0 W (by omega) (by omega));rw[show ((0:Int).toNat)=0 from rfl] at q1;have q2:=af (fun W=>(gL (x.t-lt) W (by omega) (by omega)).mono fun e w' ⟨h1,h2⟩=>(show e=Ending.returned (.int .u64 (Num.zigI (x.t-lt)))/\bZ W w' from⟨h1,h2▸bQ⟩));have q3:=af (fun W=>aT (Num.zigI (x.t-lt)) W zb.1 zb.2);have q4:=af (fun W=>aT ((x.v^^^lv:Nat):Int) W (by omega) (by omega));rw[show (((x.v^^^lv:Nat):Int).toNat)=x.v^^^lv from rfl] at q4;have qP:=af (fun (W:World) (hNW:a8 W B n Ki kvi m Di) (hb:Below B (wr.alloc (.cells #[.int .i64 0,.slice va x.labels.length vc,.int .i64 x.t,.int .i64 x.u,.int .u64 (x.v:Int)] 108)) W)=>C3 x.labels (.slice va x.labels.length vc) hNW (HL1.out W hb) (by have:=hfit.2.1;omega) (by omega) (aK hB1 hb.size));have hpl:=nq Ki x.labels;have hpk:=jU Ki x.labels;have z1:=Num.small_len 0;have z2:=Num.small_len (Num.zigI (x.t-lt)).toNat;have z3:=Num.small_len (x.v^^^lv);rw[hO] at hP2;simp only at hP2;rcases hpp:cl Ki x.labels with⟨p1,K2⟩
   rw[hpp] at qP hpl hpk hP2;simp only at hpl hpk hP2;have hkl2:=hfit.2.1;clear hO hpp zb htm;generalize Num.small 0=y1 at*;generalize Num.small (Num.zigI (x.t-lt)).toNat=y2 at*;generalize Num.small (x.v^^^lv)=y3 at*;generalize Num.zigI (x.t-lt)=zt at*;generalize x.v^^^lv=xv at*;have a1:∀W,(Op.stringOp .add (bs y1) (bs p1)).run Tryz.prog W=.ok (.string (bs (y1++p1))) W:=fun W=>aJ (P:=Tryz.prog) _ _ (by omega) W;have a2:∀W,(Op.stringOp .add (bs (y1++p1)) (bs y2)).run Tryz.prog W=.ok (.string (bs (y1++p1++y2))) W:=fun W=>aJ (P:=Tryz.prog) _ _ (by simp;omega) W;have a3:∀W,(Op.stringOp .add (bs (y1++p1++y2)) (bs y3)).run Tryz.prog W=.ok (.string (bs (y1++p1++y2++y3))) W:=fun W=>aJ (P:=Tryz.prog) _ _ (by simp;omega) W;have a4:∀W,(Op.stringOp .add (bs s) (bs (y1++p1++y2++y3))).run Tryz.prog W=.ok (.string (bs (s++(y1++p1++y2++y3)))) W:=fun W=>aJ (P:=Tryz.prog) _ _ (by simp;omega) W;have hsl2:(s++(y1++p1++y2++y3)).length<=10+(i+1)*1000:=by simp;omega
   generalize s++(y1++p1++y2++y3)=s2 at*;generalize y1++p1++y2++y3=z3 at*;generalize y1++p1++y2=z2 at*;generalize y1++p1=z1 at*;have HP2:=af hP2;clear hP2;obtain⟨⟨r0,r1,r2,r3,r4⟩,_⟩:=Cj kr;obtain⟨⟨l0,l1⟩,_⟩:=dN hkl1;have n1':=dh hN1 (aN hk1) (by decide) (by decide);have n2':=dh hN1 (aN kr) (by decide) (by decide);have n3':=dh hN1 (aN hkl1) (by decide) (by decide);have g0:=cM (h:=hN1) (K':=K2) d0 n1';have g1:=cM (h:=hN1) (K':=K2) r1 n2';have g2:=cM (h:=hN1) (K':=K2) r2 n2';have g4:=cM (h:=hN1) (K':=K2) r4 n2';have g5:=cM (h:=hN1) (K':=K2) l0 n3';have g6:=cM (h:=hN1) (K':=K2) l1 n3';have HQ:=af (fun (W:World) (hW:bZ (wr.alloc (.cells #[.int .i64 0,.slice va x.labels.length vc,.int .i64 x.t,.int .i64 x.u,.int .u64 (x.v:Int)] 108)) W)=>qP.out W (hN1.below hW) (Below.mono hW hB1));go_wp2_with fail
   refine cQ (qI hN1 K2) [7] rfl (by kernel_rfl) (by kernel_rfl) (by kernel_rfl) (by kernel_rfl) ?_
   (refine iK fun K hK=>?_;go_big_quiet_step (fail);refine hK _ ?_;clear hK K)
   (refine Iq (f:=32) (args:=#[.int .u64 0]) (v:=.string (bs y1)) (fun W hW=>q1.out W) fun K hK=>?_;go_big_quiet_step (fail);refine hK _ ?_;clear hK K);iterate 5 (refine iK fun K hK=>?_;go_big_quiet_step (fail);refine hK _ ?_;clear hK K)
   (refine Au 0 (f:=396) (args:=#[.pointer (some ⟨n,0,none⟩),.slice va x.labels.length vc]) (v:=.string (bs p1)) (fun W hW=>pG hW (HQ.out W)) fun K hK=>?_;go_big_quiet_step (fail);refine hK _ ?_;clear hK K);iterate 6 (refine iK fun K hK=>?_;go_big_quiet_step (fail);refine hK _ ?_;clear hK K)
   (refine Iq (f:=181) (args:=#[.int .i64 (x.t-lt)]) (v:=.int .u64 zt) (fun W hW=>q2.out W) fun K hK=>?_;go_big_quiet_step (fail);refine hK _ ?_;clear hK K)
   (refine Iq (f:=32) (args:=#[.int .u64 zt]) (v:=.string (bs y2)) (fun W hW=>q3.out W) fun K hK=>?_;go_big_quiet_step (fail);refine hK _ ?_;clear hK K);iterate 6 (refine iK fun K hK=>?_;go_big_quiet_step (fail);refine hK _ ?_;clear hK K)
   (refine Iq (f:=32) (args:=#[.int .u64 (xv:Int)]) (v:=.string (bs y3)) (fun W hW=>q4.out W) fun K hK=>?_;go_big_quiet_step (fail);refine hK _ ?_;clear hK K);iterate 3 (refine iK fun K hK=>?_;go_big_quiet_step (fail);refine hK _ ?_;clear hK K)
   refine xW ?_;rintro W2 _ hp;obtain⟨_,kv2,D2,hN2,hT2⟩:=hp.resolve_left (fun e=>by cases e.1);simp only[az];have hk2:=hk1.keptK hT2.kept n1';have kr2:=kr.keptK hT2.kept n2';have hkl2':=hkl1.keptK hT2.kept n3';have hbb:=hbB1.trans (ak.below hT2.kept hB1 hN1.ge);obtain⟨⟨r0,r1,r2,r3,r4⟩,_⟩:=Cj kr2;obtain⟨⟨l0,l1⟩,f0,f1⟩:=dN hkl2';have hkl3:ag ((W2.setCell ⟨gl,0,none⟩ (.int .i64 x.t)).setCell ⟨gl,1,none⟩ (.int .u64 (x.v:Int))) gl 127 #[.int .i64 x.t,.int .u64 (x.v:Int)]:=ag.set_ (ag.set_ hkl2' 0 _) 1 _;have hk23:ak W2 ((W2.setCell ⟨gl,0,none⟩ (.int .i64 x.t)).setCell ⟨gl,1,none⟩ (.int .u64 (x.v:Int))) (fun k=>k=gl):=ak.of_grown (bi (ap _ _ _ _) (ap _ _ _ _)) fun k e=>(aA e).symm;have n4':=dh hN2 (aN hkl2') (by decide) (by decide);have hN3:=hN2.kept hk23 (fun k hk e=>n4' (e▸hk));have hk3:=hk2.keptK hk23 (by omega);have hT3:dH w ((W2.setCell ⟨gl,0,none⟩ (.int .i64 x.t)).setCell ⟨gl,1,none⟩ (.int .u64 (x.v:Int))) (NF n m kv) (NF n m kv2):=by
    have:=hT1.trans hT2;exact⟨this.kept.new_keep hk23 (by omega),this.grow⟩
   have hbb3:=hbb.trans (ak.below hk23 (aK hB1 hT2.kept.size) (fun k hk=>by omega));clear g0 g1 g2 g4 g5 g6 d0 q1 q2 q3 q4 qP HQ hk hkl hk1 hkl1 kr kr2;go_wp2_with fail
   go_roundw
   case rel=>exact⟨i+1,s2,K2,x.t,x.v,kv2,D2,by omega,by go_num,rfl,hsl2,by omega,(hfit.2.2 hk0).1,(hfit.2.2 hk0).2,hok.2.2.2.2.2.2,HP2.out,hN3,hk3,hkl3,hT3,hbb3⟩
   case measure=>simp[intOf];omega
  ·have hO:fm Ki lt lv x=((bG Ki x).1,(bG Ki x).2,lt,lv):=by unfold fm;rw[if_neg hk0]
   rw[hO] at hP2;simp only at hP2;have q:=af (yM x (.slice va x.labels.length vc) hN1 hok hfit.1 (fun W hW=>HL1.out W hW) (by have:=hfit.2.1;omega) (by omega) hB1);rw[show rG x (.slice va x.labels.length vc)=.agg #[.int .i64 x.kind,.slice va x.labels.length vc,.int .i64 x.t,.int .i64 x.u,.int .u64 (x.v:Int)] from rfl] at q;have hkk:=iD Ki x;have hll:=oA Ki x;have hkl2:=hfit.2.1;rcases hso:bG Ki x with⟨p1,K2⟩
   rw[hso] at q hP2 hkk hll;simp only at q hP2 hkk hll;have hadd:∀W,(Op.stringOp .add (bs s) (bs p1)).run Tryz.prog W=.ok (.string (bs (s++p1))) W:=fun W=>aJ (P:=Tryz.prog) _ _ (by omega) W;have hsl2:(s++p1).length<=10+(i+1)*1000:=by simp;omega
   generalize s++p1=s2 at*;have HP2:=af hP2;clear hP2 hO hso;obtain⟨⟨r0,r1,r2,r3,r4⟩,_⟩:=Cj kr;have hkz:(x.kind != 0)=true:=by simpa using hk0
   have hkz2:(x.kind==0)=false:=by simpa using hk0
   go_wp2_with fail
   refine q.out.mono ?_;rintro e W2 ⟨rfl,kv2,D2,hN2,hT2⟩;have hk2:=hk1.keptK hT2.kept (dh hN1 (aN hk1) (by decide) (by decide));have hkl2':=hkl1.keptK hT2.kept (dh hN1 (aN hkl1) (by decide) (by decide));have hbb:=hbB1.trans (ak.below hT2.kept hB1 hN1.ge);clear q hk hkl hk1 hkl1 kr;go_wp2_with fail
   go_roundw
   case rel=>exact⟨i+1,s2,K2,lt,lv,kv2,D2,by omega,by go_num,rfl,hsl2,by omega,hlt0,hlt1,hlv,HP2.out,hN2,hk2,hkl2',hT1.trans hT2,hbb⟩
   case measure=>simp[intOf];omega
 ·rw[List.drop_length] at hP;have e1:=(Prod.mk.inj hP).1;have e2:=(Prod.mk.inj hP).2;rw[show cP Ki lt lv []=([],Ki) from rfl] at e1 e2;simp only[List.append_nil] at e1;simp only at e2;have HE:=af (HP.out s e1.symm);have HE2:=af e2;have q:=af (fun W=>hU s (by omega) W);clear hP e1 e2 HP HC;go_wp2_with fail
  refine(q.out _).mono ?_;rintro e W3 ⟨rfl,hb3⟩;go_wp2_with fail
  go_ret2;refine⟨?_,kvi,Di,by rw[HE2.out];exact hN.below hb3,hT.trans (dH.of_below hb3)⟩;rw[HE.out.1,HE.out.2];simp;omega
end
def J9 (lt:Int)(lv:Nat)(c:CS):(Int×Nat)×CS:=((wrap64 (lt+Num.zagI (sV c)),lv^^^(sV (sN c)).toNat),sN (sN c))
theorem tY{w0:World}{g:Nat}{cs:List CS}{c0:CS}{h0:cs[0]?=some c0}{hC:gC w0 g c0.1 c0.2}{p:Addr}{v:Value}(hp:w0.cell? p=some v)(hn:p.block≠g):∀x:PW (tZ w0 g cs c0 h0 hC),x.w.cell? p=some v:=fun x=>by
 obtain⟨q,hk,_⟩:=x.2;exact hk.cell hp hn
def jz:Nat->List (List UInt8)->Int->Nat->CS->Option (List Rc×List (List UInt8))×CS
 |0,K,_,_,c=>(some ([],K),c)
 |q+1,K,lt,lv,c=>match qX (J9 lt lv) K c with
  |(none,c')=>(none,c')
  |(some (x,K'),c')=>if dJ x 3≠0 then(none,c')
   else match jz q K' (if x.kind=0 then x.t else lt) (if x.kind=0 then x.v else lv) c' with
    |(none,c2)=>(none,c2)
    |(some (l,K2),c2)=>(some (x::l,K2),c2)
def H6(K:List (List UInt8))(s:List UInt8):Option (List Rc×List (List UInt8))×Int:=
 if (aB s 20000).2.2≠0 then(none,(aB s 20000).2.2)
 else if sV ((aB s 20000).1,false)=0\/20000<sV ((aB s 20000).1,false) then(none,2)
 else match jz (sV ((aB s 20000).1,false)).toNat K 0 0 (sN ((aB s 20000).1,false)) with
  |(none,_)=>(none,2)
  |(some (l,K'),c)=>if nC c.1 c.2=false then(none,2) else(some (l,K'),0)
theorem uL(K:List (List UInt8))(c:CS)(L:List Lb)(K':List (List UInt8))(c':CS)(h:jn K c=(some (L,K'),c')):K'.length<=K.length+1/\∀k∈K',k∈K\/k.length<=600:=by
 unfold jn at h;split at h
 ·cases h
 ·split at h
  ·have h1:=(Prod.mk.inj h).1;cases ho:La (K.getD (sV c).toNat []) with
   |none=>rw[ho] at h1;cases h1
   |some L0=>
    rw[ho] at h1;simp only[Option.bind_some] at h1;split at h1
    ·obtain⟨_,rfl⟩:=Prod.mk.inj (aA h1);exact⟨by omega,fun k hk=>.inl hk⟩
    ·cases h1
  ·split at h
   ·cases h
   ·have h1:=(Prod.mk.inj h).1;cases ho:La (tT (sN c) 600) with
    |none=>rw[ho] at h1;cases h1
    |some L0=>
     rw[ho] at h1;simp only[Option.map_some] at h1;obtain⟨_,rfl⟩:=Prod.mk.inj (aA h1);refine⟨by simp,fun k hk=>?_⟩;rcases List.mem_append.1 hk with h|h
     ·exact .inl h
     ·obtain rfl:=List.mem_singleton.1 h;refine .inr ?_;unfold tT;split
      ·simp
      ·cases ht:Num.getText (sN c).1 600 with
       |none=>simp[gP]
       |some x=>
        obtain⟨x,j⟩:=x;have:=(BJ _ _ _ _ ht).1;simp[gP];omega
theorem tJ(smp:CS->(Int×Nat)×CS)(K:List (List UInt8))(c:CS)(x:Rc)(K':List (List UInt8))(c':CS)(h:qX smp K c=(some (x,K'),c')):K'.length<=K.length+1/\∀k∈K',k∈K\/k.length<=600:=by
 unfold qX at h;split at h
 ·cases h
 ·split at h
  ·split at h
   ·cases h
   ·obtain⟨h1,_⟩:=Prod.mk.inj h;obtain⟨_,rfl⟩:=Prod.mk.inj (aA h1);exact⟨by omega,fun k hk=>.inl hk⟩
  ·rcases hn:jn K (sN c) with⟨r,c2⟩
   rw[hn] at h;cases r with
   |none=>cases h
   |some z=>
    obtain⟨L,K2⟩:=z;have hk:=uL K (sN c) L K2 c2 hn;simp only at h;split at h
    ·split at h
     ·cases h
     ·obtain⟨h1,_⟩:=Prod.mk.inj h;obtain⟨_,rfl⟩:=Prod.mk.inj (aA h1);exact hk
    ·split at h
     ·cases h
     ·obtain⟨h1,_⟩:=Prod.mk.inj h;obtain⟨_,rfl⟩:=Prod.mk.inj (aA h1);exact hk
theorem FX(lt:Int)(lv:Nat)(c:CS):(J9 lt lv c).2.1.length<=c.1.length:=aK (ev _ _) (ev _ _)
theorem uJ(Z:List (Rc×Value)):(aV Z).length=Z.length*5:=by
 induction Z with
 |nil=>rfl
 |cons z Z ih=>unfold aV at*;rw[List.flatMap_cons,aG,ih,de];simp[gu];omega
section
variable {w:World} {B n m:Nat} {K:List (List UInt8)} {kv:Value} {D:DataW Unit}
end
def n7(g:Int)(n:Nat):Value:=if g=1 then .iface 240 (.agg #[]) else if g=2 then .iface 242 (.agg #[.pointer (some ⟨n,0,none⟩)]) else .iface 244 (.agg #[.pointer (some ⟨n,0,none⟩)])
theorem rh(g:Int)(n:Nat)(w:World):Calls Tryz.prog 106 #[.int .i64 g,.pointer (some ⟨n,0,none⟩)] w fun e w'=>e=.returned (n7 g n)/\w=w':=by
 by_cases h1:g=1
 ·subst h1;go_enter Tryz.func106,Tryz.ntmps106
  go_wp2;go_ret;exact⟨rfl,rfl⟩
 by_cases h2:g=2
 ·subst h2;go_enter Tryz.func106,Tryz.ntmps106
  go_wp2;go_ret;exact⟨rfl,rfl⟩
 have hv:n7 g n=.iface 244 (.agg #[.pointer (some ⟨n,0,none⟩)]):=by unfold n7;rw[if_neg h1,if_neg h2]
 rw[hv];have e1:(g==1)=false:=by simpa using h1
 have e2:(g==2)=false:=by simpa using h2
 clear h1 h2 hv;go_enter Tryz.func106,Tryz.ntmps106
 go_wp2;go_ret;exact⟨rfl,rfl⟩
theorem nE:∀(l:List Lb) (last:List UInt8),fu last l=true->∀y∈l,y.1.length<=48/\y.2.length<=48
 |[],_,_,y,hy=>by cases hy
 |x::l,last,h,y,hy=>by
  unfold fu at h;simp only[Bool.and_eq_true] at h;obtain⟨_,h2,_,h4,h5⟩:=h;rcases List.mem_cons.1 hy with rfl|hy
  ·unfold mE at h2 h4;simp only[Bool.and_eq_true,decide_eq_true_eq] at h2 h4;exact⟨h2.2.2,h4.2.2⟩
  ·exact nE l _ h5 y hy
theorem xK(L:List Lb)(h:bz L=0):L.length<=6/\∀y∈L,y.1.length<=48/\y.2.length<=48:=by
 unfold bz at h;split at h
 ·rename_i hc;simp only[Bool.and_eq_true,decide_eq_true_eq] at hc;exact⟨hc.2.2,nE L _ hc.1⟩
 ·cases h
theorem tC:∀(L:List Lb),(∀y∈L,y.1.length<=48/\y.2.length<=48)->(dE L).length<=L.length*116
 |[],_=>by simp[dE]
 |x::L,h=>by
  have ih:=tC L fun y hy=>h y (List.mem_cons_of_mem _ hy);have hx:=h x List.mem_cons_self;have e:dE (x::L)=Num.text x.1++Num.text x.2++dE L:=by unfold dE;rw[List.flatMap_cons]
  have s1:=Num.small_len x.1.length;have s2:=Num.small_len x.2.length;rw[e,aG,aG,Num.text_len,Num.text_len,de];omega
theorem nL(x:Rc)(h:lh x=true):Dm x/\Dl x/\Dk x:=by
 unfold lh at h;unfold Dm Dl Dk;have hc:∀{b:Bool},(decide (bz x.labels=0)&&b)=true->x.labels.length<=6/\(dE x.labels).length<=696:=fun hb=>by
  simp only[Bool.and_eq_true,decide_eq_true_eq] at hb;obtain⟨h1,h2⟩:=xK _ hb.1;have:=tC _ h2;exact⟨h1,by omega⟩
 by_cases k0:x.kind=0
 ·rw[if_pos k0] at h;obtain⟨h1,h2⟩:=hc h;unfold aU at h;simp only[Bool.and_eq_true,decide_eq_true_eq] at h;exact⟨⟨by omega,h1⟩,⟨.inl k0,by omega⟩,.inl k0,by omega,fun _=>⟨h.2.1.1,h.2.1.2⟩⟩
 ·rw[if_neg k0] at h;by_cases k1:x.kind=1
  ·rw[if_pos k1] at h;obtain⟨h1,h2⟩:=hc h;exact⟨⟨by omega,h1⟩,⟨.inr (.inl k1),by omega⟩,.inr (.inl k1),by omega,fun e=>absurd e k0⟩
  ·rw[if_neg k1] at h;by_cases k2:x.kind=2
   ·rw[if_pos k2] at h;simp only[Bool.and_eq_true,decide_eq_true_eq] at h;have hl:x.labels=[]:=List.length_eq_zero_iff.1 h.1;rw[hl];exact⟨⟨by omega,by simp⟩,⟨.inr (.inr k2),by simp[dE]⟩,.inr (.inr k2),by simp[dE],fun e=>absurd e k0⟩
   ·rw[if_neg k2] at h;cases h
theorem l6(x:Rc)(g:Int)(h:dJ x g=0):lh x=true:=by
 unfold dJ at h;split at h
 ·cases h
 ·rename_i hr;simpa using hr
theorem lp(K:List (List UInt8))(L:List Lb):∀k∈(cl K L).2,k∈K\/k=dE L:=fun k hk=>by
 unfold cl at hk;split at hk
 ·exact .inl hk
 ·rcases List.mem_append.1 hk with h|h
  ·exact .inl h
  ·exact .inr (List.mem_singleton.1 h)
theorem oz(K:List (List UInt8))(x:Rc):∀k∈(bG K x).2,k∈K\/k=dE x.labels:=fun k hk=>by
 unfold bG at hk;split at hk
 ·exact lp K _ k hk
 ·split at hk
  ·exact lp K _ k hk
  ·exact .inl hk
theorem ni:∀(R:List Rc) (K:List (List UInt8)),(∀x∈R,(dE x.labels).length<=2000)->(bl K R).2.length<=K.length+R.length/\∀k∈(bl K R).2,k∈K\/k.length<=2000
 |[],K,_=>⟨by simp[bl],fun k hk=>.inl hk⟩
 |x::R,K,h=>by
  have h1:=iD K x;have h2:=oz K x;have hx:=h x List.mem_cons_self;have h3:∀k∈(bG K x).2,k∈K\/k.length<=2000:=fun k hk=>(h2 k hk).imp id fun e=>by rw[e];exact hx
  unfold bl;split
  ·exact⟨by simp;omega,h3⟩
  ·have ih:=ni R (bG K x).2 fun y hy=>h y (List.mem_cons_of_mem _ hy);refine⟨by simp;omega,fun k hk=>?_⟩;exact(ih.2 k hk).elim (h3 k) .inr
theorem Ag(K:List (List UInt8))(lt:Int)(lv:Nat)(x:Rc)(hx:(dE x.labels).length<=2000):(fm K lt lv x).2.1.length<=K.length+1/\∀k∈(fm K lt lv x).2.1,k∈K\/k.length<=2000:=by
 unfold fm;split
 ·exact⟨jU K _,fun k hk=>(lp K _ k hk).imp id fun e=>by rw[e];exact hx⟩
 ·exact⟨iD K x,fun k hk=>(oz K x k hk).imp id fun e=>by rw[e];exact hx⟩
theorem pd:∀(R:List Rc) (K:List (List UInt8)) (lt:Int) (lv:Nat),(∀x∈R,(dE x.labels).length<=2000)->(cP K lt lv R).2.length<=K.length+R.length/\∀k∈(cP K lt lv R).2,k∈K\/k.length<=2000
 |[],K,_,_,_=>⟨by simp[cP],fun k hk=>.inl hk⟩
 |x::R,K,lt,lv,h=>by
  have h1:=Ag K lt lv x (h x List.mem_cons_self);have ih:=pd R (fm K lt lv x).2.1 (fm K lt lv x).2.2.1 (fm K lt lv x).2.2.2 fun y hy=>h y (List.mem_cons_of_mem _ hy);unfold cP;refine⟨by simp only[de];have:=ih.1;omega,fun k hk=>?_⟩;exact(ih.2 k hk).elim (h1.2 k) .inr
def jv(g:Int):List Rc->Int
 |[]=>0
 |x::R=>if dJ x g=0 then jv g R else dJ x g
def iT(g:Int)(K:List (List UInt8))(R:List Rc):Option (List UInt8)×List (List UInt8):=
 if g=1 then(some (nW R),K) else if g=2 then bl K R else(if (gk K R).1.2 then some (gk K R).1.1 else none,(gk K R).2)
def cO(g:Int)(K:List (List UInt8))(R:List Rc):List UInt8×Option (List (List UInt8))×Int:=
 if gh g=false then([],none,1) else if jv g R≠0 then([],none,jv g R)
 else match iT g K R with
  |(none,_)=>([],none,7)
  |(some s,K')=>(s,some K',0)
theorem A7(g:Int)(K:List (List UInt8))(R:List Rc)(h:∀x∈R,(dE x.labels).length<=2000):(iT g K R).2.length<=K.length+R.length/\∀k∈(iT g K R).2,k∈K\/k.length<=2000:=by
 unfold iT;split
 ·exact⟨by simp,fun k hk=>.inl hk⟩
 ·split
  ·exact ni R K h
  ·unfold gk;split
   ·exact⟨by simp,fun k hk=>.inl hk⟩
   ·exact pd R K 0 0 h
theorem jN:∀(g:Int) (R:List Rc),jv g R=0->∀x∈R,dJ x g=0
 |_,[],_,x,hx=>by cases hx
 |g,y::R,h,x,hx=>by
  unfold jv at h;by_cases hv:dJ y g=0
  ·rw[if_pos hv] at h;rcases List.mem_cons.1 hx with rfl|hx
   ·exact hv
   ·exact jN g R h x hx
  ·rw[if_neg hv] at h;exact absurd h hv
theorem yA{W:World}{b:Nat}{T:TypeId}{u0 u1:Value}(h:ag W b T #[u0,u1])(v0 v1:Value):
 ag ((W.setCell ⟨b,0,none⟩ v0).setCell ⟨b,1,none⟩ v1) b T #[v0,v1]/\ak W ((W.setCell ⟨b,0,none⟩ v0).setCell ⟨b,1,none⟩ v1) (fun k=>k=b):=
 ⟨ag.set_ (ag.set_ h 0 v0) 1 v1,ak.of_grown (bi (ap _ _ _ _) (ap _ _ _ _)) fun _ e=>(aA e).symm⟩
def KA (w:World)(B n m:Nat)(kv:Value)(r:Option (List UInt8)×List (List UInt8))(e:Ending)(w':World):Prop:=
 ∃s5,e=.returned (.tuple #[.string s5,.bool r.1.isSome])/\(∀s,r.1=some s->s5=bs s)/\∃kv' D',(r.1≠none->a8 w' B n r.2 kv' m D')/\dH w w' (NF n m kv) (NF n m kv')
section
variable {w wA:World} {B n m:Nat} {K:List (List UInt8)} {kv v:Value} {D:DataW Unit} {R:List Rc}
theorem KU(hA:Below wA.heap.size wA w)(h:a8 w B n K kv m D)(hR:dz wA v R)(hf:∀x∈R,Dm x):
 Calls Tryz.prog 400 #[.agg #[],v] w (KA w B n m kv (iT 1 K R)):=by
 refine(uP R v w (hR.below hA) hf).mono ?_
 rintro e w' ⟨rfl,hb⟩
 exact⟨_,rfl,fun s e=>by cases e;rfl,kv,D,fun _=>h.below hb,dH.of_below hb⟩
theorem KT(hA:Below wA.heap.size wA w)(hAB:wA.heap.size<=B)(h:a8 w B n K kv m D)(hR:dz wA v R)(hf:∀x∈R,Dl x)(hK:K.length+R.length<=1048576)(hB:B<=w.heap.size):
 Calls Tryz.prog 402 #[.agg #[.pointer (some ⟨n,0,none⟩)],v] w (KA w B n m kv (iT 2 K R)):=by
 refine(uE R v wA hA hAB h hR hf hK hB).mono ?_
 rintro e w' ⟨rfl,kv',D',h1,h2⟩
 have hp:iT 2 K R=bl K R:=rfl
 rw[hp]
 cases hs:(bl K R).1 with
 |none=>exact⟨⟨#[]⟩,(by rw[hs];rfl),(fun s (e:(bl K R).1=some s)=>by rw[hs] at e;cases e),kv',D',h1,h2⟩
 |some s0=>exact⟨bs s0,(by rw[hs];rfl),(fun s (e:(bl K R).1=some s)=>by rw[hs] at e;cases e;rfl),kv',D',h1,h2⟩
theorem KS(hA:Below wA.heap.size wA w)(hAB:wA.heap.size<=B)(h:a8 w B n K kv m D)(hR:dz wA v R)(hf:∀x∈R,Dk x)(hR1:R.length<=400)(hK:K.length<=1000000)(hB:B<=w.heap.size):
 Calls Tryz.prog 407 #[.agg #[.pointer (some ⟨n,0,none⟩)],v] w (KA w B n m kv (iT 3 K R)):=by
 refine(rL R v wA hA hAB h hR hf hR1 hK hB).mono ?_
 rintro e w' ⟨rfl,kv',D',h1,h2⟩
 have hp:iT 3 K R=(if (gk K R).1.2 then some (gk K R).1.1 else none,(gk K R).2):=rfl
 rw[hp]
 cases hs:(gk K R).1.2 with
 |false=>exact⟨_,rfl,fun s e=>by simp at e,kv',D',fun _=>h1,h2⟩
 |true=>exact⟨_,rfl,fun s e=>by simp at e;rw[e],kv',D',fun _=>h1,h2⟩
end
def wj(w:World)(g:Int)(kv:Value)(K:List (List UInt8))(R:List Rc)(e:Ending)(w':World):Prop:=
 Below w.heap.size w w'/\match (cO g K R).2.1 with
  |none=>e=.returned (.tuple #[.string ⟨#[]⟩,ep g kv,.int .i64 (cO g K R).2.2])
  |some K'=>∃kv',e=.returned (.tuple #[.string (bs (cO g K R).1),ep g kv',.int .i64 0])/\iB w' kv' K'/\∀b,kv'.ownBlock=some b->nf w' b=some (some 9)
theorem Jw(g:Int)(kv v:Value)(K:List (List UInt8))(R:List Rc)(w:World)(hKA:iB w kv K)(hR:dz w v R)(hK:K.length<=1000000)(hR1:R.length<=400)(g1: -9223372036854775808<=g)(g2:g<=9223372036854775807):
 Calls Tryz.prog 34 #[ep g kv,v] w (wj w g kv K R):=by
 obtain⟨ka,kcap,rfl,_⟩:=id hKA
 have hb0:Below w.heap.size w ((w.alloc (.cells #[.int .i64 g,.slice ka K.length kcap] 78)).alloc (.cells #[.int .i64 0,.slice none 0 0] 78)):=((Below.refl _ w).alloc (aF _) _).alloc (by simp) _
 have hw0:ag ((w.alloc (.cells #[.int .i64 g,.slice ka K.length kcap] 78)).alloc (.cells #[.int .i64 0,.slice none 0 0] 78)) w.heap.size 78 #[.int .i64 g,.slice ka K.length kcap]:=(ag.new w _ _).alloc _
 have hr0:ag ((w.alloc (.cells #[.int .i64 g,.slice ka K.length kcap] 78)).alloc (.cells #[.int .i64 0,.slice none 0 0] 78)) (w.heap.size+1) 78 #[.int .i64 0,.slice none 0 0]:=by
  have:=ag.new (w.alloc (.cells #[.int .i64 g,.slice ka K.length kcap] 78)) 78 #[.int .i64 0,.slice none 0 0];rwa[aY] at this
 rw[show ep g (.slice ka K.length kcap)=.agg #[.int .i64 g,.slice ka K.length kcap] from rfl]
 generalize hW0:(w.alloc (.cells #[.int .i64 g,.slice ka K.length kcap] 78)).alloc (.cells #[.int .i64 0,.slice none 0 0] 78)=W0 at*
 have q1:=af (fun W=>vB g W)
 have HE:=af (show ∀(W W':World) (e:Int),(cO g K R).2=(none,e)->Below w.heap.size w W->ak W W' (fun k=>k=w.heap.size+1)->wj w g (.slice ka K.length kcap) K R (.returned (.tuple #[.string ⟨#[]⟩,.agg #[.int .i64 g,.slice ka K.length kcap],.int .i64 e])) W' from fun W W' e he hb hk=>by
  unfold wj
  rw[he]
  exact⟨hb.trans (ak.below hk hb.size (fun k hk=>by omega)),rfl⟩)
 cases hkn:gh g with
 |false=>
  have HP:=af (show (cO g K R).2=(none,1) by unfold cO;rw[if_pos hkn]);rw[hkn] at q1;obtain⟨⟨c0,c1⟩,_⟩:=dN hw0;go_enter Tryz.func34,Tryz.ntmps34
  go_wp2_with fail
  refine(q1.out _).mono ?_;rintro e _ ⟨rfl,rfl⟩;have e0:=dd (T:=78) (cs':=#[.int .i64 g,.slice ka K.length kcap]) c0 (show w.heap.size≠w.heap.size+1 by omega);have e1:=dd (T:=78) (cs':=#[.int .i64 g,.slice ka K.length kcap]) c1 (show w.heap.size≠w.heap.size+1 by omega);clear c0 c1 hW0;go_wp2_with fail
  refine cQ (wE W0 (w.heap.size+1) 78 #[.int .i64 g,.slice ka K.length kcap]) [2] rfl (by kernel_rfl) (by kernel_rfl) (by kernel_rfl) (by kernel_rfl) ?_;iterate 2 (refine iK fun K hK=>?_;go_big_quiet_step (fail);refine hK _ ?_;clear hK K)
  refine fS 0 (by kernel_rfl) (by kernel_rfl) rfl (fun _ _ h=>by cases h) (by kernel_rfl) rfl (fun W hW=>?_) ?_
  ·have hWb:=(hW.resolve_right (fun e=>e.1 rfl)).2;have kW:=ag.below hr0 hWb hr0.lt;obtain⟨⟨r0,r1⟩,s0,s1⟩:=dN kW;have hs2:=yA kW (.int .i64 g) (.slice ka K.length kcap);exact⟨_,by go_simp,trivial,.inr ⟨by omega,(ak.of_below hWb).trans hs2.2,hs2.1⟩⟩
  (refine iK fun K hK=>?_;go_big_quiet_step (fail);refine hK _ ?_;clear hK K);refine xW ?_;rintro WE _ hp;obtain⟨_,hkE,kE⟩:=hp.resolve_left (fun e=>by cases e.1);simp only[az];go_wp2_with fail
  (try simp only[Exit.inBlock,Exit.then]);refine bodyPost_ret (dQ rfl _ _ (w.heap.size+1) 78 _ _ rfl kE Tryz.underlying78 rfl (by kernel_rfl)) rfl ?_;exact HE.out W0 WE 1 HP.out hb0 hkE
 |true=>
  rw[hkn] at q1;obtain⟨ra,rcap,rfl,hn,hrc⟩:=hR;have HC:=af hrc;clear hrc;obtain⟨⟨c0,c1⟩,_⟩:=dN hw0;go_enter Tryz.func34,Tryz.ntmps34
  go_wp2_with fail
  refine(q1.out _).mono ?_;rintro e _ ⟨rfl,rfl⟩;clear c0 c1 hW0 q1;go_wp2_with fail
  go_loopw [20] (fun vi wr=>∃i:Nat,i<=R.length/\vi=.int .i64 (i:Int)/\jv g R=jv g (R.drop i)/\Below W0.heap.size W0 wr) (fun vi _=>R.length-(intOf vi).toNat)
  case atStart=>exact⟨0,Nat.zero_le _,rfl,rfl,bQ⟩
  obtain⟨i,hi,rfl,hfe,hb⟩:=hrel;have hw1:=ag.below hw0 hb hw0.lt;have hr1:=ag.below hr0 hb hr0.lt;have hbw:=ay hb0 hb;clear hw0 hr0;rcases(show i<R.length\/i=R.length by omega) with hil|rfl
  ·rw[List.drop_eq_getElem_cons hil] at hfe;obtain⟨b,o,rfl,hRA⟩:=HC.out i _ (aW hil);have hRA:=hRA.below hbw;generalize R[i]=x at*;obtain⟨hok,sl,e0,e1,hL,e2,e3,e4⟩:=hRA;obtain⟨va,vc,rfl,_⟩:=id hL;have hf2:jv g R=if dJ x g=0 then jv g (R.drop (i+1)) else dJ x g:=hfe
   obtain⟨⟨c0,c1⟩,_⟩:=dN hw1;have b2:=ai wr (.cells #[.int .i64 x.kind,.slice va x.labels.length vc,.int .i64 x.t,.int .i64 x.u,.int .u64 (x.v:Int)] 108);have c0':=cu b2 c0;have qV:=af (pW x (.slice va x.labels.length vc) g _ hok (hL.below b2) g1 g2);rw[show rG x (.slice va x.labels.length vc)=.agg #[.int .i64 x.kind,.slice va x.labels.length vc,.int .i64 x.t,.int .i64 x.u,.int .u64 (x.v:Int)] from rfl] at qV;have HF:=af hf2;clear hfe hf2;generalize dJ x g=ve at*;go_wp2_with fail
   generalize wr.alloc (.cells #[.int .i64 x.kind,.slice va x.labels.length vc,.int .i64 x.t,.int .i64 x.u,.int .u64 (x.v:Int)] 108)=W2 at*;refine qV.out.mono ?_;rintro e W3 ⟨rfl,hb3⟩;have hb13:Below wr.heap.size wr W3:=ay b2 hb3;have hb03:=ay hb hb13;by_cases h0v:ve=0
   ·subst h0v;have HF2:=af (HF.out.trans (if_pos rfl));clear HE HF qV;go_wp2_with fail
    go_roundw
    case rel=>exact⟨i+1,by omega,by go_num,HF2.out,hb03⟩
    case measure=>simp[intOf];omega
   ·have hvz:(ve != 0)=true:=by simpa using h0v
    have hvz2:(ve==0)=false:=by simpa using h0v
    have hFe:jv g R=ve:=HF.out.trans (if_neg h0v);have HP:=af (show (cO g K R).2=(none,ve) by unfold cO;rw[if_neg (by rw[hkn];simp),if_pos (by rw[hFe];exact h0v),hFe]);have hw3:=ag.below hw1 hb13 hw1.lt;have hr3:=ag.below hr1 hb13 hr1.lt;clear c0 c1 c0' e0 e1 e2 e3 e4 qV hFe HF;obtain⟨⟨c0,c1⟩,_⟩:=dN hw3;have e0:=dd (T:=78) (cs':=#[.int .i64 g,.slice ka K.length kcap]) c0 (show w.heap.size≠w.heap.size+1 by omega);have e1:=dd (T:=78) (cs':=#[.int .i64 g,.slice ka K.length kcap]) c1 (show w.heap.size≠w.heap.size+1 by omega);clear c0 c1;go_wp2_with fail
    refine cQ (wE W3 (w.heap.size+1) 78 #[.int .i64 g,.slice ka K.length kcap]) [3] rfl (by kernel_rfl) (by kernel_rfl) (by kernel_rfl) (by kernel_rfl) ?_;iterate 3 (refine iK fun K hK=>?_;go_big_quiet_step (fail);refine hK _ ?_;clear hK K)
    refine fS 0 (by kernel_rfl) (by kernel_rfl) rfl (fun _ _ h=>by cases h) (by kernel_rfl) rfl (fun W hW=>?_) ?_
    ·have hWb:=(hW.resolve_right (fun e=>e.1 rfl)).2;have kW:=ag.below hr3 hWb hr3.lt;obtain⟨⟨r0,r1⟩,s0,s1⟩:=dN kW;have hs2:=yA kW (.int .i64 g) (.slice ka K.length kcap);exact⟨_,by go_simp,trivial,.inr ⟨by omega,(ak.of_below hWb).trans hs2.2,hs2.1⟩⟩
    (refine iK fun K hK=>?_;go_big_quiet_step (fail);refine hK _ ?_;clear hK K);refine xW ?_;rintro WE _ hp;obtain⟨_,hkE,kE⟩:=hp.resolve_left (fun e=>by cases e.1);simp only[az];go_wp2_with fail
    (try simp only[Exit.inBlock,Exit.then]);refine bodyPost_ret (dQ rfl _ _ (w.heap.size+1) 78 _ _ rfl kE Tryz.underlying78 rfl (by kernel_rfl)) rfl ?_;exact HE.out W3 WE ve HP.out (ay hb0 hb03) hkE
  ·rw[List.drop_length] at hfe;have hF0:jv g R=0:=hfe;have hval:=jN g R hF0;have hfits:=fun x hx=>nL x (l6 x g (hval x hx));have hPw:cO g K R=match iT g K R with
    |(none,_)=>([],none,7)
    |(some s,K')=>(s,some K',0):=by unfold cO;rw[if_neg (by rw[hkn];simp),if_neg (by rw[hF0];simp)]
   have hpk:=A7 g K R (fun x hx=>aK (hfits x hx).2.2.2.1 (by omega));have q2:=af (Gn g (.slice ka K.length kcap) K wr (hKA.below hbw));rw[show ep g (.slice ka K.length kcap)=.agg #[.int .i64 g,.slice ka K.length kcap] from rfl] at q2;obtain⟨⟨c0,c1⟩,_⟩:=dN hw1;go_wp2_with fail
   refine q2.out.mono ?_;rintro e W4 ⟨n,m,kv4,D4,rfl,hN4,hb4⟩;have hw4:=ag.below hw1 hb4 hw1.lt;have hr4:=ag.below hr1 hb4 hr1.lt;clear c0 c1 q2 hw1 hr1;obtain⟨⟨c0,c1⟩,_⟩:=dN hw4;have q3:=af (fun W=>rh g n W);have hAW:Below w.heap.size w W4:=ay hbw hb4;have hRw:dz w (.slice ra R.length rcap) R:=⟨ra,rcap,rfl,hn,HC.out⟩
   have hg3:g=1\/g=2\/g=3:=by
    unfold gh at hkn;simp only[Bool.and_eq_true,decide_eq_true_eq] at hkn;omega
   clear hval hF0 hfe HC hkn;rcases hg3 with rfl|rfl|rfl
   ·rw[show n7 1 n=.iface 240 (.agg #[]) from rfl] at q3;have q4:=af (KU hAW hN4 hRw (fun x hx=>(hfits x hx).1));clear hfits;rcases hpb:iT 1 K R with⟨r,K'⟩
    rw[hpb] at q4 hPw hpk;go_wp2_with fail
    refine(q3.out _).mono ?_;rintro e _ ⟨rfl,rfl⟩;go_wp2_with fail
    refine q4.out.mono ?_;rintro e W5 ⟨s5,rfl,hs5,kv5,D5,hN5,hT5⟩;simp only at hs5 hN5 hpk;have hw5:=hw4.keptK hT5.kept (dh hN4 (aN hw4) (by decide) (by decide));have hr5:=hr4.keptK hT5.kept (dh hN4 (aN hr4) (by decide) (by decide));have hbW5:=(hbw.mono (aF _)).trans ((hb4.mono hbw.size).trans ((ak.below hT5.kept hb4.size hN4.ge).mono hbw.size));clear q4 q3 hw4 hr4 c0 c1 hN4 hT5 hb4;obtain⟨⟨c0,c1⟩,_⟩:=dN hw5;cases r with
    |none=>
     have HP:=af (show (cO 1 K R).2=(none,7) by rw[hPw]);have e0:=dd (T:=78) (cs':=#[.int .i64 1,.slice ka K.length kcap]) c0 (show w.heap.size≠w.heap.size+1 by omega);have e1:=dd (T:=78) (cs':=#[.int .i64 1,.slice ka K.length kcap]) c1 (show w.heap.size≠w.heap.size+1 by omega);clear c0 c1 hPw;go_wp2_with fail
     refine cQ (wE W5 (w.heap.size+1) 78 #[.int .i64 1,.slice ka K.length kcap]) [2] rfl (by kernel_rfl) (by kernel_rfl) (by kernel_rfl) (by kernel_rfl) ?_;iterate 2 (refine iK fun K hK=>?_;go_big_quiet_step (fail);refine hK _ ?_;clear hK K)
     refine fS 0 (by kernel_rfl) (by kernel_rfl) rfl (fun _ _ h=>by cases h) (by kernel_rfl) rfl (fun W hW=>?_) ?_
     ·have hWb:=(hW.resolve_right (fun e=>e.1 rfl)).2;have kW:=ag.below hr5 hWb hr5.lt;obtain⟨⟨r0,r1⟩,s0,s1⟩:=dN kW;have hs2:=yA kW (.int .i64 1) (.slice ka K.length kcap);exact⟨_,by go_simp,trivial,.inr ⟨by omega,(ak.of_below hWb).trans hs2.2,hs2.1⟩⟩
     (refine iK fun K hK=>?_;go_big_quiet_step (fail);refine hK _ ?_;clear hK K);refine xW ?_;rintro WE _ hp;obtain⟨_,hkE,kE⟩:=hp.resolve_left (fun e=>by cases e.1);simp only[az];go_wp2_with fail
     (try simp only[Exit.inBlock,Exit.then]);refine bodyPost_ret (dQ rfl _ _ (w.heap.size+1) 78 _ _ rfl kE Tryz.underlying78 rfl (by kernel_rfl)) rfl ?_;exact HE.out W5 WE 7 HP.out hbW5 hkE
    |some s0=>
     obtain rfl:=hs5 s0 rfl;have hN5:=hN5 (by simp);obtain⟨na,nc,rfl⟩:=hN5.form;have n0:=(dN hN5.blk).1.1;have hnw:n≠w.heap.size+1:=fun e=>by
      have:=aN hN5.blk;rw[e,aN hr5] at this;simp at this
     have e0:=dd (T:=78) (cs':=#[.int .i64 1,.slice na K'.length nc]) c0 (show w.heap.size≠w.heap.size+1 by omega);have e1:=dd (T:=78) (cs':=#[.int .i64 1,.slice na K'.length nc]) n0 hnw;have HP:=af (show cO 1 K R=(s0,some K',0) by rw[hPw]);have hKA5:iB W5 (.slice na K'.length nc) K':=gE hN5.row (by omega) (fun x hx=>(hpk.2 x hx).elim (fun h=>by
      obtain⟨i,hi⟩:=List.getElem?_of_mem h
      obtain⟨_,_,_,_,hq⟩:=hKA
      exact(hq i x hi).1) (fun h=>by omega))
     have hnk:=dh hN5 (aN hr5) (by decide) (by decide);have hrowt:=hN5.row;clear c0 c1 n0 hPw;go_wp2_with fail
     refine cQ (wE W5 (w.heap.size+1) 78 #[.int .i64 1,.slice na K'.length nc]) [9] rfl (by kernel_rfl) (by kernel_rfl) (by kernel_rfl) (by kernel_rfl) ?_;iterate 7 (refine iK fun K hK=>?_;go_big_quiet_step (fail);refine hK _ ?_;clear hK K)
     (refine Kj (v:=.agg #[.int .i64 1,.slice na K'.length nc]) (fun W hW=>by skip;go_simp) fun K hK=>?_;go_big_quiet_step (fail);refine hK _ ?_;clear hK K)
     (refine iK fun K hK=>?_;go_big_quiet_step (fail);refine hK _ ?_;clear hK K);refine fS 0 (by kernel_rfl) (by kernel_rfl) rfl (fun _ _ h=>by cases h) (by kernel_rfl) rfl (fun W hW=>?_) ?_
     ·have hWb:=(hW.resolve_right (fun e=>e.1 rfl)).2;have kW:=ag.below hr5 hWb hr5.lt;obtain⟨⟨r0,r1⟩,s0,s1⟩:=dN kW;have hs2:=yA kW (.int .i64 1) (.slice na K'.length nc);exact⟨_,by go_simp,trivial,.inr ⟨by omega,(ak.of_below hWb).trans hs2.2,hs2.1⟩⟩
     (refine iK fun K hK=>?_;go_big_quiet_step (fail);refine hK _ ?_;clear hK K);refine xW ?_;rintro WE _ hp;obtain⟨_,hkE,kE⟩:=hp.resolve_left (fun e=>by cases e.1);simp only[az];go_wp2_with fail
     (try simp only[Exit.inBlock,Exit.then]);refine bodyPost_ret (dQ rfl _ _ (w.heap.size+1) 78 _ _ rfl kE Tryz.underlying78 rfl (by kernel_rfl)) rfl ?_;unfold wj;rw[HP.out];refine⟨hbW5.trans (ak.below hkE hbW5.size (fun k hk=>by omega)),_,rfl,?_⟩;have hrowE:=aw hrowt hkE (fun b hb e=>hnk (by rw[<-e];exact .inr (.inr hb)));refine⟨?_,fun b hb=>aX hrowE hb⟩;exact gE hrowE (by omega) (fun x hx=>(hpk.2 x hx).elim (fun h=>by
      obtain⟨i,hi⟩:=List.getElem?_of_mem h
      obtain⟨_,_,_,_,hq⟩:=hKA
      exact(hq i x hi).1) (fun h=>by omega))
   ·rw[show n7 2 n=.iface 242 (.agg #[.pointer (some ⟨n,0,none⟩)]) from rfl] at q3;have q4:=af (KT hAW hbw.size hN4 hRw (fun x hx=>(hfits x hx).2.1) (by omega) hb4.size);clear hfits;rcases hpb:iT 2 K R with⟨r,K'⟩
    rw[hpb] at q4 hPw hpk;go_wp2_with fail
    refine(q3.out _).mono ?_;rintro e _ ⟨rfl,rfl⟩;go_wp2_with fail
    refine q4.out.mono ?_;rintro e W5 ⟨s5,rfl,hs5,kv5,D5,hN5,hT5⟩;simp only at hs5 hN5 hpk;have hw5:=hw4.keptK hT5.kept (dh hN4 (aN hw4) (by decide) (by decide));have hr5:=hr4.keptK hT5.kept (dh hN4 (aN hr4) (by decide) (by decide));have hbW5:=(hbw.mono (aF _)).trans ((hb4.mono hbw.size).trans ((ak.below hT5.kept hb4.size hN4.ge).mono hbw.size));clear q4 q3 hw4 hr4 c0 c1 hN4 hT5 hb4;obtain⟨⟨c0,c1⟩,_⟩:=dN hw5;cases r with
    |none=>
     have HP:=af (show (cO 2 K R).2=(none,7) by rw[hPw]);have e0:=dd (T:=78) (cs':=#[.int .i64 2,.slice ka K.length kcap]) c0 (show w.heap.size≠w.heap.size+1 by omega);have e1:=dd (T:=78) (cs':=#[.int .i64 2,.slice ka K.length kcap]) c1 (show w.heap.size≠w.heap.size+1 by omega);clear c0 c1 hPw;go_wp2_with fail
     refine cQ (wE W5 (w.heap.size+1) 78 #[.int .i64 2,.slice ka K.length kcap]) [2] rfl (by kernel_rfl) (by kernel_rfl) (by kernel_rfl) (by kernel_rfl) ?_;iterate 2 (refine iK fun K hK=>?_;go_big_quiet_step (fail);refine hK _ ?_;clear hK K)
     refine fS 0 (by kernel_rfl) (by kernel_rfl) rfl (fun _ _ h=>by cases h) (by kernel_rfl) rfl (fun W hW=>?_) ?_
     ·have hWb:=(hW.resolve_right (fun e=>e.1 rfl)).2;have kW:=ag.below hr5 hWb hr5.lt;obtain⟨⟨r0,r1⟩,s0,s1⟩:=dN kW;have hs2:=yA kW (.int .i64 2) (.slice ka K.length kcap);exact⟨_,by go_simp,trivial,.inr ⟨by omega,(ak.of_below hWb).trans hs2.2,hs2.1⟩⟩
     (refine iK fun K hK=>?_;go_big_quiet_step (fail);refine hK _ ?_;clear hK K);refine xW ?_;rintro WE _ hp;obtain⟨_,hkE,kE⟩:=hp.resolve_left (fun e=>by cases e.1);simp only[az];go_wp2_with fail
     (try simp only[Exit.inBlock,Exit.then]);refine bodyPost_ret (dQ rfl _ _ (w.heap.size+1) 78 _ _ rfl kE Tryz.underlying78 rfl (by kernel_rfl)) rfl ?_;exact HE.out W5 WE 7 HP.out hbW5 hkE
    |some s0=>
     obtain rfl:=hs5 s0 rfl;have hN5:=hN5 (by simp);obtain⟨na,nc,rfl⟩:=hN5.form;have n0:=(dN hN5.blk).1.1;have hnw:n≠w.heap.size+1:=fun e=>by
      have:=aN hN5.blk;rw[e,aN hr5] at this;simp at this
     have e0:=dd (T:=78) (cs':=#[.int .i64 2,.slice na K'.length nc]) c0 (show w.heap.size≠w.heap.size+1 by omega);have e1:=dd (T:=78) (cs':=#[.int .i64 2,.slice na K'.length nc]) n0 hnw;have HP:=af (show cO 2 K R=(s0,some K',0) by rw[hPw]);have hKA5:iB W5 (.slice na K'.length nc) K':=gE hN5.row (by omega) (fun x hx=>(hpk.2 x hx).elim (fun h=>by
      obtain⟨i,hi⟩:=List.getElem?_of_mem h
      obtain⟨_,_,_,_,hq⟩:=hKA
      exact(hq i x hi).1) (fun h=>by omega))
     have hnk:=dh hN5 (aN hr5) (by decide) (by decide);have hrowt:=hN5.row;clear c0 c1 n0 hPw;go_wp2_with fail
     refine cQ (wE W5 (w.heap.size+1) 78 #[.int .i64 2,.slice na K'.length nc]) [9] rfl (by kernel_rfl) (by kernel_rfl) (by kernel_rfl) (by kernel_rfl) ?_;iterate 7 (refine iK fun K hK=>?_;go_big_quiet_step (fail);refine hK _ ?_;clear hK K)
     (refine Kj (v:=.agg #[.int .i64 2,.slice na K'.length nc]) (fun W hW=>by skip;go_simp) fun K hK=>?_;go_big_quiet_step (fail);refine hK _ ?_;clear hK K)
     (refine iK fun K hK=>?_;go_big_quiet_step (fail);refine hK _ ?_;clear hK K);refine fS 0 (by kernel_rfl) (by kernel_rfl) rfl (fun _ _ h=>by cases h) (by kernel_rfl) rfl (fun W hW=>?_) ?_
     ·have hWb:=(hW.resolve_right (fun e=>e.1 rfl)).2;have kW:=ag.below hr5 hWb hr5.lt;obtain⟨⟨r0,r1⟩,s0,s1⟩:=dN kW;have hs2:=yA kW (.int .i64 2) (.slice na K'.length nc);exact⟨_,by go_simp,trivial,.inr ⟨by omega,(ak.of_below hWb).trans hs2.2,hs2.1⟩⟩
     (refine iK fun K hK=>?_;go_big_quiet_step (fail);refine hK _ ?_;clear hK K);refine xW ?_;rintro WE _ hp;obtain⟨_,hkE,kE⟩:=hp.resolve_left (fun e=>by cases e.1);simp only[az];go_wp2_with fail
     (try simp only[Exit.inBlock,Exit.then]);refine bodyPost_ret (dQ rfl _ _ (w.heap.size+1) 78 _ _ rfl kE Tryz.underlying78 rfl (by kernel_rfl)) rfl ?_;unfold wj;rw[HP.out];refine⟨hbW5.trans (ak.below hkE hbW5.size (fun k hk=>by omega)),_,rfl,?_⟩;have hrowE:=aw hrowt hkE (fun b hb e=>hnk (by rw[<-e];exact .inr (.inr hb)));refine⟨?_,fun b hb=>aX hrowE hb⟩;exact gE hrowE (by omega) (fun x hx=>(hpk.2 x hx).elim (fun h=>by
      obtain⟨i,hi⟩:=List.getElem?_of_mem h
      obtain⟨_,_,_,_,hq⟩:=hKA
      exact(hq i x hi).1) (fun h=>by omega))
   ·rw[show n7 3 n=.iface 244 (.agg #[.pointer (some ⟨n,0,none⟩)]) from rfl] at q3;have q4:=af (KS hAW hbw.size hN4 hRw (fun x hx=>(hfits x hx).2.2) hR1 hK hb4.size);clear hfits;rcases hpb:iT 3 K R with⟨r,K'⟩
    rw[hpb] at q4 hPw hpk;go_wp2_with fail
    refine(q3.out _).mono ?_;rintro e _ ⟨rfl,rfl⟩;go_wp2_with fail
    refine q4.out.mono ?_;rintro e W5 ⟨s5,rfl,hs5,kv5,D5,hN5,hT5⟩;simp only at hs5 hN5 hpk;have hw5:=hw4.keptK hT5.kept (dh hN4 (aN hw4) (by decide) (by decide));have hr5:=hr4.keptK hT5.kept (dh hN4 (aN hr4) (by decide) (by decide));have hbW5:=(hbw.mono (aF _)).trans ((hb4.mono hbw.size).trans ((ak.below hT5.kept hb4.size hN4.ge).mono hbw.size));clear q4 q3 hw4 hr4 c0 c1 hN4 hT5 hb4;obtain⟨⟨c0,c1⟩,_⟩:=dN hw5;cases r with
    |none=>
     have HP:=af (show (cO 3 K R).2=(none,7) by rw[hPw]);have e0:=dd (T:=78) (cs':=#[.int .i64 3,.slice ka K.length kcap]) c0 (show w.heap.size≠w.heap.size+1 by omega);have e1:=dd (T:=78) (cs':=#[.int .i64 3,.slice ka K.length kcap]) c1 (show w.heap.size≠w.heap.size+1 by omega);clear c0 c1 hPw;go_wp2_with fail
     refine cQ (wE W5 (w.heap.size+1) 78 #[.int .i64 3,.slice ka K.length kcap]) [2] rfl (by kernel_rfl) (by kernel_rfl) (by kernel_rfl) (by kernel_rfl) ?_;iterate 2 (refine iK fun K hK=>?_;go_big_quiet_step (fail);refine hK _ ?_;clear hK K)
     refine fS 0 (by kernel_rfl) (by kernel_rfl) rfl (fun _ _ h=>by cases h) (by kernel_rfl) rfl (fun W hW=>?_) ?_
     ·have hWb:=(hW.resolve_right (fun e=>e.1 rfl)).2;have kW:=ag.below hr5 hWb hr5.lt;obtain⟨⟨r0,r1⟩,s0,s1⟩:=dN kW;have hs2:=yA kW (.int .i64 3) (.slice ka K.length kcap);exact⟨_,by go_simp,trivial,.inr ⟨by omega,(ak.of_below hWb).trans hs2.2,hs2.1⟩⟩
     (refine iK fun K hK=>?_;go_big_quiet_step (fail);refine hK _ ?_;clear hK K);refine xW ?_;rintro WE _ hp;obtain⟨_,hkE,kE⟩:=hp.resolve_left (fun e=>by cases e.1);simp only[az];go_wp2_with fail
     (try simp only[Exit.inBlock,Exit.then]);refine bodyPost_ret (dQ rfl _ _ (w.heap.size+1) 78 _ _ rfl kE Tryz.underlying78 rfl (by kernel_rfl)) rfl ?_;exact HE.out W5 WE 7 HP.out hbW5 hkE
    |some s0=>
     obtain rfl:=hs5 s0 rfl;have hN5:=hN5 (by simp);obtain⟨na,nc,rfl⟩:=hN5.form;have n0:=(dN hN5.blk).1.1;have hnw:n≠w.heap.size+1:=fun e=>by
      have:=aN hN5.blk;rw[e,aN hr5] at this;simp at this
     have e0:=dd (T:=78) (cs':=#[.int .i64 3,.slice na K'.length nc]) c0 (show w.heap.size≠w.heap.size+1 by omega);have e1:=dd (T:=78) (cs':=#[.int .i64 3,.slice na K'.length nc]) n0 hnw;have HP:=af (show cO 3 K R=(s0,some K',0) by rw[hPw]);have hKA5:iB W5 (.slice na K'.length nc) K':=gE hN5.row (by omega) (fun x hx=>(hpk.2 x hx).elim (fun h=>by
      obtain⟨i,hi⟩:=List.getElem?_of_mem h
      obtain⟨_,_,_,_,hq⟩:=hKA
      exact(hq i x hi).1) (fun h=>by omega))
     have hnk:=dh hN5 (aN hr5) (by decide) (by decide);have hrowt:=hN5.row;clear c0 c1 n0 hPw;go_wp2_with fail
     refine cQ (wE W5 (w.heap.size+1) 78 #[.int .i64 3,.slice na K'.length nc]) [9] rfl (by kernel_rfl) (by kernel_rfl) (by kernel_rfl) (by kernel_rfl) ?_;iterate 7 (refine iK fun K hK=>?_;go_big_quiet_step (fail);refine hK _ ?_;clear hK K)
     (refine Kj (v:=.agg #[.int .i64 3,.slice na K'.length nc]) (fun W hW=>by skip;go_simp) fun K hK=>?_;go_big_quiet_step (fail);refine hK _ ?_;clear hK K)
     (refine iK fun K hK=>?_;go_big_quiet_step (fail);refine hK _ ?_;clear hK K);refine fS 0 (by kernel_rfl) (by kernel_rfl) rfl (fun _ _ h=>by cases h) (by kernel_rfl) rfl (fun W hW=>?_) ?_
     ·have hWb:=(hW.resolve_right (fun e=>e.1 rfl)).2;have kW:=ag.below hr5 hWb hr5.lt;obtain⟨⟨r0,r1⟩,s0,s1⟩:=dN kW;have hs2:=yA kW (.int .i64 3) (.slice na K'.length nc);exact⟨_,by go_simp,trivial,.inr ⟨by omega,(ak.of_below hWb).trans hs2.2,hs2.1⟩⟩
     (refine iK fun K hK=>?_;go_big_quiet_step (fail);refine hK _ ?_;clear hK K);refine xW ?_;rintro WE _ hp;obtain⟨_,hkE,kE⟩:=hp.resolve_left (fun e=>by cases e.1);simp only[az];go_wp2_with fail
     (try simp only[Exit.inBlock,Exit.then]);refine bodyPost_ret (dQ rfl _ _ (w.heap.size+1) 78 _ _ rfl kE Tryz.underlying78 rfl (by kernel_rfl)) rfl ?_;unfold wj;rw[HP.out];refine⟨hbW5.trans (ak.below hkE hbW5.size (fun k hk=>by omega)),_,rfl,?_⟩;have hrowE:=aw hrowt hkE (fun b hb e=>hnk (by rw[<-e];exact .inr (.inr hb)));refine⟨?_,fun b hb=>aX hrowE hb⟩;exact gE hrowE (by omega) (fun x hx=>(hpk.2 x hx).elim (fun h=>by
      obtain⟨i,hi⟩:=List.getElem?_of_mem h
      obtain⟨_,_,_,_,hq⟩:=hKA
      exact(hq i x hi).1) (fun h=>by omega))
theorem F2(c:CS)(h:(sN c).2=false):(sN c).1.length<c.1.length:=by
 unfold sN Num.nxt at*;split at h
 ·rename_i h1;rw[h1] at h;cases h
 ·rename_i h1;rw[if_neg h1];cases hg:Num.getSmall c.1 with
  |none=>rw[hg] at h;cases h
  |some x=>
   obtain⟨v,k⟩:=x;obtain⟨_,h2,h3⟩:=Num.getSmall_only _ _ _ hg;have:=Num.small_len v;have:=congrArg List.length h3;simp only[aG,List.length_drop] at this⊢;omega
theorem tK(smp:CS->(Int×Nat)×CS)(hs:∀c,(smp c).2.1.length<=c.1.length)(K:List (List UInt8))(c:CS)(x:Rc)(K':List (List UInt8))(c':CS)(h:qX smp K c=(some (x,K'),c')):c'.1.length<c.1.length:=by
 by_cases hb:(sN c).2=true\/2<sV c
 ·unfold qX at h;rw[if_pos hb] at h;cases h
 ·have hb2:(sN c).2=false:=by
   cases he:(sN c).2 with
   |false=>rfl
   |true=>exact absurd (.inl he) hb
  have h1:=F2 c hb2;refine Nat.lt_of_le_of_lt ?_ h1;have h2:=xf K (sN c);unfold qX at h;rw[if_neg hb] at h;split at h
  ·split at h
   ·cases h
   ·rw[<-(Prod.mk.inj h).2];exact ev _ _
  ·rcases hn:jn K (sN c) with⟨r,c2⟩
   rw[hn] at h h2;cases r with
   |none=>cases h
   |some z=>
    obtain⟨L,K2⟩:=z;dsimp only at h;split at h
    ·split at h
     ·cases h
     ·rw[<-(Prod.mk.inj h).2];exact aK (hs _) h2
    ·split at h
     ·cases h
     ·rw[<-(Prod.mk.inj h).2];exact aK (aK (ev _ _) (ev _ _)) h2
theorem FY(c:CS):(KI c).2.1.length<=c.1.length:=aK (ev _ _) (ev _ _)
theorem lP:∀(q:Nat) (K:List (List UInt8)) (lt:Int) (lv:Nat) (c:CS) (l:List Rc) (K':List (List UInt8)) (c':CS),jz q K lt lv c=(some (l,K'),c')->K'.length+c'.1.length<=K.length+c.1.length/\l.length+c'.1.length<=c.1.length/\∀k∈K',k∈K\/k.length<=600
 |0,K,lt,lv,c,l,K',c',h=>by
  obtain⟨h1,rfl⟩:=Prod.mk.inj h;obtain⟨rfl,rfl⟩:=Prod.mk.inj (aA h1);exact⟨aF _,by simp,fun k hk=>.inl hk⟩
 |q+1,K,lt,lv,c,l,K',c',h=>by
  unfold jz at h;rcases hg:qX (J9 lt lv) K c with⟨r,c1⟩
  rw[hg] at h;cases r with
  |none=>cases h
  |some z=>
   obtain⟨x,K1⟩:=z;have h1:=tK _ (FX lt lv) K c x K1 c1 hg;have h2:=tJ _ K c x K1 c1 hg;dsimp only at h;split at h
   ·cases h
   ·rcases hr:jz q K1 (if x.kind=0 then x.t else lt) (if x.kind=0 then x.v else lv) c1 with⟨r2,c2⟩
    rw[hr] at h;cases r2 with
    |none=>cases h
    |some z2=>
     obtain⟨l2,K2⟩:=z2;have ih:=lP q K1 _ _ c1 l2 K2 c2 hr;obtain⟨h3,rfl⟩:=Prod.mk.inj h;obtain⟨rfl,rfl⟩:=Prod.mk.inj (aA h3);refine⟨by omega,by simp only[de];omega,fun k hk=>?_⟩;exact(ih.2.2 k hk).elim (h2.2 k) .inr
theorem ny(s:List UInt8)(m:Nat)(h:(aB s m).2.2=0):(aB s m).1.length+(aB s m).2.1.length<s.length:=by
 unfold aB at h⊢;cases hg:Num.getSmall s with
 |none=>
  rw[hg] at h;simp only at h;split at h<;>cases h
 |some z=>
  obtain⟨n,k⟩:=z;rw[hg] at h;simp only at h⊢;split at h
  ·cases h
  ·rename_i h1;rw[if_neg h1];split at h
   ·cases h
   ·rename_i h2;rw[if_neg h2];split at h
    ·rename_i h3;rw[if_pos h3];simp only[dt,List.length_drop] at h2⊢;omega
    ·cases h
def qW(g:Int)(K:List (List UInt8))(s:List UInt8):Option (List Rc×List (List UInt8)×List UInt8)×Int:=
 if g=1 then match gi s with
  |(none,e)=>(none,e)
  |(some x,e)=>(some ([x],K,s.drop 186),e)
 else if g=2 then match yz K s with
  |(none,e)=>(none,e)
  |(some (x,K'),e)=>(some ([x],K',(aB s 20000).2.1),e)
 else match H6 K s with
  |(none,e)=>(none,e)
  |(some (l,K'),e)=>(some (l,K',(aB s 20000).2.1),e)
theorem BO(g:Int)(K:List (List UInt8))(s:List UInt8)(l:List Rc)(K':List (List UInt8))(r:List UInt8)(e:Int)(h:qW g K s=(some (l,K',r),e)):K'.length+r.length<=K.length+s.length/\l.length+r.length<=s.length/\r.length<s.length/\∀k∈K',k∈K\/k.length<=600:=by
 unfold qW at h;split at h
 ·unfold gi at h;split at h
  ·cases h
  ·rename_i x e2 hf;obtain⟨h1,_⟩:=Prod.mk.inj h;obtain⟨rfl,h2⟩:=Prod.mk.inj (aA h1);obtain⟨rfl,rfl⟩:=Prod.mk.inj h2;split at hf
   ·cases hf
   ·refine⟨by simp,by simp;omega,by simp;omega,fun k hk=>.inl hk⟩
 ·split at h
  ·split at h
   ·cases h
   ·rename_i x K2 e2 hf;obtain⟨h1,_⟩:=Prod.mk.inj h;obtain⟨rfl,h2⟩:=Prod.mk.inj (aA h1);obtain⟨rfl,rfl⟩:=Prod.mk.inj h2;unfold yz at hf;split at hf
    ·cases hf
    ·rename_i hz;have hc:=ny s 20000 (by simpa using hz);split at hf
     ·cases hf
     ·rename_i x3 K3 c3 hp;split at hf
      ·cases hf
      ·obtain⟨h4,_⟩:=Prod.mk.inj hf;obtain⟨rfl,rfl⟩:=Prod.mk.inj (aA h4);have h5:=tK _ FY _ _ _ _ _ hp;have h6:=tJ _ _ _ _ _ _ hp;simp only at h5;refine⟨by omega,by simp only[de,List.length_nil];omega,by omega,h6.2⟩
  ·split at h
   ·cases h
   ·rename_i l2 K2 e2 hf;obtain⟨h1,_⟩:=Prod.mk.inj h;obtain⟨rfl,h2⟩:=Prod.mk.inj (aA h1);obtain⟨rfl,rfl⟩:=Prod.mk.inj h2;unfold H6 at hf;split at hf
    ·cases hf
    ·rename_i hz;have hc:=ny s 20000 (by simpa using hz);split at hf
     ·cases hf
     ·split at hf
      ·cases hf
      ·rename_i x3 K3 c3 hp;split at hf
       ·cases hf
       ·obtain⟨h4,_⟩:=Prod.mk.inj hf;obtain⟨rfl,rfl⟩:=Prod.mk.inj (aA h4);have h5:=lP _ _ _ _ _ _ _ _ hp;have h6:(sN ((aB s 20000).1,false)).1.length<=(aB s 20000).1.length:=ev _ _;refine⟨by omega,by omega,by omega,h5.2.2⟩
def dq(g:Int):Nat->List (List UInt8)->List UInt8->Option (List Rc×List (List UInt8)×List UInt8×Bool)
 |0,K,s=>some ([],K,s,false)
 |q+1,K,s=>if s=[] then some ([],K,s,false) else match qW g K s with
  |(none,e)=>if e=2 then none else some ([],K,s,true)
  |(some (l,K',r),_)=>match dq g q K' r with
   |none=>none
   |some (l2,K2,r2,t)=>some (l++l2,K2,r2,t)
structure Sg where
 gen:Int
 flags:Int
 recs:List Rc
 keys:List (List UInt8)
 used:Int
 torn:Bool
def eq(s:List UInt8):Option Sg×Int:=
 match cY s cv with
 |(g,f,r,e)=>if e≠0 then(none,e) else match dq g r.length [] r with
  |none=>(none,9)
  |some (l,K,r2,t)=>(some ⟨g,f,l,K,(s.length:Int)-r2.length,t⟩,0)
def ij(Z:List Rc):Option (List Rc×List (List UInt8)×List UInt8×Bool)->Option (List Rc×List (List UInt8)×List UInt8×Bool)
 |none=>none
 |some (l,K,r,t)=>some (Z++l,K,r,t)
theorem Ad(x:Option (List Rc×List (List UInt8)×List UInt8×Bool)):ij [] x=x:=by
 cases x<;>rfl
theorem Ae(a b:List Rc)(x:Option (List Rc×List (List UInt8)×List UInt8×Bool)):ij a (ij b x)=ij (a++b) x:=by
 cases x with
 |none=>rfl
 |some z=>simp[ij]
theorem Ee(s:List UInt8)(h:(cY s cv).2.2.2=0):1<=(cY s cv).1/\(cY s cv).1<=3/\(cY s cv).2.1<=3/\(cY s cv).2.2.1=s.drop 10/\10<=s.length:=by
 unfold cY at h⊢;split
 ·rename_i h1;rw[if_pos h1] at h;cases h
 ·rename_i h1;rw[if_neg h1] at h;split at h
  ·cases h
  ·rename_i b hb;split at h
   ·cases h
   ·rename_i h2;split at h
    ·cases h
    ·rename_i h3;split at h
     ·cases h
     ·rename_i h4;simp only[if_neg h2,if_neg h3,if_neg h4];have:cv.length=4:=rfl;refine⟨by omega,by omega,by omega,rfl,by omega⟩
def K9 (w:World)(B n m:Nat)(kv:Value)(s:List UInt8)(r:Option (List Rc×List (List UInt8)×List UInt8)×Int)(e:Ending)(w':World):Prop:=
 Below B w w'/\match r.1 with
  |none=>e=.returned (.tuple #[.slice none 0 0,.string (bs s),.int .i64 r.2])/\(r.2=2\/(r.2=1/\Below w.heap.size w w'))
  |some (l,K',rest)=>∃v Z kv' D',e=.returned (.tuple #[v,.string (bs rest),.int .i64 0])/\Ik w' v Z/\Z.map (·.1)=l/\a8 w' B n K' kv' m D'/\dH w w' (NF n m kv) (NF n m kv')
theorem ES(s:List UInt8)(h:(gi s).1=none):(gi s).2=2\/(gi s).2=1:=by
 unfold gi at*;split
 ·exact .inr rfl
 ·rename_i h1;rw[if_neg h1] at h;split
  ·exact .inl rfl
  ·rename_i h2;rw[if_neg h2] at h;cases h
section
variable {w:World} {B n m:Nat} {K:List (List UInt8)} {kv:Value} {D:DataW Unit}
theorem KV(s:List UInt8)(h:a8 w B n K kv m D)(hl:s.length<=1000000)(hB:B<=w.heap.size):
 Calls Tryz.prog 398 #[.agg #[],.string (bs s)] w (K9 w B n m kv s (qW 1 K s)):=by
 refine(uQ s w hl).mono ?_
 rintro e w' ⟨h1,hb⟩
 have hp:qW 1 K s=match gi s with
  |(none,e)=>(none,e)
  |(some x,e)=>(some ([x],K,s.drop 186),e):=rfl
 have hs:=ES s
 unfold rx at h1
 rw[hp]
 rcases hf:gi s with⟨r,e1⟩
 rw[hf] at h1 hs
 cases r with
 |none=>exact⟨hb.mono hB,h1,(hs rfl).imp id fun h=>⟨h,hb⟩⟩
 |some x=>
  obtain⟨v,sl,rfl,hg⟩:=h1;exact⟨hb.mono hB,v,_,kv,D,rfl,hg,rfl,h.below hb,dH.of_below hb⟩
end
theorem nk:∀(Z:List (Rc×Value)) (i:Nat) (z:Rc×Value),Z[i]?=some z->∀j u,(gu z.1 z.2)[j]?=some u->(aV Z)[i*5+j]?=some u
 |[],i,z,h,_,_,_=>by simp at h
 |y::Z,0,z,h,j,u,hj=>by
  obtain rfl:y=z:=by simpa using h
  unfold aV;rw[List.flatMap_cons,Nat.zero_mul,Nat.zero_add,List.getElem?_append_left,hj];exact(List.getElem?_eq_some_iff.1 hj).1
 |y::Z,i+1,z,h,j,u,hj=>by
  have ih:=nk Z i z (by simpa using h) j u hj;unfold aV at*;rw[List.flatMap_cons,show (i+1)*5+j=5+(i*5+j) by omega,show 5+(i*5+j)=(gu y.1 y.2).length+(i*5+j) from rfl,List.getElem?_append_right (by omega),Nat.add_sub_cancel_left];exact ih
theorem A4{w:World}{B:Nat}{v:Value}{Z:List (Rc×Value)}(h:w.ownsRow B 108 5 v Z.length (aV Z))(hn:Z.length<=1048576)(hl:∀z∈Z,z.1.ok/\cV w z.2 z.1.labels):dz w v (Z.map (·.1)):=by
 have hcells:∀g,v.ownBlock=some g->∀j u,(aV Z)[j]?=some u->w.cell? ((⟨g,0,none⟩:Addr).add j)=some u:=fun g hg=>h.cells (g:=g) hg;rcases h.2 with⟨e,e0⟩|⟨g,cap,cur,e,e1,e2,e3⟩
 ·refine⟨none,0,by rw[e,List.length_map,e0],by rwa[List.length_map],fun i x hx=>?_⟩;rw[List.length_eq_zero_iff.1 e0] at hx;simp at hx
 ·refine⟨some ⟨g,0,none⟩,cap,by rw[List.length_map];exact e,by rwa[List.length_map],fun i x hx=>?_⟩;rw[List.getElem?_map] at hx;cases hz:Z[i]? with
  |none=>rw[hz] at hx;cases hx
  |some z=>
   rw[hz] at hx;obtain rfl:z.1=x:=by simpa using hx
   obtain⟨hok,hL⟩:=hl z (List.mem_of_getElem? hz);have hc:∀j u,(gu z.1 z.2)[j]?=some u->w.cell? ⟨g,0+i*5+j,none⟩=some u:=fun j u hj=>by
    have:=hcells g (by rw[e];rfl) (i*5+j) u (nk Z i z hz j u hj);rw[eY] at this;rw[show 0+i*5+j=i*5+j by omega];exact this
   refine⟨g,0,rfl,hok,z.2,?_,?_,hL.1,?_,?_,?_⟩
   ·exact hc 0 _ rfl
   ·exact hc 1 _ rfl
   ·exact hc 2 _ rfl
   ·exact hc 3 _ rfl
   ·exact hc 4 _ rfl
theorem gH{W:World}{b:Nat}{T:TypeId}{u0 u1 u2 u3 u4 u5:Value}(h:ag W b T #[u0,u1,u2,u3,u4,u5]):
 (W.cell? ⟨b,0,none⟩=some u0/\W.cell? ⟨b,1,none⟩=some u1/\W.cell? ⟨b,2,none⟩=some u2/\W.cell? ⟨b,3,none⟩=some u3/\W.cell? ⟨b,4,none⟩=some u4/\W.cell? ⟨b,5,none⟩=some u5)/\
  W.frozen? ⟨b,0,none⟩=false/\W.frozen? ⟨b,1,none⟩=false/\W.frozen? ⟨b,2,none⟩=false/\W.frozen? ⟨b,3,none⟩=false/\W.frozen? ⟨b,4,none⟩=false/\W.frozen? ⟨b,5,none⟩=false:=
 ⟨⟨(ag.cell h 0).trans rfl,(ag.cell h 1).trans rfl,(ag.cell h 2).trans rfl,(ag.cell h 3).trans rfl,(ag.cell h 4).trans rfl,(ag.cell h 5).trans rfl⟩,ag.frozen h 0,ag.frozen h 1,ag.frozen h 2,ag.frozen h 3,ag.frozen h 4,ag.frozen h 5⟩
theorem uI{w:World}(Z:List (Rc×Value))(h:∀z∈Z,z.1.ok/\cV w z.2 z.1.labels):∀u∈aV Z,u.oneCell'=true:=fun u hu=>by
 unfold aV at hu;obtain⟨z,hz,hu⟩:=List.mem_flatMap.1 hu;obtain⟨a,c,e,_⟩:=(h z hz).2.1;rw[e] at hu;simp only[gu,List.mem_cons,List.not_mem_nil,or_false] at hu;rcases hu with rfl|rfl|rfl|rfl|rfl<;>rfl
theorem Kb{W:World}{b:Nat}{T:TypeId}{u0 u1 u2 u3 u4 u5:Value}(h:ag W b T #[u0,u1,u2,u3,u4,u5])(v0 v1 v2 v3 v4 v5:Value):
 ag ((((((W.setCell ⟨b,0,none⟩ v0).setCell ⟨b,1,none⟩ v1).setCell ⟨b,2,none⟩ v2).setCell ⟨b,3,none⟩ v3).setCell ⟨b,4,none⟩ v4).setCell ⟨b,5,none⟩ v5) b T #[v0,v1,v2,v3,v4,v5]/\
  ak W ((((((W.setCell ⟨b,0,none⟩ v0).setCell ⟨b,1,none⟩ v1).setCell ⟨b,2,none⟩ v2).setCell ⟨b,3,none⟩ v3).setCell ⟨b,4,none⟩ v4).setCell ⟨b,5,none⟩ v5) (fun k=>k=b):=
 ⟨ag.set_ (ag.set_ (ag.set_ (ag.set_ (ag.set_ (ag.set_ h 0 v0) 1 v1) 2 v2) 3 v3) 4 v4) 5 v5,
  ak.of_grown (bi (bi (bi (bi (bi (ap _ _ _ _) (ap _ _ _ _)) (ap _ _ _ _)) (ap _ _ _ _)) (ap _ _ _ _)) (ap _ _ _ _)) fun _ e=>(aA e).symm⟩
theorem GW{W:World}{p gx:Nat}{Z:List (Rc×Value)}{T:TypeId}{a0 a1 a2 a4 a5:Value}{t:Bool}(hpc:∀j u,(aV Z)[j]?=some u->W.cell? ((⟨p,0,none⟩:Addr).add j)=some u)(hx:ag W gx T #[a0,a1,a2,.bool t,a4,a5]):
 ∀(j:Nat) (u:Value),(aV Z)[j]?=some u->p≠gx:=fun j u hj e=>by
 cases Z with
 |nil=>cases hj
 |cons z Z=>
  have:=hpc 3 (.int .i64 z.1.u) rfl;rw[eY,e] at this;have:=this.symm.trans (gH hx).1.2.2.2.1;cases this
def oi(s:List UInt8)(e:Ending)(w':World):Prop:=match (eq s).1 with
 |none=>e=.returned (.tuple #[.agg #[.int .i64 0,.slice none 0 0,.int .i64 0,.bool false,.int .i64 0,.slice none 0 0],.int .i64 (eq s).2])
 |some x=>∃rv kv,e=.returned (.tuple #[.agg #[.int .i64 x.flags,rv,.int .i64 x.used,.bool x.torn,.int .i64 x.gen,kv],.int .i64 0])/\dz w' rv x.recs/\iB w' kv x.keys
def FU:Value->Nat
 |.string b=>b.size
 |_=>0
def kP(w:World)(g:Nat):Nat:=match w.cell? ⟨g,3,none⟩ with
 |some (.bool true)=>0
 |_=>1
theorem Ig(s:List UInt8)(w:World)(hl:s.length<=1000000)(h1g:(cY s cv).2.2.2=0->(cY s cv).1=1):
 Calls Tryz.prog 139 #[.string (bs s)] w fun e w'=>oi s e w'/\Below w.heap.size w w':=by
 have b0:=ai w (.cells #[.int .i64 0,.slice none 0 0,.int .i64 0,.bool false,.int .i64 0,.slice none 0 0] 204)
 have k0:ag (w.alloc (.cells #[.int .i64 0,.slice none 0 0,.int .i64 0,.bool false,.int .i64 0,.slice none 0 0] 204)) w.heap.size 204 #[.int .i64 0,.slice none 0 0,.int .i64 0,.bool false,.int .i64 0,.slice none 0 0]:=ag.new _ _ _
 have q0:=af (fun W=>Al s cv (by omega) (by decide) W)
 have hm:(⟨#[65,87,65,76]⟩:ByteArray)=bs cv:=rfl
 have hR0:eq s=match cY s cv with
  |(g,f,r,e)=>if e≠0 then(none,e) else match dq g r.length [] r with
   |none=>(none,9)
   |some (l,K,r2,t)=>(some ⟨g,f,l,K,(s.length:Int)-r2.length,t⟩,0):=rfl
 have hgen:=Ee s
 have HB:=af (show ∀w' x,eq s=(none,x)->Below w.heap.size w w'->oi s (.returned (.tuple #[.agg #[.int .i64 0,.slice none 0 0,.int .i64 0,.bool false,.int .i64 0,.slice none 0 0],.int .i64 x])) w'/\Below w.heap.size w w' from fun w' x e hb=>by
  unfold oi
  rw[e]
  exact⟨rfl,hb⟩)
 have HT:=af (show ∀w' x rv kv,eq s=(some x,0)->Below w.heap.size w w'->dz w' rv x.recs->iB w' kv x.keys->oi s (.returned (.tuple #[.agg #[.int .i64 x.flags,rv,.int .i64 x.used,.bool x.torn,.int .i64 x.gen,kv],.int .i64 0])) w'/\Below w.heap.size w w' from fun w' x rv kv e hb h1 h2=>by
  unfold oi
  rw[e]
  exact⟨⟨rv,kv,rfl,h1,h2⟩,hb⟩)
 generalize eq s=R at*
 rcases hop:cY s cv with⟨g,f,r0,e0⟩
 rw[hop] at q0 hR0 hgen h1g
 rw[show oI (g,f,r0,e0)=.tuple #[.int .i64 (g:Int),.int .i64 (f:Int),.string (bs r0),.int .i64 e0] from rfl] at q0
 simp only at hR0 hgen h1g
 clear hop
 by_cases he:e0=0
 ·subst he;rw[if_neg (by simp)] at hR0;obtain⟨hg1,hg3,hf3,hr0,hs10⟩:=hgen rfl;have hr0l:r0.length+10<=s.length:=by rw[hr0,List.length_drop];omega
  have HR:=af hR0;have H1:=af (h1g rfl);clear hR0 hgen hr0 h1g;go_enter Tryz.func139,Tryz.ntmps139
  go_wp2_with fail
  refine(q0.out _).mono ?_;rintro e W1 ⟨rfl,hb1⟩;have k1:=ag.below k0 hb1 k0.lt;have hbw1:=ay b0 hb1;have qo:=af (Gn 0 (.slice none 0 0) [] W1 ⟨none,0,rfl,by simp,fun i x hx=>by simp at hx⟩);rw[show ep 0 (.slice none 0 0)=.agg #[.int .i64 0,.slice none 0 0] from rfl] at qo;clear k0 b0 hb1 q0;go_wp2_with fail
  refine qo.out.mono ?_;rintro e W2 ⟨n,m,kv,D,rfl,hN,hb2⟩;have k2:=ag.below k1 hb2 k1.lt;have hbw2:=ay hbw1 hb2;have qc:=af (fun W=>rh (g:Int) n W);have hB2:=hb2.size;have hBw:=k1.lt;clear k1 hb2 qo;generalize W1.heap.size=B at*;go_wp2_with fail
  refine(qc.out _).mono ?_;rintro e _ ⟨rfl,rfl⟩;have kx:ag (W2.alloc (.cells #[.int .i64 (f:Int),.slice none 0 0,.int .i64 0,.bool false,.int .i64 0,.slice none 0 0] 204)) W2.heap.size 204 #[.int .i64 (f:Int),.slice none 0 0,.int .i64 0,.bool false,.int .i64 0,.slice none 0 0]:=ag.new _ _ _;have hb3:=ai W2 (.cells #[.int .i64 (f:Int),.slice none 0 0,.int .i64 0,.bool false,.int .i64 0,.slice none 0 0] 204);have hlk:=k2.lt;clear qc;go_wp2_with fail
  generalize W2.alloc (.cells #[.int .i64 (f:Int),.slice none 0 0,.int .i64 0,.bool false,.int .i64 0,.slice none 0 0] 204)=W3 at*;have k3:=ag.below k2 hb3 hlk;have hN3:=hN.below hb3;have hbw3:=ay hbw2 hb3;have hB3:B<=W3.heap.size:=aK hB2 hb3.size;clear k2 hN hbw2 hb3;generalize W2.heap.size=gx at*;have hrow0:W3.ownsRow w.heap.size 108 5 (.slice none 0 0) ([]:List (Rc×Value)).length (aV []):=eE;generalize hwb:w.heap.size=bw at*;go_loopw [6] (fun v6 wr=>∃(r:List UInt8) (Z:List (Rc×Value)) (Ki:List (List UInt8)) (kvi:Value) (Di:DataW Unit) (t:Bool) (rv:Value),v6=.string (bs r)/\r.length<=r0.length/\
   (if t then dq g r0.length [] r0=some (Z.map (·.1),Ki,r,true) else ∃q,r.length<=q/\dq g r0.length [] r0=ij (Z.map (·.1)) (dq g q Ki r))/\
   a8 wr B n Ki kvi m Di/\Ki.length+r.length<=r0.length/\Z.length+r.length<=r0.length/\(∀k∈Ki,k.length<=600)/\
   ag wr gx 204 #[.int .i64 (f:Int),rv,.int .i64 0,.bool t,.int .i64 0,.slice none 0 0]/\wr.ownsRow bw 108 5 rv Z.length (aV Z)/\
   (∀z∈Z,z.1.ok/\cV wr z.2 z.1.labels)/\ag wr bw 204 #[.int .i64 0,.slice none 0 0,.int .i64 0,.bool false,.int .i64 0,.slice none 0 0]/\B<=wr.heap.size/\Below bw w wr) (fun v6 wr=>FU v6*2+kP wr gx)
  case atStart=>
   refine⟨r0,[],[],kv,D,false,.slice none 0 0,rfl,aF _,?_,hN3,by simp,by simp,by simp,kx,hrow0,by simp,k3,hB3,hbw3⟩;exact⟨r0.length,aF _,(Ad _).symm⟩
  clear hN3 hrow0 k3 kx hB3 hbw3 hB2 hbw1;obtain⟨r,Z,Ki,kvi,Di,t,rv,rfl,hrl,hP,hN,hKi,hZl,hKil,hx,hrow,hZ,hk,hB,hbw⟩:=hrel;obtain⟨⟨c0,c1,c2,c3,c4,c5⟩,f0,f1,f2,f3,f4,f5⟩:=gH hx;have hxn:=dh hN (aN hx) (by decide) (by decide);have hkn:=dh hN (aN hk) (by decide) (by decide);have HQ:(r=[]\/t=true)->dq g r0.length [] r0=some (Z.map (·.1),Ki,r,t):=fun h=>by
   cases t with
   |true=>exact hP
   |false=>
    have hre:r=[]:=h.resolve_right (by simp);obtain⟨q,_,hq⟩:=hP;rw[hq,hre];cases q with
    |zero=>simp[dq,ij]
    |succ q=>simp[dq,ij]
  have hxk:gx≠bw:=by omega
  have hrv:∃a c,rv=.slice a Z.length c:=aH hrow;by_cases hend:r=[]\/t=true
  ·have hF:R=(some ⟨g,f,Z.map (·.1),Ki,(s.length:Int)-r.length,t⟩,0):=by rw[HR.out,HQ hend]
   have hF:=af hF;obtain⟨na,nc,rfl⟩:=hN.form;have n0:=(dN hN.blk).1.1;have hwl:IntKind.i64.wrap ((s.length:Int)-(r.length:Int))=(s.length:Int)-(r.length:Int):=by simp[IntKind.wrap,IntKind.bits,IntKind.signed];omega
   have hs1:=ag.set_ hx 2 (.int .i64 ((s.length:Int)-(r.length:Int)));have hs2:=ag.set_ (ag.set_ hs1 4 (.int .i64 (g:Int))) 5 (.slice na Ki.length nc);have hk1:ak wr (wr.setCell ⟨gx,2,none⟩ (.int .i64 ((s.length:Int)-(r.length:Int)))) (fun k=>k=gx):=ak.of_grown (ap _ _ _ _) fun _ e=>(aA e).symm;have hk2:ak wr (((wr.setCell ⟨gx,2,none⟩ (.int .i64 ((s.length:Int)-(r.length:Int)))).setCell ⟨gx,4,none⟩ (.int .i64 (g:Int))).setCell ⟨gx,5,none⟩ (.slice na Ki.length nc)) (fun k=>k=gx):=hk1.trans ((ak.of_grown (ap _ _ _ _) fun _ e=>(aA e).symm).trans (ak.of_grown (ap _ _ _ _) fun _ e=>(aA e).symm));have kb4:=hk.keptK hk2 (by omega);have n1:=hk1.cell n0 (fun (e:n=gx)=>hxn (.inl e.symm));obtain⟨⟨y0,y1,y2,y3,y4,y5⟩,g0,g1,g2,g3',g4,g5⟩:=gH hs1;obtain⟨⟨x0,x1,x2,x3,x4,x5⟩,_⟩:=gH hs2;obtain⟨⟨d0,d1,d2,d3,d4,d5⟩,e0,e1,e2,e3,e4,e5⟩:=gH kb4;have hs3:=Kb kb4 (.int .i64 (f:Int)) rv (.int .i64 ((s.length:Int)-(r.length:Int))) (.bool t) (.int .i64 (g:Int)) (.slice na Ki.length nc);have hk5:=(hk2.weaken (T:=fun k=>k=gx\/k=bw) (fun _ e=>.inl e)).trans (hs3.2.weaken (fun _ e=>.inr e));have hnS:∀k,(k=gx\/k=bw)->nf wr k=some (some 204):=fun k hk'=>by
    rcases hk' with rfl|rfl
    ·exact aN hx
    ·exact aN hk
   have hRA:=A4 (aw hrow hk5 (fun b hb e=>by have:=hnS b e;rw[aX hrow hb] at this;simp at this)) (by omega) (fun z hz=>⟨(hZ z hz).1,(hZ z hz).2.kept hk5 (fun b hb e=>by have:=hnS b e;rw[hb] at this;simp at this)⟩);have hKA:=gE (aw hN.row hk5 (fun b hb e=>dh hN (hnS b e) (by decide) (by decide) (.inr (.inr hb)))) (by omega) (fun x hx=>by have:=hKil x hx;omega);have HE:=af (HT.out _ _ rv (.slice na Ki.length nc) hF.out (hbw.trans (ak.below hk5 (by omega) (fun k hk=>by omega))) hRA hKA);clear HT HB HR HQ hP hRA hKA hk1 hk2 hs1 hs2 hnS hk5 hN hx hk hrow hZ n0 hF;obtain⟨rva,rvc,rfl⟩:=hrv;cases hre:r.isEmpty with
   |true=>
    go_wp2_with fail
    (try simp only[Exit.inBlock,Exit.then]);refine bodyPost_ret (lj rfl _ _ bw 204 _ _ rfl hs3.1 Tryz.underlying204 rfl (by kernel_rfl)) rfl ?_;exact HE.out
   |false=>
    have htt:t=true:=hend.resolve_left (fun e=>by rw[e] at hre;cases hre);subst htt;go_wp2_with fail
    (try simp only[Exit.inBlock,Exit.then]);refine bodyPost_ret (lj rfl _ _ bw 204 _ _ rfl hs3.1 Tryz.underlying204 rfl (by kernel_rfl)) rfl ?_;exact HE.out
  ·have htf:t=false:=by
    cases t with
    |true=>exact absurd (.inr rfl) hend
    |false=>rfl
   subst htf;have hrne:r≠[]:=fun e=>hend (.inl e);have hre:r.isEmpty=false:=by cases r with
    |nil=>exact absurd rfl hrne
    |cons=>rfl
   obtain⟨q,hq,hP⟩:=hP;have hq0:q≠0:=fun e=>hrne (List.length_eq_zero_iff.1 (by omega));obtain⟨q,rfl⟩:=Nat.exists_eq_succ_of_ne_zero hq0;have HP1:=af (show dq g r0.length [] r0=ij (Z.map (·.1)) (match qW g Ki r with
    |(none,e)=>if e=2 then none else some ([],Ki,r,true)
    |(some (l,K',r2),_)=>match dq g q K' r2 with
     |none=>none
     |some (l2,K2,r3,t)=>some (l++l2,K2,r3,t)) by
    rw[hP,dq,if_neg hrne]
    try rfl)
   clear hP HQ hend hrne;obtain⟨rva,rvc,rfl⟩:=hrv;have h1:=H1.out;have hrl2:r.length<=1000000:=by omega
   have hKb:Ki.length<=1000000:=by omega
   have hKlb:∀k∈Ki,k.length<=1000000:=fun k hk=>by have:=hKil k hk;omega
   ·have hc:n7 (g:Int) n=.iface 240 (.agg #[]):=by rw[h1];rfl
    have q4:=af (show Calls Tryz.prog 398 #[.agg #[],.string (bs r)] wr (K9 wr B n m kvi r (qW (g:Int) Ki r)) by rw[h1];exact KV r hN hrl2 hB);rw[hc];clear hc h1;go_wp2_with fail
    refine q4.out.mono ?_;clear q4;rintro e W5 ⟨hbB5,hpost⟩;have hcons:=BO (g:Int) Ki r;have HP2:=HP1.out;rcases hgb:qW (g:Int) Ki r with⟨x,sh⟩
    rw[hgb] at HP2 hpost hcons;have hxt:=aN hx;have hc3:=(gH hx).1.2.2.2.1;have hxr:∀k,(Value.slice rva Z.length rvc).ownBlock=some k->nf wr k=some (some 108):=fun k hk'=>aX hrow hk';have hlo:∀k,(Value.slice rva Z.length rvc).ownBlock=some k->bw<=k:=fun k hk'=>(hrow.lt k hk').1;have hbwW:bw<=wr.heap.size:=by omega
    have hb5s:=hbB5.size;have hbw5:=hbw.trans (hbB5.mono (Nat.le_of_lt hBw));have hk5:=ag.below hk hbB5 hBw;clear HP1 c0 c1 c2 c3 c4 c5 f0 f1 f2 f3 f4 f5;cases x with
    |none=>
     obtain⟨rfl,hsh⟩:=hpost;rcases hsh with hsh|⟨hsh,hb5⟩
     ·simp only at hsh;subst hsh;have hF:R=(none,9):=by rw[HR.out,HP2];rfl
      have HE:=af (fun w'=>HB.out w' 9 hF);obtain⟨⟨d0,d1,d2,d3,d4,d5⟩,g0,g1,g2,g3',g4,g5⟩:=gH hk5;have hs3:=Kb hk5 (.int .i64 0) (.slice none 0 0) (.int .i64 0) (.bool false) (.int .i64 0) (.slice none 0 0);clear HP2 hF HB HT HR hgb hcons;go_wp2_with fail
      (try simp only[Exit.inBlock,Exit.then]);refine bodyPost_ret (lj rfl _ _ bw 204 _ _ rfl hs3.1 Tryz.underlying204 rfl (by kernel_rfl)) rfl ?_;subst hwb;exact HE.out _ (hbw5.trans (ak.below hs3.2 (aK hbwW hb5s) (fun k hk=>by omega)))
     ·simp only at hsh;subst hsh;have HP3:=af (show dq g r0.length [] r0=some (Z.map (·.1),Ki,r,true) by rw[HP2];simp[ij]);have hx5:=ag.below hx hb5 hx.lt;have hN5:=hN.below hb5;have hrow5:=aw hrow (ak.of_below (S:=fun _=>False) hb5) (fun _ _ e=>e);have hZ5:∀z∈Z,z.1.ok/\cV W5 z.2 z.1.labels:=fun z hz=>⟨(hZ z hz).1,(hZ z hz).2.below hb5⟩
      have hk6:ak W5 (W5.setCell ⟨gx,3,none⟩ (.bool true)) (fun k=>k=gx):=ak.of_grown (ap _ _ _ _) fun _ e=>(aA e).symm;have hx6:=ag.set_ hx5 3 (.bool true);have hx5r:∀k,(Value.slice rva Z.length rvc).ownBlock=some k->k≠gx:=fun k hk' e=>by have:=hxr k hk';rw[e,hxt] at this;simp at this
      have hrow6:=aw hrow5 hk6 (fun b hb e=>hx5r b hb e);have hx7:=ag.set_ hx6 1 (.slice rva Z.length rvc);have hk7:ak W5 ((W5.setCell ⟨gx,3,none⟩ (.bool true)).setCell ⟨gx,1,none⟩ (.slice rva Z.length rvc)) (fun k=>k=gx):=hk6.trans (ak.of_grown (ap _ _ _ _) fun _ e=>(aA e).symm);have hrow7:=aw hrow5 hk7 (fun b hb e=>hx5r b hb e);have hN7:=hN5.kept hk7 (fun k hk e=>by rw[e] at hk;exact hxn hk);have hZ7:∀z∈Z,z.1.ok/\cV ((W5.setCell ⟨gx,3,none⟩ (.bool true)).setCell ⟨gx,1,none⟩ (.slice rva Z.length rvc)) z.2 z.1.labels:=fun z hz=>⟨(hZ5 z hz).1,(hZ5 z hz).2.kept hk7 (fun b hb e=>by have:=aN hx5;rw[<-e,hb] at this;simp at this)⟩
      have hkk:=hk5.keptK hk7 (by omega);have hbw7:=hbw5.trans (ak.below hk7 (by have:=hb5.size;omega) (fun k hk=>by omega));obtain⟨⟨d0,d1,d2,d3,d4,d5⟩,g0,g1,g2,g3',g4,g5⟩:=gH hx5;obtain⟨⟨d0',d1',d2',d3',d4',d5'⟩,g0',g1',g2',g3'',g4',g5'⟩:=gH hx6;have ⟨i0,hin,_⟩:=info_parts (show (Tryz.prog.info? 108).map (fun i=>(i.zero,i.size,i.bytes))=some (some (.agg #[.int .i64 0,.slice none 0 0,.int .i64 0,.int .i64 0,.int .u64 0]),5,56) by kernel_rfl);have hB7:B<=((W5.setCell ⟨gx,3,none⟩ (.bool true)).setCell ⟨gx,1,none⟩ (.slice rva Z.length rvc)).heap.size:=aK hB (aK hb5.size hk7.size);clear HP2 HB HT HR hgb hcons hk6 hrow5 hN hZ hZ5 hN5 hrow hk hk5 hx hbw hbw5 hb5 hk7;go_wp2_with (at_builtin;refine wpList_append_own_none rfl _ _ 22 rfl bw 108 i0 5 Tryz.underlying22 hin _ _ _ rfl hrow6 rfl ?_)
      go_roundw
      case rel=>
       refine⟨r,Z,Ki,kvi,Di,true,.slice rva Z.length rvc,rfl,hrl,?_,hN7,hKi,hZl,hKil,hx7,hrow7,hZ7,hkk,hB7,?_⟩
       ·exact HP3.out
       ·subst hwb;exact hbw7
      case measure=>
       have t1:kP wr gx=1:=by unfold kP;rw[hc3]
       have t2:kP ((W5.setCell ⟨gx,3,none⟩ (.bool true)).setCell ⟨gx,1,none⟩ (.slice rva Z.length rvc)) gx=0:=by
        unfold kP;rw[(gH hx7).1.2.2.2.1]
       rw[t1,t2];omega
    |some z=>
     obtain⟨l,K',rest⟩:=z;obtain⟨v,Z2,kv2,D2,rfl,hg,hZ2,hN5,hT5⟩:=hpost;obtain⟨h4,h5,h6,h7⟩:=hcons l K' rest sh rfl;subst hZ2;rw[List.length_map] at h5;obtain⟨⟨p,pc,rfl,hpc⟩,hZok⟩:=hg;dsimp only at HP2;have HP3:=af (show ∃q,rest.length<=q/\dq g r0.length [] r0=ij ((Z++Z2).map (·.1)) (dq g q K' rest) from⟨q,by omega,by
      rw[HP2,List.map_append,<-Ae]
      cases dq g q K' rest<;>rfl⟩)
     have hx5:=hx.keptK hT5.kept hxn;have hrow5:=aw hrow hT5.kept (fun b hb e=>dh hN (hxr b hb) (by decide) (by decide) e);have hZ5:∀z∈Z,z.1.ok/\cV W5 z.2 z.1.labels:=fun z hz=>⟨(hZ z hz).1,(hZ z hz).2.kept hT5.kept (fun b hb e=>dh hN hb (by decide) (by decide) e)⟩
     have hk6:ak W5 (W5.setCell ⟨gx,3,none⟩ (.bool false)) (fun k=>k=gx):=ak.of_grown (ap _ _ _ _) fun _ e=>(aA e).symm;have hx6:=ag.set_ hx5 3 (.bool false);have hxt5:=aN hx5;have hxt6:=aN hx6;have hrow6:=aw hrow5 hk6 (fun b hb e=>by have:=aX hrow5 hb;rw[e,hxt5] at this;simp at this);have hN6:=hN5.kept hk6 (fun k hk' e=>by rw[e] at hk';exact dh hN5 hxt5 (by decide) (by decide) hk');have hLx:∀(z:Rc×Value),z.1.ok/\cV W5 z.2 z.1.labels->z.1.ok/\cV (W5.setCell ⟨gx,3,none⟩ (.bool false)) z.2 z.1.labels:=fun z hz=>⟨hz.1,hz.2.kept hk6 (fun b hb e=>by rw[e,hxt5] at hb;simp at hb)⟩
     have hZ6:∀z∈Z++Z2,z.1.ok/\cV (W5.setCell ⟨gx,3,none⟩ (.bool false)) z.2 z.1.labels:=fun z hz=>hLx z ((List.mem_append.1 hz).elim (hZ5 z) (hZok z));have hkb6:=hk5.keptK hk6 (by omega);have hbw6:=hbw5.trans (ak.below hk6 (by omega) (fun k hk=>by omega));have hB6:B<=(W5.setCell ⟨gx,3,none⟩ (.bool false)).heap.size:=aK hB (aK hb5s hk6.size);have hpx:=GW hpc hx5;have hpc6:∀j u,(aV Z2)[j]?=some u->(W5.setCell ⟨gx,3,none⟩ (.bool false)).cell? ((⟨p,0,none⟩:Addr).add j)=some u:=fun j u hj=>hk6.cell (hpc j u hj) (fun e=>hpx j u hj (by rw[eY] at e;exact e));have hx6r:∀k,(Value.slice rva Z.length rvc).ownBlock=some k->k≠gx:=fun k hk' e=>by have:=aX hrow6 hk';rw[e,hxt6] at this;simp at this
     have HK8:=af (show ∀w8,(W5.setCell ⟨gx,3,none⟩ (.bool false)).grownBy w8 (Value.slice rva Z.length rvc).ownBlock->ak (W5.setCell ⟨gx,3,none⟩ (.bool false)) w8 (fun k=>(Value.slice rva Z.length rvc).ownBlock=some k) from fun w8 h=>ak.of_grown h fun k e=>e);have hk6s:=hk6.size;have H1:=af (uI Z2 hZok);obtain⟨⟨d0,d1,d2,d3,d4,d5⟩,g0,g1,g2,g3',g4,g5⟩:=gH hx5;obtain⟨⟨d0',d1',d2',d3',d4',d5'⟩,g0',g1',g2',g3'',g4',g5'⟩:=gH hx6;have ⟨i0,hin,hz0,hz1,hz2⟩:=info_parts (show (Tryz.prog.info? 108).map (fun i=>(i.zero,i.size,i.bytes))=some (some (.agg #[.int .i64 0,.slice none 0 0,.int .i64 0,.int .i64 0,.int .u64 0]),5,56) by kernel_rfl);clear HP2 HB HT HR hgb hcons hrow5 hN hZ hZ5 hN5 hrow hk hk5 hx hbw hbw5 hk6 hZok hLx hT5;go_wp2_with (at_builtin;refine wpList_append_own_at _ rfl _ _ 22 rfl bw 108 i0 (.agg #[.int .i64 0,.slice none 0 0,.int .i64 0,.int .i64 0,.int .u64 0]) 5 56 Tryz.underlying22 hin hz0 hz1 hz2 rfl (by decide) _ _ _ rfl hrow6 ⟨p,0,none⟩ Z2.length pc (aV Z2) rfl (uJ _) hpc6 H1.out (by unfold maxLen;omega) (by omega) (by omega) ?_;intro v' w8 hown' hgrow hnil hloc;obtain⟨va',vc',rfl⟩:=aH hown';have hk8:=HK8.out w8 hgrow;have hx8:=hx6.keptK hk8 (fun e=>hx6r gx e rfl);obtain⟨⟨z0,z1,z2,z3,z4,z5⟩,y0,y1,y2,y3,y4,y5⟩:=gH hx8)
     have hw8r:∀k,(Value.slice va' (Z.length+Z2.length) vc').ownBlock=some k->k≠gx:=fun k hk' e=>by have h1:=aX hown' hk';rw[e,aN hx8] at h1;simp at h1
     have hk9:ak w8 (w8.setCell ⟨gx,1,none⟩ (.slice va' (Z.length+Z2.length) vc')) (fun k=>k=gx):=ak.of_grown (ap _ _ _ _) fun _ e=>(aA e).symm;have hx9:=ag.set_ hx8 1 (.slice va' (Z.length+Z2.length) vc');have hrow9:=aw hown' hk9 (fun b hb e=>hw8r b hb e);have hk69:=(hk8.weaken (T:=fun k=>(Value.slice rva Z.length rvc).ownBlock=some k\/k=gx) (fun _ e=>.inl e)).trans (hk9.weaken (fun _ e=>.inr e));have hrt:∀k,((Value.slice rva Z.length rvc).ownBlock=some k\/k=gx)->nf (W5.setCell ⟨gx,3,none⟩ (.bool false)) k=some (some 108)\/nf (W5.setCell ⟨gx,3,none⟩ (.bool false)) k=some (some 204):=fun k hk'=>hk'.imp (fun h=>aX hrow6 h) (fun h=>by rw[h];exact hxt6);have hN9:=hN6.kept hk69 (fun k hk' e=>(hrt k e).elim (fun t=>dh hN6 t (by decide) (by decide) hk') (fun t=>dh hN6 t (by decide) (by decide) hk'));have hZ9:∀z∈Z++Z2,z.1.ok/\cV (w8.setCell ⟨gx,1,none⟩ (.slice va' (Z.length+Z2.length) vc')) z.2 z.1.labels:=fun z hz=>⟨(hZ6 z hz).1,(hZ6 z hz).2.kept hk69 (fun b hb e=>by rcases hrt b e with t|t<;>(rw[hb] at t;simp at t))⟩
     have hkb9:=hkb6.keptK hk69 (fun e=>by rcases e with e|e;(have:=aX hrow6 e;rw[aN hkb6] at this;simp at this);omega);have hbw9:=hbw6.trans (ak.below hk69 (by have:=hk6s;omega) (fun k hk'=>hk'.elim (hlo k) (fun e=>by omega)));have hrec:aV (Z++Z2)=aV Z++aV Z2:=by unfold aV;rw[List.flatMap_append]
     refine⟨⟨rest,Z++Z2,K',kv2,D2,false,.slice va' (Z.length+Z2.length) vc',rfl,by omega,?_,hN9,by omega,by rw[aG];omega,fun k hk'=>(h7 k hk').elim (hKil k) id,hx9,?_,hZ9,hkb9,aK hB6 hk69.size,?_⟩,?_⟩
     ·exact HP3.out
     ·rw[aG,hrec];exact hrow9
     ·subst hwb;exact hbw9
     ·have t1:kP wr gx=1:=by unfold kP;rw[hc3]
      have t2:kP (w8.setCell ⟨gx,1,none⟩ (.slice va' (Z.length+Z2.length) vc')) gx=1:=by
       unfold kP;rw[(gH hx9).1.2.2.2.1]
      rw[t1,t2];simp only[FU,aq];omega
 ·rw[if_pos he] at hR0;have HE:=af (fun w'=>HB.out w' e0 hR0);have hz:(e0 != 0)=true:=by simpa using he
  have hz2:(e0==0)=false:=by simpa using he
  clear hR0 HB HT hgen h1g;go_enter Tryz.func139,Tryz.ntmps139
  go_wp2_with fail
  refine(q0.out _).mono ?_;rintro e W1 ⟨rfl,hb1⟩;have k1:=ag.below k0 hb1 k0.lt;have hbw1:=ay b0 hb1;obtain⟨⟨d0,d1,d2,d3,d4,d5⟩,g0,g1,g2,g3',g4,g5⟩:=gH k1;have hs3:=Kb k1 (.int .i64 0) (.slice none 0 0) (.int .i64 0) (.bool false) (.int .i64 0) (.slice none 0 0);clear k0 b0 hb1 q0;go_wp2_with fail
  (try simp only[Exit.inBlock,Exit.then]);refine bodyPost_ret (lj rfl _ _ w.heap.size 204 _ _ rfl hs3.1 Tryz.underlying204 rfl (by kernel_rfl)) rfl ?_;exact HE.out _ (hbw1.trans (ak.below hs3.2 hbw1.size (fun k hk=>by omega)))
end
end Go.Proofs.YtcdgfajdlaeodaaGreatDoor
namespace Go.Proofs.YtcdgfajdlaeodaaGreatDoor
end Go.Proofs.YtcdgfajdlaeodaaGreatDoor
namespace Go.Proofs.YtcdgfajdlaeodaaGreatDoor
section
open Go.RowKit
end
section
open Go.RowKit
attribute [local go_sem] am aq
theorem jR(c:CS):(wN c).1.length<=c.1.length:=ev c _
structure En where
 labels:List Lb
 last:Int
 off:Int
 len:Int
def aR:En:=⟨[],0,0,0⟩
def dK(x:En):Bool:=decide (bz x.labels=0)&&decide (0<=x.last/\x.last<=1125899906842624/\0<=x.off/\x.off<=1073741824/\0<=x.len/\x.len<=1073741824)
def dY(a b:List Lb):Bool:=Op.bytesLess (dE a) (dE b)
def cR:Option (List Lb)->List En->Bool
 |_,[]=>true
 |p,x::l=>(dK x&&(match p with|none=>true|some q=>dY q x.labels))&&cR (some x.labels) l
def ku(l:List En)(g:Int):Bool:=l.any fun x=>decide (cw g<(aZ x.labels:Int))
def du(l:List En)(g:Int):Int:=if g<1\/3<g\/20<l.length then 1 else if cR none l=false then 1 else if ku l g then 3 else 0
def ci(l:List En):List (List UInt8):=l.flatMap fun x=>x.labels.flatMap fun y=>[y.1,y.2]
def gr (l:List En):List (List UInt8):=Lib.compact ((ci l).mergeSort fun x y=>decide (x<=y))
def lL(y:Lb):List UInt8:=Num.fixed y.1 12++Num.fixed y.2 12
def kG(x:En):List UInt8:=(UInt8.ofNat x.labels.length::x.labels.flatMap lL)++((Num.wide (aS x.last)++Num.wide (aS x.off))++Num.wide (aS x.len))
def Ef (l:List En):List UInt8:=Num.wide l.length++l.flatMap kG
def bN:List UInt8->List UInt8->Nat
 |a::s,b::t=>if a=b then bN s t+1 else 0
 |_,_=>0
def kj (g:Int):List UInt8->List (List UInt8)->List UInt8
 |_,[]=>[]
 |last,s::l=>(if g=3 then Num.small (bN last s)++Num.text (s.drop (bN last s)) else Num.text s)++kj g s l
def cz(sy:List (List UInt8))(s:List UInt8):Nat:=sy.idxOf s
def kD(sy:List (List UInt8))(y:Lb):List UInt8:=Num.small (cz sy y.1)++Num.small (cz sy y.2)
def iw(g:Int)(a x:En):List UInt8:=
 if g=3 then(Num.small (Num.zigI (x.last-a.last)).toNat++Num.small (Num.zigI (x.off-a.off-a.len)).toNat)++Num.small (aS x.len)
 else(Num.small (aS x.last)++Num.small (aS x.off))++Num.small (aS x.len)
def vR(g:Int)(sy:List (List UInt8))(a x:En):List UInt8:=Num.small x.labels.length++(x.labels.flatMap (kD sy)++iw g a x)
def di(g:Int)(sy:List (List UInt8)):En->List En->List UInt8
 |_,[]=>[]
 |a,x::l=>vR g sy a x++di g sy x l
def nu(l:List En)(g:Int):List UInt8:=Num.small (gr l).length++(kj g [] (gr l)++(Num.small l.length++di g (gr l) aR l))
def cL(l:List En):List (Lb×Nat):=(List.range l.length).flatMap fun i=>(l.getD i aR).labels.map fun z=>(z,i)
def cD(S:List (Lb×Nat))(y:Lb):List Nat:=(S.filter fun p=>decide (p.1=y)).map fun p=>p.2
def C4(l:List En)(y:Lb):List Nat:=cD (cL l) y
def nY:Nat->List Nat->List UInt8
 |_,[]=>[]
 |a,b::l=>Num.small (b-a)++nY b l
def gw(x y:Lb):Int:=if Lib.compareBytes x.1 y.1≠0 then Lib.compareBytes x.1 y.1 else Lib.compareBytes x.2 y.2
def jT(L:List Lb):List Lb:=L.mergeSort fun x y=> !decide (gw y x<0)
def eH(S:List Lb):List Lb:=S.foldl (fun a y=>if y∈a then a else a++[y]) []
def gZ(l:List En):List Lb:=jT (eH ((cL l).map fun p=>p.1))
def vq(l:List En):List UInt8:=(gZ l).flatMap fun y=>Num.small (C4 l y).length++nY 0 (C4 l y)
def qJ(l:List En)(g:Int):List UInt8:=nu l g++if g=3 then vq l else[]
def kJ(l:List En)(g:Int):List UInt8:=if g=1 then Ef l else qJ l g
def ll (l:List En)(g:Int):List UInt8×Int:=if du l g=0 then(kJ l g++dp (kJ l g),0) else([],du l g)
def gN(n:Int)(most:Nat)(c:CS):Nat×CS:=if (most:Int)<n then(0,(c.1,true)) else(n.toNat,c)
def gp(n:Int):Int:=IntKind.i64.wrap n
def Ir (c:CS):List UInt8:=Num.ans [] c (Num.getFixed c.1 12)
def uO (c:CS):CS:=Num.nxt c (Num.getFixed c.1 12)
def LH (c:CS):List UInt8:=Num.ans [] c (Num.getText c.1 48)
def Lt (c:CS):CS:=Num.nxt c (Num.getText c.1 48)
def IE (c:CS):List UInt8:=Num.ans [] c (Num.getTake c.1 1)
def AJ (c:CS):CS:=Num.nxt c (Num.getTake c.1 1)
def eO:Nat->CS->List Lb×CS
 |0,c=>([],c)
 |q+1,c=>((Ir c,Ir (uO c))::(eO q (uO (uO c))).1,(eO q (uO (uO c))).2)
def dA(c:CS):En×CS:=
 if (AJ c).2 then(aR,AJ c)
 else
  let m:=gN (((IE c).getD 0 0).toNat:Int) 6 (AJ c)
  let r:=eO m.1 m.2
  (⟨r.1,gp (wV r.2),gp (wV (wN r.2)),gp (wV (wN (wN r.2)))⟩,wN (wN (wN r.2)))
def AN (sy:List (List UInt8))(c:CS):List UInt8×CS:=if (sy.length:Int)<=sV c then([],((sN c).1,true)) else(sy.getD (sV c).toNat [],sN c)
def Bz(sy:List (List UInt8)):Nat->CS->List Lb×CS
 |0,c=>([],c)
 |q+1,c=>(((AN sy c).1,(AN sy (AN sy c).2).1)::(Bz sy q (AN sy (AN sy c).2).2).1,(Bz sy q (AN sy (AN sy c).2).2).2)
def zO(g:Int)(sy:List (List UInt8))(a:En)(c:CS):En×CS:=
 let m:=gN (sV c) 6 (sN c)
 let r:=Bz sy m.1 m.2
 (⟨r.1,if g=3 then gp (a.last+Num.zagI (sV r.2)) else gp (sV r.2),if g=3 then gp (gp (a.off+a.len)+Num.zagI (sV (sN r.2))) else gp (sV (sN r.2)),gp (sV (sN (sN r.2)))⟩,sN (sN (sN r.2)))
def J3 (g:Int):Nat->List UInt8->CS->List (List UInt8)×CS
 |0,_,c=>([],c)
 |q+1,last,c=>
  let m:=if g=3 then gN (sV c) last.length (sN c) else(0,c)
  let s:=last.take m.1++LH m.2
  (s::(J3 g q s (Lt m.2)).1,(J3 g q s (Lt m.2)).2)
def xD:Nat->CS->Option (List En)×CS
 |0,c=>(some [],c)
 |q+1,c=>if (dA c).2.2 then(none,(dA c).2) else match xD q (dA c).2 with
  |(none,d)=>(none,d)
  |(some l,d)=>(some ((dA c).1::l),d)
def He(g:Int)(sy:List (List UInt8)):Nat->En->CS->Option (List En)×CS
 |0,_,c=>(some [],c)
 |q+1,a,c=>if (zO g sy a c).2.2 then(none,(zO g sy a c).2) else match He g sy q (zO g sy a c).1 (zO g sy a c).2 with
  |(none,d)=>(none,d)
  |(some l,d)=>(some ((zO g sy a c).1::l),d)
def pT (g:Int)(c:CS):Option (List En)×CS:=
 if g=1 then
  let m:=gN (wV c) 20 (wN c)
  xD m.1 m.2
 else
  let t:=gN (sV c) 240 (sN c)
  let sy:=J3 g t.1 [] t.2
  let m:=gN (sV sy.2) 20 (sN sy.2)
  He g sy.1 m.1 aR m.2
def ju (s:List UInt8)(g:Int):List En×Int:=
 if g<1\/3<g then([],1)
 else match eB s with
  |none=>([],9)
  |some b=>if (pT g (b,false)).2.2=true\/ll ((pT g (b,false)).1.getD []) g≠(s,0) then([],9) else((pT g (b,false)).1.getD [],0)
theorem Aj{s:List UInt8}{m:Nat}(h:mE s m=true):s.length<=48:=by
 unfold mE at h;simp only[Bool.and_eq_true,decide_eq_true_eq] at h;exact h.2.2
theorem Dq:∀(L:List Lb) (last:List UInt8),fu last L=true->∀y∈L,y.1.length<=48/\y.2.length<=48
 |[],_,_,y,hy=>by cases hy
 |x::L,last,h,y,hy=>by
  unfold fu at h;simp only[Bool.and_eq_true] at h;rcases List.mem_cons.1 hy with rfl|hy
  ·exact⟨Aj h.2.1,Aj h.2.2.2.1⟩
  ·exact Dq L x.1 h.2.2.2.2 y hy
theorem zW{L:List Lb}(h:bz L=0):L.length<=6/\∀y∈L,y.1.length<=48/\y.2.length<=48:=by
 unfold bz at h;split at h
 ·rename_i h1;simp only[Bool.and_eq_true,decide_eq_true_eq] at h1;exact⟨h1.2.2,Dq L [] h1.1⟩
 ·cases h
theorem nR:∀(l:List En) (p:Option (List Lb)),cR p l=true->∀x∈l,dK x=true
 |[],_,_,x,hx=>by cases hx
 |z::l,p,h,x,hx=>by
  unfold cR at h;simp only[Bool.and_eq_true] at h;rcases List.mem_cons.1 hx with rfl|hx
  ·exact h.1.1
  ·exact nR l _ h.2 x hx
theorem qq{l:List En}{g:Int}(h:du l g=0):1<=g/\g<=3/\l.length<=20/\cR none l=true/\∀x∈l,dK x=true/\(aZ x.labels:Int)<=cw g:=by
 unfold du at h;split at h
 ·cases h
 ·rename_i h1;split at h
  ·cases h
  ·rename_i h2;split at h
   ·cases h
   ·rename_i h3;have hg:cR none l=true:=by simpa using h2
    refine⟨by omega,by omega,by omega,hg,fun x hx=>⟨nR l none hg x hx,?_⟩⟩;unfold ku at h3;by_cases hc:cw g<(aZ x.labels:Int)
    ·exact absurd (List.any_eq_true.2 ⟨x,hx,by simpa using hc⟩) h3
    ·omega
theorem jH{x:En}(h:dK x=true):bz x.labels=0/\0<=x.last/\x.last<=1125899906842624/\0<=x.off/\x.off<=1073741824/\0<=x.len/\x.len<=1073741824:=by
 unfold dK at h;simp only[Bool.and_eq_true,decide_eq_true_eq] at h;exact⟨h.1,h.2⟩
theorem yZ{α:Type}[Inhabited α][DecidableEq α](zs:List α)(x:α):x∈Lib.compact zs↔x∈zs:=by
 have hat:∀j (h:j<zs.length),zs.toArray[j]! =zs[j]:=fun j h=>by simp[h]
 unfold Lib.compact Lib.compactUpTo;rw[List.mem_map];constructor
 ·rintro⟨j,hj,rfl⟩;have:=List.mem_range.1 (List.mem_filter.1 hj).1;rw[hat j this];exact dM _
 ·intro hx;obtain⟨j,hj,rfl⟩:=List.mem_iff_getElem.1 hx;clear hx;induction j with
  |zero=>exact⟨0,List.mem_filter.2 ⟨List.mem_range.2 hj,by simp[Lib.keeps]⟩,hat 0 hj⟩
  |succ j ih=>
   by_cases h:zs[j+1]=zs[j]
   ·rw[h];exact ih (by omega)
   ·refine⟨j+1,List.mem_filter.2 ⟨List.mem_range.2 hj,?_⟩,hat _ hj⟩;unfold Lib.keeps;rw[decide_eq_true_eq];refine .inr ?_;rw[hat _ hj,show j+1-1=j by omega,hat _ (by omega)];exact h
theorem jo(l:List En)(s:List UInt8):s∈gr l↔s∈ci l:=by
 unfold gr;rw[yZ,List.mem_mergeSort]
theorem oG{sy:List (List UInt8)}{s:List UInt8}(h:s∈sy):cz sy s<sy.length/\sy.getD (cz sy s) []=s:=by
 unfold cz;have hl:sy.idxOf s<sy.length:=List.idxOf_lt_length_iff.2 h;refine⟨hl,?_⟩;rw[List.getD_eq_getElem?_getD,aW hl,Option.getD_some];exact List.getElem_idxOf hl
theorem pA(l:List En)(h:∀x∈l,x.labels.length<=6):(ci l).length<=l.length*12:=by
 unfold ci;induction l with
 |nil=>exact aF _
 |cons x l ih=>
  rw[List.flatMap_cons,aG,de];have h1:=ih fun y hy=>h y (List.mem_cons_of_mem _ hy);have h2:=h x List.mem_cons_self;have h3:(x.labels.flatMap fun y=>[y.1,y.2]).length=x.labels.length*2:=by
   generalize x.labels=L;induction L with
   |nil=>rfl
   |cons y L ih=>
    rw[List.flatMap_cons,aG,ih];simp;omega
  omega
theorem my{α:Type}[Inhabited α][DecidableEq α](zs:List α):(Lib.compact zs).length<=zs.length:=by
 unfold Lib.compact Lib.compactUpTo;rw[List.length_map];have:=List.length_filter_le (Lib.keeps zs.toArray) (List.range zs.length);rwa[List.length_range] at this
theorem pQ:∀s t:List UInt8,bN s t<=s.length/\bN s t<=t.length/\s.take (bN s t)=t.take (bN s t)
 |[],t=>by unfold bN;exact⟨aF _,Nat.zero_le _,rfl⟩
 |a::s,[]=>by unfold bN;exact⟨Nat.zero_le _,aF _,rfl⟩
 |a::s,b::t=>by
  unfold bN;by_cases h:a=b
  ·subst h;rw[if_pos rfl];obtain⟨h1,h2,h3⟩:=pQ s t;exact⟨by simp;omega,by simp;omega,by rw[List.take_succ_cons,List.take_succ_cons,h3]⟩
  ·rw[if_neg h];exact⟨Nat.zero_le _,Nat.zero_le _,rfl⟩
def Bj(x:En):Prop:=0<=x.last/\x.last<=1125899906842624/\0<=x.off/\x.off<=1073741824/\0<=x.len/\x.len<=1073741824
theorem sP{x:En}(h:dK x=true):Bj x:=(jH h).2
theorem mK{l:List En}{x:En}{y:Lb}(hx:x∈l)(hy:y∈x.labels):y.1∈ci l/\y.2∈ci l:=by
 unfold ci;constructor
 ·exact List.mem_flatMap.2 ⟨x,hx,List.mem_flatMap.2 ⟨y,hy,by simp⟩⟩
 ·exact List.mem_flatMap.2 ⟨x,hx,List.mem_flatMap.2 ⟨y,hy,by simp⟩⟩
theorem l7{l:List En}(h:∀x∈l,dK x=true):∀s∈ci l,s.length<=48:=by
 intro s hs;unfold ci at hs;obtain⟨x,hx,hs⟩:=List.mem_flatMap.1 hs;obtain⟨y,hy,hs⟩:=List.mem_flatMap.1 hs;have:=(zW (jH (h x hx)).1).2 y hy;simp only[List.mem_cons,List.not_mem_nil,or_false] at hs;rcases hs with rfl|rfl
 ·exact this.1
 ·exact this.2
theorem wz{l:List En}(h:∀x∈l,x.labels.length<=6)(h2:l.length<=20):(gr l).length<=240:=by
 have h3:=pA l h;have h4:=my ((ci l).mergeSort fun x y=>decide (x<=y));rw[List.length_mergeSort] at h4;unfold gr;omega
theorem wY{l:List En}{g:Int}(h:du l g=0):ll l g=(kJ l g++dp (kJ l g),0):=by
 unfold ll;rw[if_pos h]
theorem yK{l:List En}{g:Int}(h:du l g≠0):ll l g=([],du l g):=by
 unfold ll;rw[if_neg h]
theorem EO{s:List UInt8}{g:Int}(h:(ju s g).2=0):ll (ju s g).1 g=(s,0)/\du (ju s g).1 g=0:=by
 have key:ll (ju s g).1 g=(s,0):=by
  unfold ju at h⊢;split at h
  ·cases h
  ·rename_i h1;rw[if_neg h1];split at h
   ·cases h
   ·rename_i b hb;split at h
    ·cases h
    ·rename_i h2;rw[if_neg h2];show ll ((pT g (b,false)).1.getD []) g=(s,0);by_cases hp:ll ((pT g (b,false)).1.getD []) g=(s,0)
     ·exact hp
     ·exact absurd (.inr hp) h2
 refine⟨key,?_⟩;by_cases hv:du (ju s g).1 g=0
 ·exact hv
 ·rw[yK hv] at key;exact absurd (Prod.mk.inj key).2 hv
end
section
open Go.RowKit Go.Maps Go.WideMaps
attribute [local go_sem] am aq
def uw(w:World)(v:Value)(L:List Int):Prop:=
 ∃a c,v=.slice a L.length c/\(a=none->c=0)/\L.length<=100000/\(∀x∈L,-9223372036854775808<=x/\x<=9223372036854775807)/\∀(i:Nat) x,L[i]?=some x->∃b o,a=some ⟨b,o,none⟩/\w.cell? ⟨b,o+i,none⟩=some (.int .i64 x)
theorem uw.below{w w':World}{v:Value}{L:List Int}(h:uw w v L)(hb:Below w.heap.size w w'):uw w' v L:=by
 obtain⟨a,c,h1,h2,h3,h4,h5⟩:=h;refine⟨a,c,h1,h2,h3,h4,fun i x hx=>?_⟩;obtain⟨b,o,h6,h7⟩:=h5 i x hx;exact⟨b,o,h6,cu hb h7⟩
theorem dw{W:World}{b:Nat}{T:TypeId}{u0 u1 u2 u3:Value}(h:ag W b T #[u0,u1,u2,u3]):
 (W.cell? ⟨b,0,none⟩=some u0/\W.cell? ⟨b,1,none⟩=some u1/\W.cell? ⟨b,2,none⟩=some u2/\W.cell? ⟨b,3,none⟩=some u3)/\W.frozen? ⟨b,0,none⟩=false/\W.frozen? ⟨b,1,none⟩=false/\W.frozen? ⟨b,2,none⟩=false/\W.frozen? ⟨b,3,none⟩=false:=
 ⟨⟨(ag.cell h 0).trans rfl,(ag.cell h 1).trans rfl,(ag.cell h 2).trans rfl,(ag.cell h 3).trans rfl⟩,ag.frozen h 0,ag.frozen h 1,ag.frozen h 2,ag.frozen h 3⟩
theorem qU{α:Type}[Inhabited α](enc:α->Value)(w:World)(q g:Nat)(d:Array α):ak w (Go.Sort.putRow enc (Go.Sort.ahead w q) g 0 d) (fun k=>k=g):=
 ⟨rfl,rfl,rfl,by simp[Go.Sort.ahead],fun i _ hi=>by simp[Go.Sort.putRow,Go.Sort.mapBlock,Go.Sort.ahead,Array.getElem?_modify,show g≠i from fun e=>hi e.symm]⟩
theorem mQ(w:World)(os:Array Obj)(S:Nat->Prop):ak w (Go.Sort.grow w os) S:=
 ⟨rfl,rfl,rfl,by simp[Go.Sort.grow],fun i hi _=>by simp[Go.Sort.grow,Array.getElem?_append,hi]⟩
theorem fo{P:Program}{w:World}{ops:Array Oper}{rest:List Oper}{o:Oper}{a:Act}{Q:Exit->Act->World->Prop}(hgd:o.guard=none)(s x:Operand)(t:TypeId)
 (ho:o.op=.call {callee:=.builtin .append,args:=#[s,x],argTypes:=#[t,t]})
 (base:Nat) (e:TypeId) (i:TypeInfo) (z:Value) (size bytes:Nat) (ht:P.underlying t=some (.slice e)) (hi:P.info? e=some i) (hz:i.zero=some z)
 (hsize:i.size=size) (hby:i.bytes=bytes) (hzs:z.cells.size=size) (hsz:0<size)
 (v:Value) (n:Nat) (xs:List Value) (hs:a.eval s=v) (hown:w.ownsRow base e size v n xs)
 (ad:Option Addr) (m c:Nat) (news:List Value) (hx:a.eval x=.slice ad m c) (h0:ad=none->m=0/\c=0) (hl:news.length=m*size) (hnews:∀a',ad=some a'->∀j u,news[j]?=some u->w.cell? (a'.add j)=some u) (h1:∀u∈news,u.oneCell'=true)
 (h63:n+m<=maxLen) (hbytes:(n+m)*bytes<=140737488355328) (hbase:base<=w.heap.size)
 (h:∀v' w',w'.ownsRow base e size v' (n+m) (xs++news)->w.grownBy w' v.ownBlock->(v'.ownBlock=v.ownBlock\/v'.ownBlock=some w.heap.size)->wpList P ops Q rest (a.put o.dst v') w'):wpList P ops Q (o::rest) a w:=by
 cases ad with
 |none=>
  obtain⟨rfl,rfl⟩:=h0 rfl;obtain rfl:news=[]:=List.length_eq_zero_iff.1 (by simpa using hl);exact wpList_append_own_none hgd s x t ho base e i size ht hi v n xs hs hown hx (h v w (by simpa using hown) ⟨rfl,rfl,rfl,aF _,fun _ _ _=>rfl⟩ (.inl rfl))
 |some a'=>
  exact wpList_append_own_at w hgd s x t ho base e i z size bytes ht hi hz hsize hby hzs hsz v n xs hs hown a' m c news hx hl (hnews a' rfl) h1 h63 hbytes hbase fun v' w' h2 h3 _ h5=>h v' w' h2 h3 h5
theorem IH{W:World}{b:Nat}{T:TypeId}{u0 u1 u2 u3:Value}(h:ag W b T #[u0,u1,u2,u3])(v0 v1 v2 v3:Value):
 ag ((((W.setCell ⟨b,0,none⟩ v0).setCell ⟨b,1,none⟩ v1).setCell ⟨b,2,none⟩ v2).setCell ⟨b,3,none⟩ v3) b T #[v0,v1,v2,v3]/\
  ak W ((((W.setCell ⟨b,0,none⟩ v0).setCell ⟨b,1,none⟩ v1).setCell ⟨b,2,none⟩ v2).setCell ⟨b,3,none⟩ v3) (fun k=>k=b):=
 ⟨ag.set_ (ag.set_ (ag.set_ (ag.set_ h 0 v0) 1 v1) 2 v2) 3 v3,ak.of_grown (bi (bi (bi (ap _ _ _ _) (ap _ _ _ _)) (ap _ _ _ _)) (ap _ _ _ _)) fun _ e=>(aA e).symm⟩
def En.ok(x:En):Prop:=(-9223372036854775808<=x.last/\x.last<=9223372036854775807)/\(-9223372036854775808<=x.off/\x.off<=9223372036854775807)/\(-9223372036854775808<=x.len/\x.len<=9223372036854775807)
def FD (lv:Value)(x:En):List Value:=[lv,.int .i64 x.last,.int .i64 x.off,.int .i64 x.len]
def JK (lv:Value)(x:En):Value:=.agg #[lv,.int .i64 x.last,.int .i64 x.off,.int .i64 x.len]
def DA(w:World)(b o:Nat)(x:En):Prop:=
 ∃a c,w.cell? ⟨b,o,none⟩=some (.slice a x.labels.length c)/\aC w (.slice a x.labels.length c) x.labels/\w.cell? ⟨b,o+1,none⟩=some (.int .i64 x.last)/\w.cell? ⟨b,o+2,none⟩=some (.int .i64 x.off)/\w.cell? ⟨b,o+3,none⟩=some (.int .i64 x.len)
theorem DA.below{w w':World}{b o:Nat}{x:En}(h:DA w b o x)(hb:Below w.heap.size w w'):DA w' b o x:=by
 obtain⟨a,c,h0,h1,h2,h3,h4⟩:=h;exact⟨a,c,cu hb h0,h1.below hb,cu hb h2,cu hb h3,cu hb h4⟩
def dV(w:World)(v:Value)(E:List En):Prop:=
 ∃a c,v=.slice a E.length c/\(a=none->c=0)/\E.length<=100000/\E.length<=c/\∀(i:Nat) x,E[i]?=some x->x.ok/\∃b o,a=some ⟨b,o,none⟩/\DA w b (o+i*4) x
theorem dV.below{w w':World}{v:Value}{E:List En}(h:dV w v E)(hb:Below w.heap.size w w'):dV w' v E:=by
 obtain⟨a,c,h1,h2,h3,h4,h5⟩:=h;refine⟨a,c,h1,h2,h3,h4,fun i x hx=>?_⟩;obtain⟨h6,b,o,h7,h8⟩:=h5 i x hx;exact⟨h6,b,o,h7,h8.below hb⟩
theorem jw(w:World):dV w (.slice none 0 0) []:=⟨none,0,rfl,fun _=>rfl,by simp,by simp,fun i x hx=>by simp at hx⟩
def rF (S:List (List UInt8)):List Value:=S.map fun s=>.string (bs s)
end
section
open Go.RowKit Go.ChangeShapes Go.WideShapes Go.Deep
theorem gT{α β:Type}{R:α->β->Prop}:∀(L:List α),(∀x∈L,∃y,R x y)->∃l:List β,l.length=L.length/\∀(i:Nat) y,l[i]?=some y->∃x,L[i]?=some x/\R x y
 |[],_=>⟨[],rfl,fun i y h=>by simp at h⟩
 |x::L,h=>by
  obtain⟨y,hy⟩:=h x (by simp);obtain⟨l,h1,h2⟩:=gT L fun x hx=>h x (by simp[hx]);refine⟨y::l,by simp[h1],fun i z hz=>?_⟩;cases i with
  |zero=>
   obtain rfl:y=z:=by simpa using hz
   exact⟨x,rfl,hy⟩
  |succ i=>simpa using h2 i z (by simpa using hz)
section
variable {H:Type} {enc:TypeId×Value->H} {P:Program} {w:World} {base:Nat} {sp:Nat->Bool} {held:Bool}
theorem i3{t e n:Nat}{fuel:Nat}{sa:Option Addr}{sl sc:Nat}{x:DataW H×List MemPlace}(ht:P.underlying t=some (.slice e))(hn:P.cellsOf e=n)(hpos:0<n)
 (h:DataW.trod enc P w base sp held fuel t [.slice sa sl sc]=some x):
 sl<=maxLen/\∃L:List (List Value),L.length=sl/\(∀(i:Nat) cs,L[i]?=some cs->cs.length=n/\∃b o,sa=some ⟨b,o,none⟩/\∀(j:Nat) u,cs[j]?=some u->w.cell? ⟨b,o+i*n+j,none⟩=some u)/\
  ∀cs∈L,∃m y,DataW.trod enc P w base sp held m e cs=some y:=by
 rcases open_slice ht h with⟨h0,_⟩|⟨a,len,cap,m,k,D,Pl,h0,hb,hl,hm,hmm,rfl,hx⟩
 ·simp only[List.cons.injEq,Value.slice.injEq,and_true] at h0;obtain⟨rfl,rfl,rfl⟩:=h0;exact⟨by simp,[],rfl,fun i cs h=>by simp at h,fun cs h=>by cases h⟩
 ·simp only[List.cons.injEq,Value.slice.injEq,and_true] at h0;obtain⟨rfl,rfl,rfl⟩:=h0;have hlm:sl<=m:=by rw[hmm];split<;>omega
  have each:∀i∈List.range sl,∃cs:List Value,(w.cells? base (a.add (i*n)) n=some cs)/\∃m y,DataW.trod enc P w base sp held m e cs=some y:=fun i hi=>by
   obtain⟨cs,h1,h2⟩:=hx i (by have:=List.mem_range.1 hi;omega);rw[hn] at h1;exact⟨cs,h1,k,_,h2⟩
  have hspot0:0<sl->a.spot=none:=fun h0=>by
   obtain⟨cs,h1,_⟩:=hx 0 (by omega);rw[hn] at h1;obtain⟨_,hlen,hcell⟩:=World.cells?_some h1;have h3:=hcell 0 hpos;rw[aW (by omega)] at h3;simpa[Addr.add] using World.cell?_spot h3
  obtain⟨L,h1,h2⟩:=gT (List.range sl) each;refine⟨by omega,L,by simpa using h1,fun i cs hi=>?_,fun cs hc=>?_⟩
  ·obtain⟨i',e1,e2,_⟩:=h2 i cs hi;have hlt:i<sl:=by
    have:=(List.getElem?_eq_some_iff.1 hi).1;simpa[h1] using this
   obtain rfl:i=i':=by simpa[hlt] using e1
   obtain⟨_,hlen,hcell⟩:=World.cells?_some e2;obtain⟨b,o,spot⟩:=a;have hspot:spot=none:=hspot0 (by omega);subst hspot;refine⟨hlen,b,o,rfl,fun j u hj=>?_⟩;have hjl:j<cs.length:=(List.getElem?_eq_some_iff.1 hj).1;have h4:=hcell j (by omega);rw[add_add,Addr.add_lit] at h4;rw[show o+i*n+j=o+(i*n+j) by omega,h4,hj]
  ·obtain⟨i,hi⟩:=List.getElem?_of_mem hc;obtain⟨_,_,_,e3⟩:=h2 i cs hi;exact e3
def JJ(P:Program)(fs:Array Field):Bool:=(List.range fs.size).all fun i=>match fs[i]? with
 |some f=>decide (f.offset=i)&&decide (P.cellsOf f.type=1)
 |none=>true
theorem kh{t fuel:Nat}{fs:Array Field}{cs:List Value}{x:DataW H×List MemPlace}(ht:P.underlying t=some (.struct fs))(hB:JJ P fs=true)(hc:P.cellsOf t=fs.size)(h:DataW.trod enc P w base sp held fuel t cs=some x):
 cs.length=fs.size/\∃k,∀(i:Nat) f v,fs[i]?=some f->cs[i]?=some v->∃y,DataW.trod enc P w base sp held k f.type [v]=some y:=by
 obtain⟨xs,k,_,_,hlen,hxl,hf⟩:=DataW.trod_struct ht h
 refine⟨hlen.trans hc,k,fun i f v hi hv=>?_⟩
 have hlt:i<fs.size:=(Array.getElem?_eq_some_iff.1 hi).1
 unfold JJ at hB
 have:=List.all_eq_true.1 hB i (List.mem_range.2 hlt)
 rw[hi] at this
 simp only[Bool.and_eq_true,decide_eq_true_eq] at this
 have h1:=hf i f hi
 rw[this.1,this.2] at h1
 have hvl:i<cs.length:=(List.getElem?_eq_some_iff.1 hv).1
 have h2:(cs.drop i).take 1=[v]:=by
  rw[List.drop_eq_getElem_cons hvl];have:cs[i]=v:=by rw[aW hvl] at hv;exact aA hv
  simp[this]
 rw[h2] at h1
 rw[aW (by rw[hxl];exact hlt)] at h1
 exact⟨_,h1⟩
end
end
section
open Go.RowKit Go.Maps Go.WideMaps Go.ChangeShapes Go.WideShapes Go.Deep
attribute [local go_sem] am aq
def fO(w:World)(v:Value)(L:List Lb):Prop:=
 ∃a c,v=.slice a L.length c/\L.length<=maxLen/\∀(i:Nat) x,L[i]?=some x->∃b o,a=some ⟨b,o,none⟩/\w.cell? ⟨b,o+i*2,none⟩=some (.string (bs x.1))/\w.cell? ⟨b,o+i*2+1,none⟩=some (.string (bs x.2))/\x.1.length<=maxLen/\x.2.length<=maxLen
theorem fO.below{w w':World}{v:Value}{L:List Lb}(h:fO w v L)(hb:Below w.heap.size w w'):fO w' v L:=by
 obtain⟨a,c,h1,h2,h3⟩:=h;refine⟨a,c,h1,h2,fun i x hx=>?_⟩;obtain⟨b,o,h4,h5,h6,h7⟩:=h3 i x hx;have f:∀{p:Addr} {v:Value},w.cell? p=some v->w'.cell? p=some v:=fun h=>cu hb h;exact⟨b,o,h4,f h5,f h6,h7⟩
def EU (L:List Lb):Prop:=L.length<=10/\∀x∈L,x.1.length<=300/\x.2.length<=300
theorem fO.at{w:World}{v:Value}{L:List Lb}(h:fO w v L)(hf:EU L):aC w v L:=by
 obtain⟨a,c,h1,h2,h3⟩:=h;refine⟨a,c,h1,by have:=hf.1;omega,fun i x hx=>?_⟩;obtain⟨b,o,h4,h5,h6,h7⟩:=h3 i x hx;have:=hf.2 x (List.mem_of_getElem? hx);exact⟨by omega,by omega,b,o,h4,h5,h6⟩
section
variable {H:Type} {enc:TypeId×Value->H} {w:World} {base:Nat} {sp:Nat->Bool} {held:Bool}
theorem oU{fuel:Nat}{v:Value}{x:DataW H×List MemPlace}(h:DataW.trod enc Tryz.prog w base sp held fuel 65 [v]=some x)(hv:∃sa sl sc,v=.slice sa sl sc):∃L,fO w v L:=by
 obtain⟨sa,sl,sc,rfl⟩:=hv;obtain⟨h1,L,h2,h3,h4⟩:=i3 Tryz.underlying65 (n:=2) (by kernel_rfl) (by omega) h;obtain⟨l,k1,k2⟩:=gT (R:=fun cs (a:Lb)=>cs=[.string (bs a.1),.string (bs a.2)]/\a.1.length<=maxLen/\a.2.length<=maxLen) L fun cs hc=>by
  obtain⟨m,y,hy⟩:=h4 cs hc;obtain⟨hlen,k,hf⟩:=kh Tryz.underlying73 (by kernel_rfl) (by kernel_rfl) hy;match cs,hlen with
  |[v0,v1],_=>
   obtain⟨y0,g0⟩:=hf 0 _ v0 rfl rfl;obtain⟨y1,g1⟩:=hf 1 _ v1 rfl rfl;obtain⟨sA,e1,_,w1⟩:=DataW.trod_string Tryz.underlying9 g0;obtain⟨sB,e2,_,w2⟩:=DataW.trod_string Tryz.underlying9 g1;obtain⟨lA,rfl⟩:=JN sA;obtain⟨lB,rfl⟩:=JN sB;rw[aq] at w1 w2;simp only[List.cons.injEq,and_true] at e1 e2;subst e1 e2;exact⟨(lA,lB),rfl,w1,w2⟩
 refine⟨l,sa,sc,by rw[k1,h2],by omega,fun i a ha=>?_⟩;obtain⟨cs,e1,rfl,e2,e3⟩:=k2 i a ha;obtain⟨_,b,o,f1,f2⟩:=h3 i _ e1;exact⟨b,o,f1,by simpa using f2 0 _ rfl,f2 1 _ rfl,e2,e3⟩
end
theorem Dz{w:World}{v:Value}{L:List Lb}(h:fO w v L):
 Calls Tryz.prog 80 #[v] w fun e w'=>∃b,e=.returned (.bool b)/\Below w.heap.size w w'/\(b=true->EU L):=by
 obtain⟨a,c,rfl,hn,hc⟩:=h
 have HC:=af hc
 unfold maxLen at hn
 clear hc
 go_enter Tryz.func80,Tryz.ntmps80
 go_wp2
 go_loopw [3] (fun vi wr=>∃i:Nat,i<=L.length/\i<=11/\vi=.int .i64 (i:Int)/\(∀x∈L.take i,x.1.length<=300/\x.2.length<=300)/\Below w.heap.size w wr) (fun vi _=>11-(intOf vi).toNat)
 case atStart=>exact⟨0,Nat.zero_le _,by omega,rfl,by simp,bQ⟩
 obtain⟨i,hi,hi2,rfl,hp,hb⟩:=hrel
 have HP:=af hp
 clear hp
 by_cases hil:i<L.length
 ·by_cases hi3:i<=10
  ·obtain⟨b,o,rfl,d0,d1,l0,l1⟩:=HC.out i _ (aW hil);have HT:=af (show L.take i++[L[i]]=L.take (i+1) from(eN hil).symm);have e0:=cu hb d0;have e1:=cu hb d1;generalize L[i]=x at*;clear d0 d1;unfold maxLen at l0 l1;by_cases h1:300<x.1.length
   ·have f1:decide ((300:Int)<(x.1.length:Int))=true:=by simp;omega
    have f1':decide (300<x.1.length)=true:=by simpa using h1
    go_wp2;go_ret;exact⟨false,rfl,hb,fun e=>by cases e⟩
   have f1:decide ((300:Int)<(x.1.length:Int))=false:=by simp;omega
   have f1':decide (300<x.1.length)=false:=by simpa using h1
   by_cases h2:300<x.2.length
   ·have f2:decide ((300:Int)<(x.2.length:Int))=true:=by simp;omega
    have f2':decide (300<x.2.length)=true:=by simpa using h2
    go_wp2;go_ret;exact⟨false,rfl,hb,fun e=>by cases e⟩
   have f2:decide ((300:Int)<(x.2.length:Int))=false:=by simp;omega
   have f2':decide (300<x.2.length)=false:=by simpa using h2
   go_wp2;go_roundw
   case rel=>
    refine⟨i+1,by omega,by omega,by go_num,fun y hy=>?_,hb⟩;rw[<-HT.out] at hy;rcases List.mem_append.1 hy with hy|hy
    ·exact HP.out y hy
    ·obtain rfl:=List.mem_singleton.1 hy;exact⟨by omega,by omega⟩
   case measure=>simp[intOf];omega
  ·have f1:decide ((i:Int)<=10)=false:=by simp;omega
   have f1':decide (i<=10)=false:=by simpa using hi3
   have f2:decide ((L.length:Int)<=10)=false:=by simp;omega
   have f2':decide (L.length<=10)=false:=by simp;omega
   go_wp2;go_ret;exact⟨false,rfl,hb,fun e=>by cases e⟩
 ·obtain rfl:i=L.length:=by omega
  rw[List.take_length] at HP;go_wp2;go_ret;exact⟨_,rfl,hb,fun e=>⟨by (have h:(L.length:Int)<=10:=by simpa using e);omega,HP.out⟩⟩
def Jv(w:World)(b o:Nat)(x:Rc):Prop:=x.ok/\∃sl,w.cell? ⟨b,o,none⟩=some (.int .i64 x.kind)/\w.cell? ⟨b,o+1,none⟩=some sl/\fO w sl x.labels/\w.cell? ⟨b,o+2,none⟩=some (.int .i64 x.t)/\w.cell? ⟨b,o+3,none⟩=some (.int .i64 x.u)/\w.cell? ⟨b,o+4,none⟩=some (.int .u64 (x.v:Int))
def ip(w:World)(v:Value)(R:List Rc):Prop:=
 ∃a c,v=.slice a R.length c/\R.length<=maxLen/\∀(i:Nat) x,R[i]?=some x->∃b o,a=some ⟨b,o,none⟩/\Jv w b (o+i*5) x
theorem ip.below{w w':World}{v:Value}{R:List Rc}(h:ip w v R)(hb:Below w.heap.size w w'):ip w' v R:=by
 obtain⟨a,c,h1,h2,h3⟩:=h;refine⟨a,c,h1,h2,fun i x hx=>?_⟩;obtain⟨b,o,h4,h5,sl,e0,e1,hL,e2,e3,e4⟩:=h3 i x hx;have f:∀{p:Addr} {v:Value},w.cell? p=some v->w'.cell? p=some v:=fun h=>cu hb h;exact⟨b,o,h4,h5,sl,f e0,f e1,hL.below hb,f e2,f e3,f e4⟩
def Km (R:List Rc):Prop:=R.length<=40/\∀x∈R,EU x.labels
theorem ip.at{w:World}{v:Value}{R:List Rc}(h:ip w v R)(hf:Km R):dz w v R:=by
 obtain⟨a,c,h1,h2,h3⟩:=h;refine⟨a,c,h1,by have:=hf.1;omega,fun i x hx=>?_⟩;obtain⟨b,o,h4,h5,sl,e0,e1,hL,e2,e3,e4⟩:=h3 i x hx;exact⟨b,o,h4,h5,sl,e0,e1,hL.at (hf.2 x (List.mem_of_getElem? hx)),e2,e3,e4⟩
section
variable {H:Type} {enc:TypeId×Value->H} {w:World} {base:Nat} {sp:Nat->Bool} {held:Bool}
theorem wW{fuel:Nat}{sa:Option Addr}{sl sc:Nat}{x:DataW H×List MemPlace}(h:DataW.trod enc Tryz.prog w base sp held fuel 22 [.slice sa sl sc]=some x):∃R,ip w (.slice sa sl sc) R:=by
 obtain⟨h1,L,h2,h3,h4⟩:=i3 Tryz.underlying22 (n:=5) (by kernel_rfl) (by omega) h;obtain⟨l,k1,k2⟩:=gT (R:=fun cs (a:Rc)=>a.ok/\∃kv,cs=[.int .i64 a.kind,kv,.int .i64 a.t,.int .i64 a.u,.int .u64 (a.v:Int)]/\fO w kv a.labels) L fun cs hc=>by
  obtain⟨m,y,hy⟩:=h4 cs hc;obtain⟨hlen,k,hf⟩:=kh Tryz.underlying108 (by kernel_rfl) (by kernel_rfl) hy;match cs,hlen with
  |[v0,v1,v2,v3,v4],_=>
   obtain⟨y0,g0⟩:=hf 0 _ v0 rfl rfl;obtain⟨y1,g1⟩:=hf 1 _ v1 rfl rfl;obtain⟨y2,g2⟩:=hf 2 _ v2 rfl rfl;obtain⟨y3,g3⟩:=hf 3 _ v3 rfl rfl;obtain⟨y4,g4⟩:=hf 4 _ v4 rfl rfl;obtain⟨K,e0,_,w0⟩:=DataW.trod_int Tryz.underlying3 g0;obtain⟨T,e2,_,w2⟩:=DataW.trod_int Tryz.underlying2 g2;obtain⟨U,e3,_,w3⟩:=DataW.trod_int Tryz.underlying2 g3;obtain⟨V,e4,_,w4⟩:=DataW.trod_int Tryz.underlying67 g4;have e1:∃sa sl sc,v1=.slice sa sl sc:=by
    rcases open_slice Tryz.underlying65 g1 with⟨e,_⟩|⟨_,_,_,_,_,_,_,e,_⟩
    ·exact⟨_,_,_,by simpa using e⟩
    ·exact⟨_,_,_,by simpa using e⟩
   obtain⟨ks,hks⟩:=oU g1 e1;simp only[List.cons.injEq,and_true] at e0 e2 e3 e4;subst e0 e2 e3 e4;obtain⟨n,rfl,hn⟩:∃k:Nat,V=k/\k<18446744073709551616:=by
    have:=bounds_u64 w4;exact⟨V.toNat,by omega,by omega⟩
   have b0:=bounds_i64 w0;have b2:=bounds_i64 w2;have b3:=bounds_i64 w3;exact⟨⟨K,ks,T,U,n⟩,⟨b0.1,b0.2,b2.1,b2.2,b3.1,b3.2,hn⟩,v1,rfl,hks⟩
 refine⟨l,sa,sc,by rw[k1,h2],by omega,fun i a ha=>?_⟩;obtain⟨cs,e1,hok,kv,rfl,e2⟩:=k2 i a ha;obtain⟨_,b,o,f1,f2⟩:=h3 i _ e1;exact⟨b,o,f1,hok,kv,by simpa using f2 0 _ rfl,f2 1 _ rfl,e2,f2 2 _ rfl,f2 3 _ rfl,f2 4 _ rfl⟩
end
theorem Ap{w:World}{v:Value}{R:List Rc}(h:ip w v R):
 Calls Tryz.prog 31 #[v] w fun e w'=>∃b,e=.returned (.bool b)/\Below w.heap.size w w'/\(b=true->Km R):=by
 obtain⟨a,c,rfl,hn,hc⟩:=h
 have HC:=af hc
 unfold maxLen at hn
 clear hc
 go_enter Tryz.func31,Tryz.ntmps31
 go_wp2
 go_loopw [3] (fun vi wr=>∃i:Nat,i<=R.length/\i<=41/\vi=.int .i64 (i:Int)/\(∀x∈R.take i,EU x.labels)/\Below w.heap.size w wr) (fun vi _=>41-(intOf vi).toNat)
 case atStart=>exact⟨0,Nat.zero_le _,by omega,rfl,by simp,bQ⟩
 obtain⟨i,hi,hi2,rfl,hp,hb⟩:=hrel
 have HP:=af hp
 clear hp
 by_cases hil:i<R.length
 ·by_cases hi3:i<=40
  ·obtain⟨b,o,rfl,hok,sl,d0,d1,hL,_⟩:=HC.out i _ (aW hil);have HT:=af (show R.take i++[R[i]]=R.take (i+1) from(eN hil).symm);have e1:=cu hb d1;have q:=af (Dz (hL.below (hb.mono (aF _))));generalize R[i]=x at*;obtain⟨va,vc,rfl,_⟩:=hL;clear d0 d1;go_wp2_with fail
   refine q.out.mono ?_;rintro e W2 ⟨b2,rfl,hb2,hf⟩;have HF:=af hf;clear hf q;have hbb:=ay hb hb2;cases b2 with
   |false=>
    go_wp2;go_ret;exact⟨false,rfl,hbb,fun e=>by cases e⟩
   |true=>
    go_wp2;go_roundw
    case rel=>
     refine⟨i+1,by omega,by omega,by go_num,fun y hy=>?_,hbb⟩;rw[<-HT.out] at hy;rcases List.mem_append.1 hy with hy|hy
     ·exact HP.out y hy
     ·obtain rfl:=List.mem_singleton.1 hy;exact HF.out trivial
    case measure=>simp[intOf];omega
  ·have f1:decide ((i:Int)<=40)=false:=by simp;omega
   have f1':decide (i<=40)=false:=by simpa using hi3
   have f2:decide ((R.length:Int)<=40)=false:=by simp;omega
   have f2':decide (R.length<=40)=false:=by simp;omega
   go_wp2;go_ret;exact⟨false,rfl,hb,fun e=>by cases e⟩
 ·obtain rfl:i=R.length:=by omega
  rw[List.take_length] at HP;go_wp2;go_ret;exact⟨_,rfl,hb,fun e=>⟨by (have h:(R.length:Int)<=40:=by simpa using e);omega,HP.out⟩⟩
end
section
open Go.RowKit
def zI (n:Nat)(R:List Bool):Option (Nat×List Bool):=if n<=R.length then some (jD (R.take n),R.drop n) else none
def dL (x:Int):Int:=IntKind.i64.wrap x
theorem tF(x:Int):dL x=(x+9223372036854775808)%18446744073709551616-9223372036854775808:=by
 unfold dL;simp only[IntKind.wrap,IntKind.bits,IntKind.signed];simp;omega
theorem rR(x:Int): -9223372036854775808<=dL x/\dL x<=9223372036854775807:=by rw[tF];omega
structure Ak where
 n:Nat
 t:Int
 d:Int
def gW(i:Nat):Int:=if i=0 then 0 else if i=1 then-63 else if i=2 then-255 else-2047
def oy(i:Nat):Int:=if i=0 then 0 else if i=1 then 64 else if i=2 then 256 else 2048
def kS(i:Nat):Nat:=if i=0 then 0 else if i=1 then 7 else if i=2 then 9 else 12
def ng(c:Int)(i:Nat):Bool:=decide (gW i<=c/\c<=oy i)
def fe(c:Int):Nat:=if ng c 0 then 0 else if ng c 1 then 1 else if ng c 2 then 2 else if ng c 3 then 3 else 4
theorem pB(c:Int):fe c<=4:=by unfold fe;split<;>(try split)<;>(try split)<;>(try split)<;>omega
def bE(s:Ak)(t:Int):Ak:=if s.n=0 then⟨1,t,0⟩ else⟨s.n+1,t,dL (t-s.t)⟩
def d9(s:Ak)(t:Int):Int:=dL (dL (t-s.t)-s.d)
def Fc (c:Int):List Bool:=
 if fe c=4 then bF 15 4++bF (aS c) 64
 else bF (2^(fe c+1)-2) (fe c+1)++bF (aS (c-gW (fe c))) (kS (fe c))
def sF (s:Ak)(t:Int):List Bool:=if s.n=0 then bF (aS t) 64 else Fc (d9 s t)
def kT:Ak->List Int->List Bool
 |_,[]=>[]
 |s,t::l=>sF s t++kT (bE s t) l
def JF:Nat->Nat->List Bool->Option (Nat×List Bool)
 |0,i,R=>some (i,R)
 |_+1,_,[]=>none
 |k+1,i,b::R=>if b then JF k (i+1) R else some (i,R)
def Lp (s:Ak)(R:List Bool):Option (Int×List Bool):=
 if s.n=0 then(zI 64 R).map fun p=>(dL p.1,p.2)
 else match JF 4 0 R with
  |none=>none
  |some (i,R1)=>match zI (if i<4 then kS i else 64) R1 with
   |none=>none
   |some (v,R2)=>
    let c:=dL (dL v+if i<4 then gW i else 0)
    if fe c=i then some (dL (dL (s.t+s.d)+c),R2) else none
theorem uY{c:Int}{i:Nat}(h:fe c=i)(hi:i<4):gW i<=c/\c<=oy i:=by
 unfold fe ng at h;subst h;split at hi
 ·rename_i h1;rw[if_pos h1];simpa using h1
 ·rename_i h1;split at hi
  ·rename_i h2;rw[if_neg h1,if_pos h2];simpa using h2
  ·rename_i h2;split at hi
   ·rename_i h3;rw[if_neg h1,if_neg h2,if_pos h3];simpa using h3
   ·rename_i h3;split at hi
    ·rename_i h4;rw[if_neg h1,if_neg h2,if_neg h3,if_pos h4];simpa using h4
    ·omega
def CW:Nat->Ak->List Bool->Option (List Int×List Bool)
 |0,_,R=>some ([],R)
 |k+1,s,R=>match Lp s R with
  |none=>none
  |some (t,R1)=>match CW k (bE s t) R1 with
   |none=>none
   |some (l,R2)=>some (t::l,R2)
def Hm(R:List Bool):Bool:=decide (R.length<8)&&decide (jD R=0)
def kQ(l:List Int):List UInt8:=ef (kT ⟨0,0,0⟩ l)
def J0(s:List UInt8)(n:Nat):Option (List Int):=match CW n ⟨0,0,0⟩ (JO s) with
 |none=>none
 |some (l,R)=>if Hm R then some l else none
def ky(x:Nat):Nat:=64-Lib.bitLen x
def fZ(x:Nat):Nat:=Lib.ctz 64 x
theorem v8{x:Nat}(h:x<2^64):Lib.bitLen x<=64:=Lib.bitLen_le x 64 (aF _) h
theorem Jc{x:Nat}(h:x<2^64)(h0:x≠0):x<2^(64-ky x):=by
 obtain⟨_,_,h3⟩:=Lib.bitLenAux_bounds 64 x h h0;have:=v8 h;unfold ky;rw[show 64-(64-Lib.bitLen x)=Lib.bitLen x by omega];exact h3
theorem FP{x:Nat}(h:x<2^64)(h0:x≠0):∃m,x=2^fZ x*m/\m≠0/\fZ x<64:=by
 obtain⟨m,h1,h2⟩:=Lib.ctzFrom_spec 64 x (by omega) h;have e:fZ x=Lib.ctzFrom 64 x:=by unfold fZ Lib.ctz;rw[if_neg h0]
 exact⟨2*m+1,by rw[e];exact h1,by omega,by rw[e];exact h2⟩
theorem tA{x:Nat}(h:x<2^64)(h0:x≠0):ky x+fZ x<64:=by
 obtain⟨m,h1,h2,h3⟩:=FP h h0;have h4:=Jc h h0;have h5:2^fZ x<=x:=by
  conv=>rhs;rw[h1]
  exact Nat.le_mul_of_pos_right _ (by omega)
 have h6:=(Nat.pow_lt_pow_iff_right (a:=2) (by decide)).1 (Nat.lt_of_le_of_lt h5 h4);omega
structure lX where
 n:Nat
 v:Nat
 lead:Nat
 trail:Nat
def lX.begin:lX:=⟨0,0,64,0⟩
def Bh (s:lX):Bool:=if s.lead=64 then decide (s.trail=0) else decide (s.lead<64/\s.trail<64-s.lead)
theorem Kh{s:lX}(h:Bh s=true):s.lead+s.trail<=64:=by
 unfold Bh at h;split at h
 ·have:=of_decide_eq_true h;omega
 ·have:=of_decide_eq_true h;omega
def fQ (s:lX)(x:Nat):Nat×Nat×Nat:=
 if s.n=0 then(0,s.lead,s.trail) else if x=0 then(1,s.lead,s.trail)
 else if s.lead<64/\s.lead<=ky x/\s.trail<=fZ x then(2,s.lead,s.trail) else(3,ky x,fZ x)
def AD (s:lX)(v:Nat):List Bool:=
 let w:=fQ s (v^^^s.v)
 let x:=v^^^s.v
 if w.1=0 then bF v 64 else if w.1=1 then bF 0 1
 else if w.1=2 then bF 2 2++bF (x >>> w.2.2) (64-w.2.1-w.2.2)
 else((bF 3 2++bF w.2.1 6)++bF (64-w.2.1-w.2.2-1) 6)++bF (x >>> w.2.2) (64-w.2.1-w.2.2)
def eS(s:lX)(v:Nat):lX:=⟨s.n+1,v,(fQ s (v^^^s.v)).2.1,(fQ s (v^^^s.v)).2.2⟩
def kO:lX->List Nat->List Bool
 |_,[]=>[]
 |s,v::l=>AD s v++kO (eS s v) l
def FI(s:lX)(how lead trail:Nat)(R:List Bool):Option (lX×List Bool):=match zI (64-lead-trail) R with
 |none=>none
 |some (v,R2)=>if fQ s (v*2^trail)=(how,lead,trail) then some (⟨s.n+1,s.v^^^(v*2^trail),lead,trail⟩,R2) else none
def Ln (s:lX)(R:List Bool):Option (lX×List Bool):=
 if s.n=0 then(zI 64 R).map fun p=>(⟨1,p.1,s.lead,s.trail⟩,p.2)
 else match zI 1 R with
  |none=>none
  |some (b,R1)=>if b=0 then some (⟨s.n+1,s.v,s.lead,s.trail⟩,R1) else match zI 1 R1 with
   |none=>none
   |some (f,R2)=>if f=1 then match zI 6 R2 with
    |none=>none
    |some (a,R3)=>match zI 6 R3 with
     |none=>none
     |some (c,R4)=>if 63<a+c then none else FI s 3 a (63-a-c) R4
    else FI s 2 s.lead s.trail R2
theorem xY{a b:Nat}(ha:a<2^64)(hb:b<2^64):a^^^b<2^64:=Nat.xor_lt_two_pow ha hb
theorem yh(s:lX)(v:Nat)(hs:Bh s=true)(h1:s.v<2^64)(h2:v<2^64):Bh (eS s v)=true:=by
 have hx:=xY h2 h1;unfold eS fQ;split
 ·exact hs
 ·split
  ·exact hs
  ·split
   ·exact hs
   ·rename_i hn h0 hc;have:=tA hx h0;unfold Bh;dsimp only;rw[if_neg (by omega)];simp;omega
def CT:Nat->lX->List Bool->Option (List Nat×List Bool)
 |0,_,R=>some ([],R)
 |k+1,s,R=>match Ln s R with
  |none=>none
  |some (t,R1)=>match CT k t R1 with
   |none=>none
   |some (l,R2)=>some (t.v::l,R2)
def iW(l:List Nat):List UInt8:=ef (kO lX.begin l)
def Iz(s:List UInt8)(n:Nat):Option (List Nat):=match CT n lX.begin (JO s) with
 |none=>none
 |some (l,R)=>if Hm R then some l else none
abbrev cJ:=Int×Nat
def ew(x:cJ):Prop:=(-9223372036854775808<=x.1/\x.1<=9223372036854775807)/\x.2<18446744073709551616
def nK:Option Int->List cJ->Bool
 |_,[]=>true
 |p,x::l=>(match p with|none=>true|some t=>decide (t<x.1))&&nK (some x.1) l
def dj(l:List cJ):Bool:=nK none l
def o5:Int->List cJ->List UInt8
 |_,[]=>[]
 |a,x::l=>(Num.small (Num.zigI (dL (x.1-a))).toNat++Num.wide x.2)++o5 x.1 l
def nh(x:cJ):List UInt8:=Num.wide (aS x.1)++Num.wide x.2
def dC(l:List cJ)(g:Int):List UInt8:=
 if g=1 then Num.wide l.length++l.flatMap nh
 else if g=2 then Num.small l.length++o5 0 l
 else(Num.small l.length++Num.text (kQ (l.map fun x=>x.1)))++Num.text (iW (l.map fun x=>x.2))
def Hs(l:List cJ)(g:Int):Bool:=decide (1<=g/\g<=3)&&(dj l&&decide (l.length<=200))
def fk(l:List cJ)(g:Int):List UInt8×Int:=if Hs l g then(dC l g++dp (dC l g),0) else([],1)
def gO(one:Int->CS->cJ×CS):Nat->Int->CS->List cJ×CS
 |0,_,c=>([],c)
 |k+1,a,c=>((one a c).1::(gO one k (one a c).1.1 (one a c).2).1,(gO one k (one a c).1.1 (one a c).2).2)
def np(_:Int)(c:CS):cJ×CS:=((dL (wV c),(wV (wN c)).toNat),wN (wN c))
def KL(a:Int)(c:CS):cJ×CS:=((dL (a+Num.zagI (sV c)),(wV (sN c)).toNat),wN (sN c))
def Lx (c:CS):List UInt8:=Num.ans [] c (Num.getText c.1 100000)
def KW (c:CS):CS:=Num.nxt c (Num.getText c.1 100000)
def ie(g:Int)(c:CS):List cJ×CS:=
 if g=1 then gO np (min (wV c).toNat 201) 0 (wN c)
 else if g=2 then gO KL (min (sV c).toNat 201) 0 (sN c)
 else
  let n:=min (sV c).toNat 201
  match J0 (Lx (sN c)) n,Iz (Lx (KW (sN c))) n with
  |some t,some v=>(t.zip v,KW (KW (sN c)))
  |_,_=>([],((KW (KW (sN c))).1,true))
def nB(c:CS):Bool:= !c.2&&c.1.isEmpty
def gj(s:List UInt8)(g:Int):List cJ×Int:=
 if g<1\/3<g then([],1)
 else match eB s with
  |none=>([],9)
  |some b=>if nB (ie g (b,false)).2&&(decide ((ie g (b,false)).1.length<=200)&&dj (ie g (b,false)).1) then((ie g (b,false)).1,0) else([],9)
theorem Hu(c:Int):(Fc c).length<=68:=by
 unfold Fc;split
 ·rw[aG,bJ,bJ];omega
 ·have:=pB c;rw[aG,bJ,bJ];unfold kS;split<;>(try split)<;>(try split)<;>omega
theorem yx(s:Ak)(t:Int):(sF s t).length<=68:=by
 unfold sF;split
 ·rw[bJ];omega
 ·exact Hu _
theorem sG:∀(l:List Int) (s:Ak),(kT s l).length<=l.length*68
 |[],_=>aF _
 |t::l,s=>by
  have h1:=yx s t;have h2:=sG l (bE s t);rw[kT,aG,de];omega
theorem su(l:List Int):(kQ l).length<=l.length*9:=by
 unfold kQ;rw[pE];have:=sG l ⟨0,0,0⟩;omega
theorem yg(s:lX)(v:Nat):(AD s v).length<=78:=by
 unfold AD;dsimp only;split
 ·rw[bJ];omega
 ·split
  ·rw[bJ];omega
  ·split
   ·rw[aG,bJ,bJ];omega
   ·rw[aG,aG,aG,bJ,bJ,bJ,bJ];omega
theorem sq:∀(l:List Nat) (s:lX),(kO s l).length<=l.length*78
 |[],_=>aF _
 |t::l,s=>by
  have h1:=yg s t;have h2:=sq l (eS s t);rw[kO,aG,de];omega
theorem qj(l:List Nat):(iW l).length<=l.length*10:=by
 unfold iW;rw[pE];have:=sq l lX.begin;omega
theorem rk{l:List cJ}{g:Int}(hl:l.length<=200):(dC l g).length<=5000:=by
 have k1:∀m:List cJ,(m.flatMap nh).length=m.length*16:=fun m=>by
  induction m with
  |nil=>rfl
  |cons x m ih=>rw[List.flatMap_cons,aG,ih,de];unfold nh;rw[aG,Num.wide_len,Num.wide_len];omega
 have k2:∀(m:List cJ) (a:Int),(o5 a m).length<=m.length*18:=fun m=>by
  induction m with
  |nil=>intro a;exact aF _
  |cons x m ih=>
   intro a;have h1:=ih x.1;have h2:=(Num.small_len (Num.zigI (dL (x.1-a))).toNat).2;rw[o5,aG,aG,Num.wide_len,de];omega
 have k3:=(Num.small_len l.length).2;unfold dC;split
 ·rw[aG,Num.wide_len,k1];omega
 ·split
  ·have:=k2 l 0;rw[aG];omega
  ·have h1:=su (l.map fun x=>x.1);have h2:=qj (l.map fun x=>x.2);rw[List.length_map] at h1 h2;have h3:=(Num.small_len (kQ (l.map fun x=>x.1)).length).2;have h4:=(Num.small_len (iW (l.map fun x=>x.2)).length).2;rw[aG,aG,Num.text_len,Num.text_len];omega
end
section
open Go.RowKit
attribute [local go_sem] am aq
theorem kK(L M:List Lb)(v u:Value)(w:World)(h1:aC w v L)(h2:aC w u M):
 Calls Tryz.prog 66 #[v,u] w fun e w'=>e=.returned (.bool (dY L M))/\Below w.heap.size w w':=by
 have q1:=af (pq L v w h1)
 have q2:=af (fun W h=>pq M u W h)
 have HL:=af (show dY L M=Op.bytesLess (dE L) (dE M) from rfl)
 generalize dY L M=R at*
 generalize dE L=a at*
 generalize dE M=b at*
 go_enter Tryz.func66,Tryz.ntmps66
 go_wp2_with fail
 refine bP q1.out fun w1 b1=>?_
 have h3:=h2.below b1
 go_wp2_with fail
 refine(q2.out _ h3).mono ?_
 rintro e w2 ⟨rfl,b2⟩
 go_wp2
 go_ret
 exact⟨by rw[HL.out];rfl,ay b1 b2⟩
def kq(L M:List Lb):Bool:=decide (L.length=M.length)&&(dE L==dE M)
theorem mZ(L M:List Lb)(v u:Value)(w:World)(h1:aC w v L)(h2:aC w u M):
 Calls Tryz.prog 71 #[v,u] w fun e w'=>e=.returned (.bool (kq L M))/\Below w.heap.size w w':=by
 have q1:=af (pq L v w h1)
 have q2:=af (fun W h=>pq M u W h)
 have HL:=af (show kq L M=(decide (L.length=M.length)&&(dE L==dE M)) from rfl)
 generalize kq L M=R at*
 obtain⟨a,c,rfl,_⟩:=id h1
 obtain⟨a',c',rfl,_⟩:=id h2
 generalize dE L=s at*
 generalize dE M=t at*
 by_cases hl:L.length=M.length
 ·have f1:((L.length:Int)==(M.length:Int))=true:=by simp[hl]
  have HR:=af (show R=(s==t) by rw[HL.out,hl];simp);have HLL:=af hl;clear HL hl;go_enter Tryz.func71,Tryz.ntmps71
  go_wp2_with fail
  refine bP q1.out fun w1 b1=>?_;have h3:=h2.below b1;go_wp2_with fail
  refine(q2.out _ h3).mono ?_;rintro e w2 ⟨rfl,b2⟩;go_wp2;go_ret;exact⟨by rw[HR.out];rfl,ay b1 b2⟩
 ·have f1:((L.length:Int)==(M.length:Int))=false:=by simpa using(fun e=>hl (by omega):¬(L.length:Int)=(M.length:Int))
  have f2:(L.length==M.length)=false:=by simpa using hl
  have HR:=af (show R=false by rw[HL.out,decide_eq_false hl];rfl);clear HL hl;go_enter Tryz.func71,Tryz.ntmps71
  go_wp2;go_ret;exact⟨by rw[HR.out];rfl,bQ⟩
end
section
open Go.RowKit
structure aP where
 labels:List Lb
 samples:List cJ
 last:Int
structure m9 where
 ser:List aP
 floor:Int
def cB:aP:=⟨[],[],0⟩
def aP.ok(x:aP):Prop:=(∀y∈x.samples,ew y)/\ -9223372036854775808<=x.last/\x.last<=9223372036854775807
def df(S:List aP)(l:List Lb):Option Nat:=S.findIdx? fun x=>kq x.labels l
def fX(S:List aP)(l:List Lb):Nat:=(S.findIdx? fun x=> !dY x.labels l).getD S.length
def em(l:List cJ)(a b:Int):List cJ:=l.filter fun x=>decide (a<=x.1)&&decide (x.1<=b)
def bU(l:List cJ)(a b:Int):List cJ:=l.filter fun x=>decide (x.1<a)||decide (b<x.1)
def cI(s:m9)(l:List Lb)(x:cJ)(g:Int):Int×Bool:=
 if bz l≠0 then(2,false)
 else if cw g<(aZ l:Int) then(3,false)
 else if aU x.1=false then(1,false)
 else if x.1<s.floor then(6,false)
 else match df s.ser l with
  |none=>if 20<=s.ser.length then(7,false) else(0,false)
  |some i=>
   let y:=s.ser.getD i cB
   if x.1<y.last then(4,false)
   else if x.1=y.last then(if x∈y.samples then(0,true) else(5,false))
   else if 200<=y.samples.length then(7,false) else(0,false)
def sU (s:m9)(l:List Lb)(x:cJ):m9:=match df s.ser l with
 |some i=>⟨s.ser.set i ⟨(s.ser.getD i cB).labels,(s.ser.getD i cB).samples++[x],x.1⟩,s.floor⟩
 |none=>⟨s.ser.take (fX s.ser l)++(⟨l,[x],x.1⟩::s.ser.drop (fX s.ser l)),s.floor⟩
def vG(s:m9)(t:Int):m9:=⟨(s.ser.map fun x=>(⟨x.labels,em x.samples t 9223372036854775807,x.last⟩:aP)).filter fun x=> !x.samples.isEmpty||decide (t<=x.last),t⟩
def bS(s:m9)(r:Rc):m9×Int:=
 if r.kind=0 then(if cI s r.labels (r.t,r.v) 3=(0,false) then(sU s r.labels (r.t,r.v),0) else(s,9))
 else if r.kind=1 then match df s.ser r.labels with
  |none=>(s,9)
  |some i=>
   let y:=s.ser.getD i cB
   if (bU y.samples r.t r.u).length=y.samples.length then(s,9) else(⟨s.ser.set i ⟨y.labels,bU y.samples r.t r.u,y.last⟩,s.floor⟩,0)
 else if r.kind=2 then(if aU r.t&&decide (s.floor<r.t) then(vG s r.t,0) else(s,9))
 else(s,9)
def ex(x:aP)(f:Int):Bool:=
 (decide (bz x.labels=0)&&(decide (x.samples.length<=200)&&(dj x.samples&&decide (x.last<=1125899906842624))))&&
 match x.samples with
 |[]=>decide (f<=x.last)
 |y::l=>decide (f<=y.1)&&decide (((y::l).getLast (by simp)).1<=x.last)
def dW(f:Int):Option (List Lb)->List aP->Bool
 |_,[]=>true
 |p,x::l=>ex x f&&((match p with|none=>true|some q=>dY q x.labels)&&dW f (some x.labels) l)
def jj(s:m9):Bool:=aU s.floor&&(decide (s.ser.length<=20)&&dW s.floor none s.ser)
def gA(x y:aP):Bool:=decide (x.last=y.last)&&(kq x.labels y.labels&&decide (x.samples=y.samples))
def l9:List aP->List aP->Bool
 |[],[]=>true
 |x::l,y::m=>gA x y&&l9 l m
 |_,_=>false
def CY(a b:m9):Bool:=decide (a.floor=b.floor)&&l9 a.ser b.ser
structure mI where
 floor:Int
 gone:List Rc
 ser:List aP
def dB:mI:=⟨0,[],[]⟩
def dr(b:mI):Nat:=b.ser.foldl (fun n x=>max n (aZ x.labels)) (b.gone.foldl (fun n x=>max n (aZ x.labels)) 0)
def fj(x:aP):Bool:= !decide (bz x.labels=0)||(!dj x.samples||(decide (200<x.samples.length)|| !aU x.last))
def fH(g:Int)(x:Rc):Bool:= !decide (x.kind=1)||decide (dJ x g=1)
def fh:Option (List Lb)->List aP->Bool
 |_,[]=>true
 |p,x::l=>(match p with|none=>true|some q=>dY q x.labels)&&fh (some x.labels) l
def co(b:mI)(g:Int):Int:=
 if g<1\/3<g\/aU b.floor=false\/400<b.gone.length\/20<b.ser.length\/b.gone.any (fH g)=true\/b.ser.any fj=true then 1
 else if fh none b.ser=false then 1
 else if cw g<(dr b:Int) then 3 else 0
def fi(S:List aP)(f:Int):List aP:=S.filter fun x=> !(x.samples.isEmpty&&decide (x.last<f))
def mg (S:List aP)(x:aP):List aP:=match df S x.labels with
 |some i=>S.set i x
 |none=>S.take (fX S x.labels)++(x::S.drop (fX S x.labels))
def eC(S:List aP)(r:Rc):List aP:=match df S r.labels with
 |none=>S
 |some i=>
  let y:=S.getD i cB
  mg S ⟨y.labels,bU y.samples r.t r.u,y.last⟩
def fq(S:List aP)(x:aP):List aP:=match df S x.labels with
 |none=>mg S x
 |some i=>mg S ⟨x.labels,(S.getD i cB).samples++x.samples,x.last⟩
def kF(S:List aP)(f:Int):List aP:=fi (S.map fun x=>(⟨x.labels,em x.samples f 9223372036854775807,x.last⟩:aP)) f
def JE(s:m9)(b:mI):m9:=
 let S1:=b.gone.foldl eC s.ser
 let f:=max s.floor b.floor
 let S2:=if s.floor<b.floor then kF S1 b.floor else S1
 ⟨fi (b.ser.foldl fq S2) f,f⟩
def yT(s:m9)(b:mI):m9×Int:=if jj (JE s b) then(JE s b,0) else(s,9)
def iS:Option (Int×Int)->List (cJ×Bool)->List (Int×Int)
 |none,[]=>[]
 |some p,[]=>[p]
 |none,(x,true)::l=>iS (some (x.1,x.1)) l
 |none,(_,false)::l=>iS none l
 |some p,(x,true)::l=>iS (some (p.1,x.1)) l
 |some p,(_,false)::l=>p::iS none l
def jf(S:List aP)(l:List Lb):List cJ:=match df S l with
 |none=>[]
 |some i=>(S.getD i cB).samples
def zo(S:List aP)(l:List Lb):Option Int:=(df S l).map fun i=>(S.getD i cB).last
def nD(a b:m9):mI:=
 let f:=if a.floor<b.floor then b.floor else 0
 ⟨f,a.ser.flatMap fun x=>(iS none (x.samples.map fun y=>(y,decide (f<=y.1)&& !decide (y∈jf b.ser x.labels)))).map fun p=>⟨1,x.labels,p.1,p.2,0⟩,
   b.ser.filterMap fun x=>
    let l:=x.samples.filter fun y=> !decide (y∈jf a.ser x.labels)
    if l≠[]\/zo a.ser x.labels≠some x.last then some ⟨x.labels,l,x.last⟩ else none⟩
def nJ(x y:Rc):Bool:=decide (x.kind=y.kind)&&(decide (x.t=y.t)&&(decide (x.u=y.u)&&(decide (x.v=y.v)&&kq x.labels y.labels)))
def rN:List Rc->List Rc->Bool
 |[],[]=>true
 |x::l,y::m=>nJ x y&&rN l m
 |_,_=>false
def CZ(a b:mI):Bool:=decide (a.floor=b.floor)&&(rN a.gone b.gone&&l9 a.ser b.ser)
end
section
open Go.RowKit
attribute [local go_sem] am aq
def iq {α:Type}(sz:Nat)(At:World->Nat->Nat->α->Prop)(w:World)(v:Value)(L:List α):Prop:=
 ∃a c,v=.slice a L.length c/\(a=none->c=0)/\L.length<=100000/\L.length<=c/\∀(i:Nat) x,L[i]?=some x->∃b o,a=some ⟨b,o,none⟩/\At w b (o+i*sz) x
section
variable {α:Type} {sz:Nat} {At:World->Nat->Nat->α->Prop} {w w':World} {v:Value} {L:List α}
theorem iq.below(hA:∀{w w':World} {b o:Nat} {x:α},At w b o x->Below w.heap.size w w'->At w' b o x)(h:iq sz At w v L)(hb:Below w.heap.size w w'):iq sz At w' v L:=by
 obtain⟨a,c,h1,h2,h3,h4,h5⟩:=h;refine⟨a,c,h1,h2,h3,h4,fun i x hx=>?_⟩;obtain⟨b,o,h7,h8⟩:=h5 i x hx;exact⟨b,o,h7,hA h8 hb⟩
theorem iq.len(h:iq sz At w v L):L.length<=100000:=by
 obtain⟨_,_,_,_,h3,_⟩:=h;exact h3
theorem iq.nil(w:World):iq sz At w (.slice none 0 0) []:=⟨none,0,rfl,fun _=>rfl,by simp,by simp,fun i x hx=>by simp at hx⟩
def aL{β:Type}(enc:β->List Value)(Z:List β):List Value:=Z.flatMap enc
theorem dR{β:Type}(enc:β->List Value)(A B:List β):aL enc (A++B)=aL enc A++aL enc B:=by unfold aL;rw[List.flatMap_append]
theorem gF{β:Type}(enc:β->List Value)(x:β):aL enc [x]=enc x:=by unfold aL;simp
theorem jx{β:Type}{enc:β->List Value}(he:∀z,(enc z).length=sz):∀Z:List β,(aL enc Z).length=Z.length*sz
 |[]=>by simp[aL]
 |z::Z=>by
  have ih:=jx he Z;unfold aL at ih⊢;rw[List.flatMap_cons,aG,he,ih,de,Nat.add_mul];omega
theorem jy{β:Type}{enc:β->List Value}(he:∀z,(enc z).length=sz):∀(Z:List β) (i:Nat) (z:β),Z[i]?=some z->∀j u,(enc z)[j]?=some u->(aL enc Z)[i*sz+j]?=some u
 |[],i,z,h,_,_,_=>by simp at h
 |y::Z,0,z,h,j,u,hj=>by
  obtain rfl:y=z:=by simpa using h
  unfold aL;rw[List.flatMap_cons,Nat.zero_mul,Nat.zero_add,List.getElem?_append_left,hj];exact(List.getElem?_eq_some_iff.1 hj).1
 |y::Z,i+1,z,h,j,u,hj=>by
  have ih:=jy he Z i z (by simpa using h) j u hj;unfold aL at*;have e:(i+1)*sz+j=(enc y).length+(i*sz+j):=by rw[he,Nat.add_mul];omega
  rw[List.flatMap_cons,e,List.getElem?_append_right (by omega),Nat.add_sub_cancel_left];exact ih
theorem dy(b o i:Nat):(⟨b,o,none⟩:Addr).add i=⟨b,o+i,none⟩:=by unfold Addr.add;split<;>simp_all
theorem sK{β:Type}{enc:β->List Value}{val:β->α}{B n:Nat}{T:TypeId}{Z:List β}(he:∀z,(enc z).length=sz)(h:w.ownsRow B T sz v n (aL enc Z))(hzn:Z.length=n)(hn:Z.length<=100000)
 (hl:∀z∈Z,∀b o,(∀j u,(enc z)[j]?=some u->w.cell? ⟨b,o+j,none⟩=some u)->At w b o (val z)):iq sz At w v (Z.map val):=by
 subst hzn
 have hcells:∀g,v.ownBlock=some g->∀j u,(aL enc Z)[j]?=some u->w.cell? ((⟨g,0,none⟩:Addr).add j)=some u:=fun g hg=>h.cells (g:=g) hg
 rcases h.2 with⟨e,e0⟩|⟨g,cap,cur,e,e1,e2,e3,_⟩
 ·refine⟨none,0,by rw[e,List.length_map,e0],fun _=>rfl,by rwa[List.length_map],by rw[List.length_map,e0];exact aF _,fun i x hx=>?_⟩;rw[List.length_eq_zero_iff.1 e0] at hx;simp at hx
 ·refine⟨some ⟨g,0,none⟩,cap,by rw[List.length_map];exact e,(fun e=>by cases e),by rwa[List.length_map],by rw[List.length_map];exact e3,fun i x hx=>?_⟩;rw[List.getElem?_map] at hx;cases hz:Z[i]? with
  |none=>rw[hz] at hx;cases hx
  |some z=>
   rw[hz] at hx;obtain rfl:val z=x:=by simpa using hx
   refine⟨g,0,rfl,hl z (List.mem_of_getElem? hz) g _ fun j u hj=>?_⟩;have:=hcells g (by rw[e];rfl) (i*sz+j) u (jy he Z i z hz j u hj);rw[dy] at this;rw[show 0+i*sz+j=0+(i*sz+j) by omega];exact this
end
def gD (x:cJ):List Value:=[.int .i64 x.1,.int .u64 (x.2:Int)]
def pn(w:World)(b o:Nat)(x:cJ):Prop:=ew x/\w.cell? ⟨b,o,none⟩=some (.int .i64 x.1)/\w.cell? ⟨b,o+1,none⟩=some (.int .u64 (x.2:Int))
theorem pn.below{w w':World}{b o:Nat}{x:cJ}(h:pn w b o x)(hb:Below w.heap.size w w'):pn w' b o x:=
 ⟨h.1,cu hb h.2.1,cu hb h.2.2⟩
def aI(w:World)(v:Value)(L:List cJ):Prop:=iq 2 pn w v L
theorem aI.below{w w':World}{v:Value}{L:List cJ}(h:aI w v L)(hb:Below w.heap.size w w'):aI w' v L:=iq.below pn.below h hb
theorem iy{w:World}{B n:Nat}{T:TypeId}{v:Value}{Z:List cJ}(h:w.ownsRow B T 2 v n (aL gD Z))(hzn:Z.length=n)(hn:Z.length<=100000)(hl:∀z∈Z,ew z):aI w v Z:=by
 have:=sK (sz:=2) (enc:=gD) (At:=pn) (val:=fun z=>z) (fun _=>rfl) h hzn hn fun z hz b o hc=>⟨hl z hz,by have:=hc 0 _ rfl;simpa using this,hc 1 _ rfl⟩
 rwa[List.map_id'] at this
def eT (z:aP×Value×Value):List Value:=[z.2.1,z.2.2,.int .i64 z.1.last]
def rr(w:World)(b o:Nat)(x:aP):Prop:=
 x.ok/\∃sl sv,w.cell? ⟨b,o,none⟩=some sl/\aC w sl x.labels/\w.cell? ⟨b,o+1,none⟩=some sv/\aI w sv x.samples/\w.cell? ⟨b,o+2,none⟩=some (.int .i64 x.last)
theorem rr.below{w w':World}{b o:Nat}{x:aP}(h:rr w b o x)(hb:Below w.heap.size w w'):rr w' b o x:=by
 obtain⟨h0,sl,sv,h1,h2,h3,h4,h5⟩:=h;exact⟨h0,sl,sv,cu hb h1,h2.below hb,cu hb h3,h4.below hb,cu hb h5⟩
def aM(w:World)(v:Value)(S:List aP):Prop:=iq 3 rr w v S
theorem aM.below{w w':World}{v:Value}{S:List aP}(h:aM w v S)(hb:Below w.heap.size w w'):aM w' v S:=iq.below rr.below h hb
theorem cX{w:World}{B n:Nat}{T:TypeId}{v:Value}{Z:List (aP×Value×Value)}(h:w.ownsRow B T 3 v n (aL eT Z))(hzn:Z.length=n)(hn:Z.length<=100000)
 (hl:∀z∈Z,z.1.ok/\aC w z.2.1 z.1.labels/\aI w z.2.2 z.1.samples):aM w v (Z.map fun z=>z.1):=
 sK (sz:=3) (enc:=eT) (At:=rr) (val:=fun z=>z.1) (fun _=>rfl) h hzn hn fun z hz b o hc=>by
  obtain⟨h1,h2,h3⟩:=hl z hz;exact⟨h1,z.2.1,z.2.2,by have:=hc 0 _ rfl;simpa using this,h2,hc 1 _ rfl,h3,hc 2 _ rfl⟩
end
section
open Go.RowKit
structure KF(P:Program)(t e:TypeId)(size bytes:Nat):Prop where
 und:P.underlying t=some (.slice e)
 info:∃i z,P.info? e=some i/\i.zero=some z/\i.size=size/\i.bytes=bytes/\z.cells.size=size
 pos:0<size
 few:bytes<=1000
theorem tU{P:Program}{e:TypeId}{size bytes:Nat}(z:Value)(h:(P.info? e).map (fun i=>(i.zero,i.size,i.bytes))=some (some z,size,bytes))(hz:z.cells.size=size):∃i z,P.info? e=some i/\i.zero=some z/\i.size=size/\i.bytes=bytes/\z.cells.size=size:=by
 obtain⟨i,h1,h2,h3,h4⟩:=info_parts h;exact⟨i,z,h1,h2,h3,h4,hz⟩
theorem lY{P:Program}{w:World}{ops:Array Oper}{rest:List Oper}{o:Oper}{a:Act}{Q:Exit->Act->World->Prop}{t e:TypeId}{size bytes:Nat}(E:KF P t e size bytes)(hgd:o.guard=none)(s x:Operand)
 (ho:o.op=.call {callee:=.builtin .append,args:=#[s,x],argTypes:=#[t,t]}) {base n c:Nat} {v:Value} {xs:List Value} (hs:a.eval s=v) (hown:w.ownsRow base e size v n xs) (cs:List Value) {b:Nat} (hb:w.heap.size=b) (hx:a.eval x=.slice (some ⟨b,0,none⟩) 1 c)
 (hl:cs.length=size) (h1:∀u∈cs,u.oneCell'=true) (hn:n<=1000000) (hbase:base<=w.heap.size)
 (h:∀sa sc w',w'.ownsRow base e size (.slice sa (n+1) sc) (n+1) (xs++cs)->ak w w' (fun k=>v.ownBlock=some k)->((Value.slice sa (n+1) sc).ownBlock=v.ownBlock\/∀k,(Value.slice sa (n+1) sc).ownBlock=some k->w.heap.size<=k)->wpList P ops Q rest (a.put o.dst (.slice sa (n+1) sc)) w'):
 wpList P ops Q (o::rest) a (w.alloc (.cells cs.toArray e)):=by
 subst hb
 obtain⟨i,z,hi,hz,hsz,hby,hzs⟩:=E.info
 refine wpList_append_own_at _ hgd s x t ho base e i z size bytes E.und hi hz hsz hby hzs E.pos v n xs hs (World.ownsRow.alloc hown _) ⟨w.heap.size,0,none⟩ 1 c cs hx (by omega) (ui w cs e) h1 (by unfold maxLen;omega) (aK (Nat.mul_le_mul (show n+1<=1000001 by omega) E.few) (by decide)) (by simp;omega) ?_
 intro v' w' h1' hg hnil hloc
 obtain⟨sa,sc,rfl⟩:=aH h1'
 refine h sa sc w' h1' ((ak.alloc w _ _).trans (ak.of_grown hg fun k e=>e)) (hloc.imp id fun e k hk=>?_)
 rw[e] at hk
 have:=aA hk
 simp at this
 omega
end
section
open Go.RowKit
attribute [local go_sem] am aq
theorem DW(x:En)(lv:Value)(w:World)(h:aC w lv x.labels):
 Calls Tryz.prog 173 #[JK lv x] w fun e w'=>e=.returned (.bool (dK x))/\Below w.heap.size w w':=by
 have HR:=af (show dK x=(decide (bz x.labels=0)&&decide (0<=x.last/\x.last<=1125899906842624/\0<=x.off/\x.off<=1073741824/\0<=x.len/\x.len<=1073741824)) from rfl)
 obtain⟨a,c,rfl,_⟩:=id h
 obtain⟨L,la,of,le⟩:=x
 simp only at HR h
 rw[show JK (.slice a L.length c) ⟨L,la,of,le⟩=.agg #[.slice a L.length c,.int .i64 la,.int .i64 of,.int .i64 le] from rfl]
 have b0:=ai w (.cells #[.slice a L.length c,.int .i64 la,.int .i64 of,.int .i64 le] 92)
 have k0:=ag.new w 92 #[.slice a L.length c,.int .i64 la,.int .i64 of,.int .i64 le]
 obtain⟨⟨c0,c1,c2,c3⟩,_⟩:=dw k0
 have q:=af (ji L _ _ (h.below b0))
 generalize dK ⟨L,la,of,le⟩=R at*
 generalize bz L=ce at*
 clear h
 go_enter Tryz.func173,Tryz.ntmps173
 go_wp2_with fail
 refine bP q.out fun w1 b1=>?_
 have k1:=ag.below k0 b1 k0.lt
 have B1:=ay b0 b1
 obtain⟨⟨d0,d1,d2,d3⟩,_⟩:=dw k1
 clear q k0 k1 c0 c1 c2 c3 b0 b1
 by_cases t0:ce=0
 ·have f0:(ce==0)=true:=by simpa using t0
  by_cases t1:0<=la
  ·have f1:decide (0<=la)=true:=by simpa using t1
   by_cases t2:la<=1125899906842624
   ·have f2:decide (la<=1125899906842624)=true:=by simpa using t2
    by_cases t3:0<=of
    ·have f3:decide (0<=of)=true:=by simpa using t3
     by_cases t4:of<=1073741824
     ·have f4:decide (of<=1073741824)=true:=by simpa using t4
      by_cases t5:0<=le
      ·have f5:decide (0<=le)=true:=by simpa using t5
       by_cases t6:le<=1073741824
       ·have f6:decide (le<=1073741824)=true:=by simpa using t6
        have HE:=af (show R=true by rw[HR.out];simp;omega);clear HR t0 t1 t2 t3 t4 t5 t6;go_wp2;go_ret;exact⟨by rw[HE.out];rfl,B1⟩
       ·have f6:decide (le<=1073741824)=false:=by simpa using t6
        have HE:=af (show R=false by rw[HR.out];simp;omega);clear HR t0 t1 t2 t3 t4 t5 t6;go_wp2;go_ret;exact⟨by rw[HE.out];rfl,B1⟩
      ·have f5:decide (0<=le)=false:=by simpa using t5
       have HE:=af (show R=false by rw[HR.out];simp;omega);clear HR t0 t1 t2 t3 t4 t5;go_wp2;go_ret;exact⟨by rw[HE.out];rfl,B1⟩
     ·have f4:decide (of<=1073741824)=false:=by simpa using t4
      have HE:=af (show R=false by rw[HR.out];simp;omega);clear HR t0 t1 t2 t3 t4;go_wp2;go_ret;exact⟨by rw[HE.out];rfl,B1⟩
    ·have f3:decide (0<=of)=false:=by simpa using t3
     have HE:=af (show R=false by rw[HR.out];simp;omega);clear HR t0 t1 t2 t3;go_wp2;go_ret;exact⟨by rw[HE.out];rfl,B1⟩
   ·have f2:decide (la<=1125899906842624)=false:=by simpa using t2
    have HE:=af (show R=false by rw[HR.out];simp;omega);clear HR t0 t1 t2;go_wp2;go_ret;exact⟨by rw[HE.out];rfl,B1⟩
  ·have f1:decide (0<=la)=false:=by simpa using t1
   have HE:=af (show R=false by rw[HR.out];simp;omega);clear HR t0 t1;go_wp2;go_ret;exact⟨by rw[HE.out];rfl,B1⟩
 ·have f0:(ce==0)=false:=by simpa using t0
  have HE:=af (show R=false by rw[HR.out];simp;omega);clear HR t0;go_wp2;go_ret;exact⟨by rw[HE.out];rfl,B1⟩
theorem Ew(x:En)(lv:Value)(g:Int)(p:Addr)(w:World)(h:aC w lv x.labels)(hg:w.cell? p=some (.int .i64 g))(h1: -9223372036854775808<=g)(h2:g<=9223372036854775807):
 Calls Tryz.prog 175 #[JK lv x,.pointer (some p)] w fun e w'=>e=.returned (.bool (decide (cw g<(aZ x.labels:Int))))/\Below w.heap.size w w':=by
 obtain⟨a,c,rfl,_⟩:=id h
 obtain⟨L,la,of,le⟩:=x
 simp only at h⊢
 rw[show JK (.slice a L.length c) ⟨L,la,of,le⟩=.agg #[.slice a L.length c,.int .i64 la,.int .i64 of,.int .i64 le] from rfl]
 have b0:=ai w (.cells #[.slice a L.length c,.int .i64 la,.int .i64 of,.int .i64 le] 92)
 have k0:=ag.new w 92 #[.slice a L.length c,.int .i64 la,.int .i64 of,.int .i64 le]
 obtain⟨⟨c0,_,_,_⟩,_⟩:=dw k0
 have cg:=cu b0 hg
 have hL:=h.below b0
 have q1:=af (fun W hW=>iN L _ W (hL.below hW))
 have q2:=af (fun W=>(mY g W h1 h2).mono fun e w' (h:e=.returned (.int .i64 (cw g))/\W=w')=>(⟨h.1,h.2▸bQ⟩:e=.returned (.int .i64 (cw g))/\bZ W w'))
 have x0:=aj c0
 have xg:=aj cg
 generalize aZ L=lm at*
 generalize cw g=lg at*
 clear h hL k0 c0 cg h1 h2
 go_enter Tryz.func175,Tryz.ntmps175
 go_wp2_with fail
 refine ed ?_
 iterate 2 (refine bH fun K hK=>?_;go_big_quiet_step (fail);refine hK _ ?_;clear hK K)
 (refine fP (f:=68) (args:=#[.slice a L.length c]) (v:=.int .i64 (lm:Int)) (fun W hW=>q1.out W hW) fun K hK=>?_;go_big_quiet_step (fail);refine hK _ ?_;clear hK K)
 (refine bH fun K hK=>?_;go_big_quiet_step (fail);refine hK _ ?_;clear hK K)
 (refine fP (f:=67) (args:=#[.int .i64 g]) (v:=.int .i64 lg) (fun W hW=>q2.out W) fun K hK=>?_;go_big_quiet_step (fail);refine hK _ ?_;clear hK K)
 iterate 2 (refine bH fun K hK=>?_;go_big_quiet_step (fail);refine hK _ ?_;clear hK K)
 refine eF ?_
 intro w2 hb2
 simp only[az]
 clear x0 xg q1 q2
 go_wp2_with fail
 go_ret
 exact⟨rfl,b0.trans (Below.mono hb2 b0.size)⟩
theorem GA{E:List En}{g:Int}{i:Nat}(h:i<E.length)(h2:decide (cw g<(aZ E[i].labels:Int))=true):ku E g=true:=List.any_eq_true.2 ⟨_,dM h,h2⟩
theorem Eu(E:List En)(v:Value)(g:Int)(p:Addr)(w:World)(h:dV w v E)(hg:w.cell? p=some (.int .i64 g))(h1: -9223372036854775808<=g)(h2:g<=9223372036854775807):
 Calls Tryz.prog 174 #[v,.func (.func 175) #[] #[.pointer (some p)]] w fun e w'=>e=.returned (.bool (ku E g))/\Below w.heap.size w w':=by
 have Q:Calls Tryz.prog 224 #[v,.func (.func 175) #[] #[.pointer (some p)]] w fun e w'=>∃k:Int,e=.returned (.int .i64 k)/\decide (0<=k)=ku E g/\Below w.heap.size w w':=by
  have H:=af h;have hfn:=af (fun (hn:∀i (hi:i<E.length),decide (cw g<(aZ E[i].labels:Int))=false)=>(show ku E g=false by
   unfold ku
   rw[List.any_eq_false]
   intro x hx
   obtain⟨i,hi,rfl⟩:=List.mem_iff_getElem.1 hx
   rw[hn i hi]
   simp))
  have hft:=af (fun i (hi:i<E.length) h2=>GA (E:=E) (g:=g) hi h2);have QL:=af (fun W (hW:Below w.heap.size w W) x lv hx=>Ew x lv g p W hx (cu hW hg) h1 h2);obtain⟨a,c,rfl,hnil,hl,hlc,hx⟩:=h;have HX:=af hx;clear hx;generalize ku E g=R at*;go_enter Tryz.func224,Tryz.ntmps224
  go_wp2_with fail
  go_loopw [8] (fun vi wr=>∃i:Nat,i<=E.length/\vi=.int .i64 (i:Int)/\Below w.heap.size w wr/\Hid (∀k (hk:k<E.length),k<i->decide (cw g<(aZ E[k].labels:Int))=false)) (fun vi _=>E.length-(intOf vi).toNat)
  case atStart=>exact⟨0,Nat.zero_le _,rfl,bQ,af fun k hk h=>by omega⟩
  obtain⟨i,hi,rfl,hb,HN⟩:=hrel;rcases(show i<E.length\/i=E.length by omega) with hil|rfl
  ·obtain⟨hok,b,o,rfl,a',c',d0,hL,d1,d2,d3⟩:=HX.out i E[i] (aW hil);have e0:=cu hb d0;have e1:=cu hb d1;have e2:=cu hb d2;have e3:=cu hb d3;have q:=af (QL.out wr hb E[i] _ (hL.below hb));rw[show JK (.slice a' E[i].labels.length c') E[i]=.agg #[.slice a' E[i].labels.length c',.int .i64 E[i].last,.int .i64 E[i].off,.int .i64 E[i].len] from rfl] at q;have HN2:=af (fun (h:decide (cw g<(aZ E[i].labels:Int))=false)=>(show ∀k (hk:k<E.length),k<i+1->decide (cw g<(aZ E[k].labels:Int))=false from fun k hk hki=>by
    rcases(show k<i\/k=i by omega) with h3|rfl
    ·exact HN.out k hk h3
    ·exact h))
   have HF:=af (hft.out i hil);clear d0 d1 d2 d3 hL hok HN;generalize decide (cw g<(aZ E[i].labels:Int))=bo at*;generalize E[i]=x at*;go_wp2_with fail
   refine bP q.out fun w2 hb2=>?_;cases bo with
   |true=>
    have HR:=af (HF.out rfl);clear HF HN2 q;go_wp2_with fail
    go_ret;exact⟨(i:Int),rfl,by rw[HR.out];simp,ay hb hb2⟩
   |false=>
    have HN3:=af (HN2.out rfl);clear HF HN2 q;go_wp2_with fail
    go_roundw
    case rel=>exact⟨i+1,by omega,by go_num,ay hb hb2,HN3⟩
    case measure=>simp[intOf];omega
  ·have HR:=af (hfn.out fun k hk=>HN.out k hk hk);clear HN;go_wp2_with fail
   go_ret;exact⟨-1,rfl,by rw[HR.out];rfl,hb⟩
 have Q:=af Q
 generalize ku E g=R at*
 clear h hg
 go_enter Tryz.func174,Tryz.ntmps174
 go_wp2_with fail
 refine Q.out.mono ?_
 rintro e w2 ⟨k,rfl,hk,hb2⟩
 have HK:=af hk
 clear hk Q
 go_wp2_with fail
 go_ret
 exact⟨by rw[<-HK.out];rfl,hb2⟩
def mh(E:List En)(j:Nat):Option (List Lb):=if j=0 then none else some (E.getD (j-1) aR).labels
theorem sY{E:List En}{j:Nat}(h:j<E.length):mh E (j+1)=some E[j].labels:=by
 unfold mh;rw[if_neg (by omega),Nat.add_sub_cancel,List.getD_eq_getElem?_getD,aW h];rfl
theorem EM(p:Option (List Lb))(x:En)(l:List En):cR p (x::l)=((dK x&&(match p with|none=>true|some q=>dY q x.labels))&&cR (some x.labels) l):=rfl
theorem EL{E:List En}{j:Nat}(h:j<E.length):cR (mh E j) (E.drop j)=((dK E[j]&&(match mh E j with|none=>true|some q=>dY q E[j].labels))&&cR (mh E (j+1)) (E.drop (j+1))):=by
 rw[List.drop_eq_getElem_cons h,EM,sY h]
theorem DG{E:List En}{g:Int}(h:g<1\/3<g\/20<E.length):du E g=1:=by unfold du;rw[if_pos h]
theorem FG{E:List En}{g:Int}(h:¬(g<1\/3<g\/20<E.length)):du E g=if cR none E=false then 1 else if ku E g then 3 else 0:=by unfold du;rw[if_neg h]
theorem CG(E:List En)(v:Value)(g:Int)(w:World)(h:dV w v E)(h1: -9223372036854775808<=g)(h2:g<=9223372036854775807):
 Calls Tryz.prog 110 #[v,.int .i64 g] w fun e w'=>e=.returned (.int .i64 (du E g))/\Below w.heap.size w w':=by
 obtain⟨a,c,rfl,hnil,hl,hlc,hx⟩:=id h
 have hout:=af (DG (E:=E) (g:=g))
 have hin:=af (FG (E:=E) (g:=g))
 have b0:=ai w (.cells #[.int .i64 g] 3)
 have cg:(w.alloc (.cells #[.int .i64 g] 3)).cell? ⟨w.heap.size,0,none⟩=some (.int .i64 g):=(World.cell?_alloc_new _ _ _ _).trans rfl
 by_cases g1:g<1
 ·have f1:decide (g<1)=true:=by simpa using g1
  have HY:=af (hout.out (.inl g1));clear hx hin hout;generalize du E g=R at*;go_enter Tryz.func110,Tryz.ntmps110
  go_wp2_with fail
  go_ret;exact⟨by rw[HY.out];rfl,b0⟩
 have f1:decide (g<1)=false:=by simpa using g1
 by_cases g2:3<g
 ·have f2:decide (3<g)=true:=by simpa using g2
  have HY:=af (hout.out (.inr (.inl g2)));clear hx hin hout;generalize du E g=R at*;go_enter Tryz.func110,Tryz.ntmps110
  go_wp2_with fail
  go_ret;exact⟨by rw[HY.out];rfl,b0⟩
 have f2:decide (3<g)=false:=by simpa using g2
 by_cases g3:20<E.length
 ·have f3:decide (20<E.length)=true:=by simpa using g3
  have f3':decide ((20:Int)<(E.length:Int))=true:=by simp;omega
  have HY:=af (hout.out (.inr (.inr g3)));clear hx hin hout;generalize du E g=R at*;go_enter Tryz.func110,Tryz.ntmps110
  go_wp2_with fail
  go_ret;exact⟨by rw[HY.out];rfl,b0⟩
 have f3:decide (20<E.length)=false:=by simpa using g3
 have f3':decide ((20:Int)<(E.length:Int))=false:=by simp;omega
 have HI:=af (hin.out (by omega))
 have HX:=af hx
 have QF:=af (fun W (hW:Below w.heap.size w W) (hc:W.cell? ⟨w.heap.size,0,none⟩=some (.int .i64 g))=>Eu E _ g ⟨w.heap.size,0,none⟩ W (h.below hW) hc h1 h2)
 clear hx hin hout g1 g2 g3
 generalize du E g=R at*
 generalize ku E g=lo at*
 have HG0:=af (show cR none E=cR (mh E 0) (E.drop 0) from rfl)
 generalize cR none E=G at*
 go_enter Tryz.func110,Tryz.ntmps110
 go_wp2_with fail
 go_loopw [20] (fun vi wr=>∃i:Nat,i<=E.length/\vi=.int .i64 (i:Int)/\Below w.heap.size w wr/\wr.cell? ⟨w.heap.size,0,none⟩=some (.int .i64 g)/\Hid (G=cR (mh E i) (E.drop i))) (fun vi _=>E.length-(intOf vi).toNat)
 case atStart=>exact⟨0,Nat.zero_le _,rfl,b0,cg,HG0⟩
 clear b0 cg HG0
 obtain⟨i,hi,rfl,hb,cg,HG⟩:=hrel
 rcases(show i<E.length\/i=E.length by omega) with hil|rfl
 ·obtain⟨hok,b,o,rfl,a',c',d0,hL,d1,d2,d3⟩:=HX.out i E[i] (aW hil);have e0:=cu hb d0;have e1:=cu hb d1;have e2:=cu hb d2;have e3:=cu hb d3;have HG2:=af (HG.out.trans (EL hil));have hL':=hL.below hb;have HP:mh E i=if i=0 then none else some (E.getD (i-1) aR).labels:=rfl
  have bA:=ai wr (.cells #[.slice a' E[i].labels.length c',.int .i64 E[i].last,.int .i64 E[i].off,.int .i64 E[i].len] 92);have kA:=ag.new wr 92 #[.slice a' E[i].labels.length c',.int .i64 E[i].last,.int .i64 E[i].off,.int .i64 E[i].len];obtain⟨⟨y0,y1,y2,y3⟩,_⟩:=dw kA;have cgA:=cu bA cg;have qr:=af (fun W (hW:Below (wr.alloc (.cells #[.slice a' E[i].labels.length c',.int .i64 E[i].last,.int .i64 E[i].off,.int .i64 E[i].len] 92)).heap.size (wr.alloc (.cells #[.slice a' E[i].labels.length c',.int .i64 E[i].last,.int .i64 E[i].off,.int .i64 E[i].len] 92)) W)=>DW E[i] (.slice a' E[i].labels.length c') W ((hL'.below bA).below hW));rw[show JK (.slice a' E[i].labels.length c') E[i]=.agg #[.slice a' E[i].labels.length c',.int .i64 E[i].last,.int .i64 E[i].off,.int .i64 E[i].len] from rfl] at qr;have z0:=aj y0;have z1:=aj y1;have z2:=aj y2;have z3:=aj y3;have BA:=af (ay hb bA);have HGN:=af (sY hil);cases hri:dK E[i] with
  |false=>
   rw[hri] at HG2 qr;have HE:=af (show R=1 by rw[HI.out,show G=false from HG2.out];rfl);clear HI HG HG2 hri HP QF HX hok hL hL' d0 d1 d2 d3;go_wp2_with fail
   refine ed ?_
   (refine bH fun K hK=>?_;go_big_quiet_step (fail);refine hK _ ?_;clear hK K)
   (refine fP (f:=173) (args:=#[.agg #[.slice a' E[i].labels.length c',.int .i64 E[i].last,.int .i64 E[i].off,.int .i64 E[i].len]]) (v:=.bool false) (fun W hW=>qr.out W hW) fun K hK=>?_;go_big_quiet_step (fail);refine hK _ ?_;clear hK K);iterate 13 (refine bH fun K hK=>?_;go_big_quiet_step (fail);refine hK _ ?_;clear hK K)
   (refine Bo fun K hK=>?_;go_big_quiet_step (fail);refine hK _ ?_;clear hK K);iterate 3 (refine bH fun K hK=>?_;go_big_quiet_step (fail);refine hK _ ?_;clear hK K)
   refine eF ?_;intro w2 hb2;simp only[az];go_wp2_with fail
   go_ret;exact⟨by rw[HE.out];rfl,BA.out.trans (Below.mono hb2 BA.out.size)⟩
  |true=>
   rw[hri] at HG2 qr;by_cases hi0:i=0
   ·subst hi0;rw[Nat.zero_mul,Nat.add_zero] at e0 e1 e2 e3;have HG3:=af (show G=cR (mh E (0+1)) (E.drop (0+1)) from HG2.out);clear HG HG2 hri HP hok hL hL' d0 d1 d2 d3;go_wp2_with fail
    refine ed ?_
    (refine bH fun K hK=>?_;go_big_quiet_step (fail);refine hK _ ?_;clear hK K)
    (refine fP (f:=173) (args:=#[.agg #[.slice a' E[0].labels.length c',.int .i64 E[0].last,.int .i64 E[0].off,.int .i64 E[0].len]]) (v:=.bool true) (fun W hW=>qr.out W hW) fun K hK=>?_;go_big_quiet_step (fail);refine hK _ ?_;clear hK K);iterate 13 (refine bH fun K hK=>?_;go_big_quiet_step (fail);refine hK _ ?_;clear hK K)
    (refine Bo fun K hK=>?_;go_big_quiet_step (fail);refine hK _ ?_;clear hK K);iterate 3 (refine bH fun K hK=>?_;go_big_quiet_step (fail);refine hK _ ?_;clear hK K)
    refine eF ?_;intro w2 hb2;simp only[az];have cg2:=(Below.cell (show Below _ _ w2 from hb2) (World.block_lt_of_cell? _ _ cgA)).trans cgA;go_wp2_with fail
    go_roundw
    case rel=>exact⟨0+1,by omega,by go_num,BA.out.trans (Below.mono hb2 BA.out.size),cg2,HG3⟩
    case measure=>simp[intOf];omega
   ·obtain⟨hok',b',o',eb,a3,c3,g0,hM,_,_,_⟩:=HX.out (i-1) E[i-1] (aW (by omega));obtain⟨rfl,rfl,_⟩:=Addr.mk.inj (aA eb);have hM':=hM.below hb;have j0:=cu hb g0;have jA:=cu bA j0;rw[HP,if_neg hi0,List.getD_eq_getElem?_getD,aW (show i-1<E.length by omega)] at HG2;have HG4:=af (show G=(dY E[i-1].labels E[i].labels&&cR (mh E (i+1)) (E.drop (i+1))) from HG2.out);have ql:=af (fun W (hW:Below (wr.alloc (.cells #[.slice a' E[i].labels.length c',.int .i64 E[i].last,.int .i64 E[i].off,.int .i64 E[i].len] 92)).heap.size (wr.alloc (.cells #[.slice a' E[i].labels.length c',.int .i64 E[i].last,.int .i64 E[i].off,.int .i64 E[i].len] 92)) W)=>kK E[i-1].labels E[i].labels _ _ W ((hM'.below bA).below hW) ((hL'.below bA).below hW));have u0:=aj jA;have f4:decide (0<i)=true:=by simp;omega
    have f5:decide ((0:Int)<(i:Int))=true:=by simp;omega
    have hw1:IntKind.i64.wrap ((i:Int)-1)=(i:Int)-1:=ct _ (by omega);have hi1:(i:Int)-1=((i-1:Nat):Int):=by omega
    cases hle:dY E[i-1].labels E[i].labels with
    |false=>
     rw[hle] at HG4 ql;have HE:=af (show R=1 by rw[HI.out,show G=false from HG4.out];rfl);clear HI HG HG2 HG4 hri HP QF HX hok hL hL' d0 d1 d2 d3 hok' hM hM' hle g0 j0 jA;go_wp2_with fail
     refine ed ?_
     (refine bH fun K hK=>?_;go_big_quiet_step (fail);refine hK _ ?_;clear hK K)
     (refine fP (f:=173) (args:=#[.agg #[.slice a' E[i].labels.length c',.int .i64 E[i].last,.int .i64 E[i].off,.int .i64 E[i].len]]) (v:=.bool true) (fun W hW=>qr.out W hW) fun K hK=>?_;go_big_quiet_step (fail);refine hK _ ?_;clear hK K);iterate 13 (refine bH fun K hK=>?_;go_big_quiet_step (fail);refine hK _ ?_;clear hK K)
     (refine fP (f:=66) (args:=#[.slice a3 E[i-1].labels.length c3,.slice a' E[i].labels.length c']) (v:=.bool false) (fun W hW=>ql.out W hW) fun K hK=>?_;go_big_quiet_step (fail);refine hK _ ?_;clear hK K);iterate 3 (refine bH fun K hK=>?_;go_big_quiet_step (fail);refine hK _ ?_;clear hK K)
     refine eF ?_;intro w2 hb2;simp only[az];go_wp2_with fail
     go_ret;exact⟨by rw[HE.out];rfl,BA.out.trans (Below.mono hb2 BA.out.size)⟩
    |true=>
     rw[hle] at HG4 ql;have HG3:=af (show G=cR (mh E (i+1)) (E.drop (i+1)) from HG4.out);clear HG HG2 HG4 hri HP hok hL hL' d0 d1 d2 d3 hok' hM hM' hle g0 j0 jA;go_wp2_with fail
     refine ed ?_
     (refine bH fun K hK=>?_;go_big_quiet_step (fail);refine hK _ ?_;clear hK K)
     (refine fP (f:=173) (args:=#[.agg #[.slice a' E[i].labels.length c',.int .i64 E[i].last,.int .i64 E[i].off,.int .i64 E[i].len]]) (v:=.bool true) (fun W hW=>qr.out W hW) fun K hK=>?_;go_big_quiet_step (fail);refine hK _ ?_;clear hK K);iterate 13 (refine bH fun K hK=>?_;go_big_quiet_step (fail);refine hK _ ?_;clear hK K)
     (refine fP (f:=66) (args:=#[.slice a3 E[i-1].labels.length c3,.slice a' E[i].labels.length c']) (v:=.bool true) (fun W hW=>ql.out W hW) fun K hK=>?_;go_big_quiet_step (fail);refine hK _ ?_;clear hK K);iterate 3 (refine bH fun K hK=>?_;go_big_quiet_step (fail);refine hK _ ?_;clear hK K)
     refine eF ?_;intro w2 hb2;simp only[az];have cg2:=(Below.cell (show Below _ _ w2 from hb2) (World.block_lt_of_cell? _ _ cgA)).trans cgA;go_wp2_with fail
     go_roundw
     case rel=>exact⟨i+1,by omega,by go_num,BA.out.trans (Below.mono hb2 BA.out.size),cg2,HG3⟩
     case measure=>simp[intOf];omega
 ·have HGt:=af (show G=true by rw[HG.out,List.drop_length];rfl);have q:=af (QF.out wr hb cg);have HI2:=af (show R=if lo then 3 else 0 by rw[HI.out,HGt.out];rfl);clear QF HI HG HGt;go_wp2_with fail
  refine bP q.out fun w2 hb2=>?_;cases lo with
  |true=>
   have HE:=af (show R=3 from HI2.out);clear HI2 q;go_wp2_with fail
   go_ret;exact⟨by rw[HE.out];rfl,ay hb hb2⟩
  |false=>
   have HE:=af (show R=0 from HI2.out);clear HI2 q;go_wp2_with fail
   go_ret;exact⟨by rw[HE.out];rfl,ay hb hb2⟩
end
end Go.Proofs.YtcdgfajdlaeodaaGreatDoor
namespace Go.Proofs
open Go.Shelf
def Tryz.lays106_ren:Go.Shelf.Ren:=⟨fun|106=>232|213=>278|265=>323|n=>n,fun|9=>9|3=>3|n=>n,fun|n=>n⟩
theorem Tryz.lays106:Go.Proofs.Lays.n106 Tryz.prog Tryz.lays106_ren:={
 mixed:=by kernel_rfl
 f106:=Tryz.func232.trans (congrArg some (by kernel_rfl))
 f213:=Tryz.func278.trans (congrArg some (by kernel_rfl))
 f265:=Tryz.func323.trans (congrArg some (by kernel_rfl))
 t3:=Tryz.underlying3
 a3:=Tryz.isAgg3
 z3:=Tryz.sizeOf3
 v3:=Tryz.zeroValue3
 t9:=Tryz.underlying9
 a9:=Tryz.isAgg9
 z9:=Tryz.sizeOf9
 v9:=Tryz.zeroValue9}
open Go.RowKit in
theorem Tryz.strings_Compare(a b:ByteArray)(w:World):
 Calls Tryz.prog 232 #[.string a,.string b] w fun e w'=>e=.returned (.int .i64 (Lib.compareBytes a.data.toList b.data.toList))/\w'=w:=Any.strings_Compare Tryz.lays106 a b w
def Tryz.lays190_ren:Go.Shelf.Ren:=⟨fun|190=>227|125=>276|258=>275|128=>313|129=>314|302=>304|303=>305|304=>306|305=>307|306=>308|307=>309|308=>310|309=>311|310=>312|333=>340|329=>341|330=>342|334=>343|335=>344|336=>345|344=>360|n=>n,fun|31=>76|9=>9|3=>3|46=>161|0=>0|51=>247|53=>67|4=>4|183=>376|182=>375|131=>298|5=>5|218=>412|222=>415|228=>428|229=>429|n=>n,fun|n=>n⟩
theorem Tryz.lays190:Go.Proofs.Lays.n190 Tryz.prog Tryz.lays190_ren:={
 mixed:=by kernel_rfl
 f125:=Tryz.func276.trans (congrArg some (by kernel_rfl))
 f128:=Tryz.func313.trans (congrArg some (by kernel_rfl))
 f129:=Tryz.func314.trans (congrArg some (by kernel_rfl))
 f190:=Tryz.func227.trans (congrArg some (by kernel_rfl))
 f258:=Tryz.func275.trans (congrArg some (by kernel_rfl))
 f302:=Tryz.func304.trans (congrArg some (by kernel_rfl))
 f303:=Tryz.func305.trans (congrArg some (by kernel_rfl))
 f304:=Tryz.func306.trans (congrArg some (by kernel_rfl))
 f305:=Tryz.func307.trans (congrArg some (by kernel_rfl))
 f306:=Tryz.func308.trans (congrArg some (by kernel_rfl))
 f307:=Tryz.func309.trans (congrArg some (by kernel_rfl))
 f308:=Tryz.func310.trans (congrArg some (by kernel_rfl))
 f309:=Tryz.func311.trans (congrArg some (by kernel_rfl))
 f310:=Tryz.func312.trans (congrArg some (by kernel_rfl))
 f329:=Tryz.func341.trans (congrArg some (by kernel_rfl))
 f330:=Tryz.func342.trans (congrArg some (by kernel_rfl))
 f333:=Tryz.func340.trans (congrArg some (by kernel_rfl))
 f334:=Tryz.func343.trans (congrArg some (by kernel_rfl))
 f335:=Tryz.func344.trans (congrArg some (by kernel_rfl))
 f336:=Tryz.func345.trans (congrArg some (by kernel_rfl))
 f344:=Tryz.func360.trans (congrArg some (by kernel_rfl))
 t0:=Tryz.underlying0
 a0:=Tryz.isAgg0
 z0:=Tryz.sizeOf0
 v0:=Tryz.zeroValue0
 t3:=Tryz.underlying3
 a3:=Tryz.isAgg3
 z3:=Tryz.sizeOf3
 v3:=Tryz.zeroValue3
 t4:=Tryz.underlying4
 a4:=Tryz.isAgg4
 z4:=Tryz.sizeOf4
 v4:=Tryz.zeroValue4
 t5:=Tryz.underlying5
 a5:=Tryz.isAgg5
 z5:=Tryz.sizeOf5
 v5:=Tryz.zeroValue5
 t9:=Tryz.underlying9
 a9:=Tryz.isAgg9
 z9:=Tryz.sizeOf9
 v9:=Tryz.zeroValue9
 t31:=Tryz.underlying76
 a31:=Tryz.isAgg76
 z31:=Tryz.sizeOf76
 v31:=Tryz.zeroValue76
 t46:=Tryz.underlying161
 a46:=Tryz.isAgg161
 z46:=Tryz.sizeOf161
 v46:=Tryz.zeroValue161
 t51:=Tryz.underlying247
 a51:=Tryz.isAgg247
 z51:=Tryz.sizeOf247
 v51:=Tryz.zeroValue247
 t53:=Tryz.underlying67
 a53:=Tryz.isAgg67
 z53:=Tryz.sizeOf67
 v53:=Tryz.zeroValue67
 t131:=Tryz.underlying298
 a131:=Tryz.isAgg298
 z131:=Tryz.sizeOf298
 v131:=Tryz.zeroValue298
 t182:=Tryz.underlying375
 a182:=Tryz.isAgg375
 z182:=Tryz.sizeOf375
 v182:=Tryz.zeroValue375
 t183:=Tryz.underlying376
 a183:=Tryz.isAgg376
 z183:=Tryz.sizeOf376
 v183:=Tryz.zeroValue376
 t218:=Tryz.underlying412
 a218:=Tryz.isAgg412
 z218:=Tryz.sizeOf412
 v218:=Tryz.zeroValue412
 t222:=Tryz.underlying415
 a222:=Tryz.isAgg415
 z222:=Tryz.sizeOf415
 v222:=Tryz.zeroValue415
 t228:=Tryz.underlying428
 a228:=Tryz.isAgg428
 z228:=Tryz.sizeOf428
 v228:=Tryz.zeroValue428
 t229:=Tryz.underlying429
 a229:=Tryz.isAgg429
 z229:=Tryz.sizeOf429
 v229:=Tryz.zeroValue429}
open Go.Sort Go.RowKit in
theorem Tryz.slices_Sort_string(blk off cap:Nat)(ss:List (List UInt8))(w:World)(hH:Holds encStr w blk off ss.toArray)(hblk:blk<w.heap.size)(hsz:ss.length<4611686018427387904):
 Calls Tryz.prog 227 #[.slice (some ⟨blk,off,none⟩) ss.length cap] w fun e w'=>
  e=.returned (.tuple #[])/\∃n os,w'=grow (putRow encStr (Sort.ahead w n) blk off (ss.mergeSort fun x y=>decide (x<=y)).toArray) os:=Any.slices_Sort_string Tryz.lays190 blk off cap ss w hH hblk hsz
def Tryz.lays99_ren:Go.Shelf.Ren:=⟨fun|99=>260|206=>290|n=>n,fun|9=>9|4=>4|3=>3|n=>n,fun|n=>n⟩
theorem Tryz.lays99:Go.Proofs.Lays.n99 Tryz.prog Tryz.lays99_ren:={
 mixed:=by kernel_rfl
 f99:=Tryz.func260.trans (congrArg some (by kernel_rfl))
 f206:=Tryz.func290.trans (congrArg some (by kernel_rfl))
 t3:=Tryz.underlying3
 a3:=Tryz.isAgg3
 z3:=Tryz.sizeOf3
 v3:=Tryz.zeroValue3
 t4:=Tryz.underlying4
 a4:=Tryz.isAgg4
 z4:=Tryz.sizeOf4
 v4:=Tryz.zeroValue4
 t9:=Tryz.underlying9
 a9:=Tryz.isAgg9
 z9:=Tryz.sizeOf9
 v9:=Tryz.zeroValue9}
open Go.RowKit Go.Lib in
theorem Tryz.strings_HasPrefix(s p:ByteArray)(w:World):
 Calls Tryz.prog 260 #[.string s,.string p] w fun e w'=>e=.returned (.bool (Lib.hasPrefix s.data.toList p.data.toList))/\w'=w:=Any.strings_HasPrefix Tryz.lays99 s p w
def Tryz.lays194_ren:Go.Shelf.Ren:=⟨fun|194=>228|n=>n,fun|31=>76|9=>9|3=>3|4=>4|0=>0|n=>n,fun|n=>n⟩
theorem Tryz.lays194:Go.Proofs.Lays.n194 Tryz.prog Tryz.lays194_ren:={
 mixed:=by kernel_rfl
 f194:=Tryz.func228.trans (congrArg some (by kernel_rfl))
 t0:=Tryz.underlying0
 a0:=Tryz.isAgg0
 z0:=Tryz.sizeOf0
 v0:=Tryz.zeroValue0
 t3:=Tryz.underlying3
 a3:=Tryz.isAgg3
 z3:=Tryz.sizeOf3
 v3:=Tryz.zeroValue3
 t4:=Tryz.underlying4
 a4:=Tryz.isAgg4
 z4:=Tryz.sizeOf4
 v4:=Tryz.zeroValue4
 t9:=Tryz.underlying9
 a9:=Tryz.isAgg9
 z9:=Tryz.sizeOf9
 v9:=Tryz.zeroValue9
 t31:=Tryz.underlying76
 a31:=Tryz.isAgg76
 z31:=Tryz.sizeOf76
 v31:=Tryz.zeroValue76}
open Go.RowKit Go.Lib Go.Sort in
theorem Tryz.slices_Compact_string(blk off cap:Nat)(zs:List (List UInt8))(w:World)(hH:Holds encStr w blk off zs.toArray)(hsz:zs.length<=9223372036854775807)(hcap:zs.length<=cap):
 Calls Tryz.prog 228 #[.slice (some ⟨blk,off,none⟩) zs.length cap] w fun e w'=>e=.returned (.slice (some ⟨blk,off,none⟩) (Lib.compact zs).length cap)/\∃q,w'=putRow encStr (Sort.ahead w q) blk off (Lib.compact zs++List.replicate (zs.length-(Lib.compact zs).length) []).toArray:=Any.slices_Compact_string Tryz.lays194 blk off cap zs w hH hsz hcap
open Go.RowKit Go.Lib Go.Sort in
theorem Tryz.slices_Compact_string_empty(a:Option Addr)(cap:Nat)(w:World):
 Calls Tryz.prog 228 #[.slice a 0 cap] w fun e w'=>e=.returned (.slice a 0 cap)/\w'=w:=Any.slices_Compact_string_empty Tryz.lays194 a cap w
open Go.RowKit Go.Sort in
theorem Tryz.slices_Sort_string_none(p:Option Addr)(cap:Nat)(w:World):
 Calls Tryz.prog 227 #[.slice p 0 cap] w fun e w'=>e=.returned (.tuple #[])/\w'=w:=Any.slices_Sort_string_none Tryz.lays190 p cap w
end Go.Proofs
namespace Go.Proofs.YtcdgfajdlaeodaaGreatDoor
section
open Go.RowKit Go.Maps Go.WideMaps
attribute [local go_sem] am aq
def eX(x:Lb):List Value:=[.string (bs x.1),.string (bs x.2)]
def jL(l:List Nat):List Int:=l.map fun (i:Nat)=>(i:Int)
theorem jg(l:List Nat):(jL l).length=l.length:=by unfold jL;simp
end
end Go.Proofs.YtcdgfajdlaeodaaGreatDoor
