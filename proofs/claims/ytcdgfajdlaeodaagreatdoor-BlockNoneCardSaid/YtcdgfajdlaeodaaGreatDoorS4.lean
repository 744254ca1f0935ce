/- Part 4 of the proof: contracts of functions, and plain laws. -/
import Derived.Test.YtcdgfajdlaeodaaGreatDoorS3
import Derived.Laws.AppendOwnNone
import Derived.Lib.OwnBridge
import Derived.Deep.Slices
import Derived.OpenShut
import Derived.Lib.TrailingZeros
import Derived.Lib.ItoaNum
import Derived.Shelf.Sort.Plain
import Derived.Shelf.Slices.In.SortNone
import Derived.Shelf.SlicesE.Kit
set_option maxRecDepth 100000
set_option maxHeartbeats 4000000
namespace Go.Proofs.YtcdgfajdlaeodaaGreatDoor
section
open Go.RowKit
attribute [local go_sem] am aq
def GN:Nat->List UInt8->Option (List Lb)
 |k,s=>if s=[] then some [] else match k with
  |0=>none
  |k+1=>match Num.getText s 48 with
   |none=>none
   |some (a,i)=>match Num.getText (s.drop i) 48 with
    |none=>none
    |some (b,j)=>(GN k ((s.drop i).drop j)).map ((a,b)::·)
def Lx (key:List UInt8):Option (List Lb):=match GN key.length key with
 |none=>none
 |some L=>if bD L=0 then some L else none
def aQ(L:List Lb):List Value:=L.flatMap fun x=>[.string (bs x.1),.string (bs x.2)]
theorem ef(L:List Lb):(aQ L).length=L.length*2:=by
 induction L with
 |nil=>rfl
 |cons x l ih=>unfold aQ at*;simp only[List.flatMap_cons,aG,cY,List.length_nil,ih];omega
theorem nO:∀(L:List Lb) (i:Nat) x,L[i]?=some x->(aQ L)[i*2]?=some (.string (bs x.1))/\(aQ L)[i*2+1]?=some (.string (bs x.2))
 |[],i,x,h=>by simp at h
 |y::l,0,x,h=>by
  obtain rfl:y=x:=by simpa using h
  exact⟨rfl,rfl⟩
 |y::l,i+1,x,h=>by
  have ih:=nO l i x (by simpa using h);have e:aQ (y::l)=.string (bs y.1)::.string (bs y.2)::aQ l:=rfl;rw[e,show (i+1)*2=i*2+1+1 by omega];exact ih
theorem eY(g j:Nat):(⟨g,0,none⟩:Addr).add j=⟨g,j,none⟩:=by unfold Addr.add;split<;>simp_all
theorem uA(w:World)(xs:List Value)(t:TypeId):∀j u,xs[j]?=some u->(w.alloc (.cells xs.toArray t)).cell? ((⟨w.heap.size,0,none⟩:Addr).add j)=some u:=fun j u h=>by
 rw[eY,World.cell?_alloc_new];simpa using h
theorem Cb{w:World}{B:Nat}{v:Value}{L:List Lb}(h:w.ownsRow B 73 2 v L.length (aQ L))(hn:L.length<=1048576)(hl:∀x∈L,x.1.length<=1048576/\x.2.length<=1048576):aC w v L:=by
 have hcells:∀g,v.ownBlock=some g->∀j u,(aQ L)[j]?=some u->w.cell? ((⟨g,0,none⟩:Addr).add j)=some u:=fun g hg=>h.cells (g:=g) hg;rcases h.2 with⟨e,e0⟩|⟨g,cap,cur,e,e1,e2,e3⟩
 ·refine⟨none,0,by rw[e,e0],hn,fun i x hx=>?_⟩;rw[List.length_eq_zero_iff.1 e0] at hx;simp at hx
 ·refine⟨some ⟨g,0,none⟩,cap,e,hn,fun i x hx=>?_⟩;obtain⟨h1,h2⟩:=hl x (List.mem_of_getElem? hx);obtain⟨h3,h4⟩:=nO L i x hx;refine⟨h1,h2,g,0,rfl,?_,?_⟩
  ·have:=hcells g (by rw[e];rfl) _ _ h3;rw[eY] at this;rw[Nat.zero_add];exact this
  ·have:=hcells g (by rw[e];rfl) _ _ h4;rw[eY] at this;rw[Nat.zero_add];exact this
def tT (c:List UInt8×Bool)(n:Int):List UInt8:=if c.2 then[] else gR (Num.getText c.1 n)
def nT (c:List UInt8×Bool)(n:Int):List UInt8×Bool:=Num.nxt c (Num.getText c.1 n)
theorem Cj(l:List UInt8)(m:Int)(t:List UInt8)(k:Nat)(h:Num.getText l m=some (t,k)):(t.length:Int)<=m/\1+t.length<=k/\k<=l.length:=by
 unfold Num.getText at h;cases hs:Num.getSmall l with
 |none=>rw[hs] at h;cases h
 |some x=>
  obtain⟨n,i⟩:=x;obtain⟨_,b1,b2,b3⟩:=mw l n i hs;rw[hs] at h;simp only at h;split at h
  ·cases h
  ·rename_i hc;obtain⟨rfl,rfl⟩:=Prod.mk.inj (az h);rw[dp,List.length_drop];omega
def cT(w:World)(v:Value)(L:List Lb):Prop:=aC w v L/\∀b,v.ownBlock=some b->ng w b=some (some 73)
theorem Gd{w w':World}{S:Nat->Prop}{b:Nat}{x:Option TypeId}(h:ng w b=some x)(hk:ak w w' S)(hS:¬S b):ng w' b=some x:=by
 have hlt:=Kv h;unfold ng at*;rw[hk.block b hlt hS];exact h
theorem cT.kept{w w':World}{S:Nat->Prop}{v:Value}{L:List Lb}(h:cT w v L)(hk:ak w w' S)(hS:∀b,ng w b=some (some 73)->¬S b):cT w' v L:=by
 obtain⟨⟨a,c,rfl,h2,h3⟩,h4⟩:=h;refine⟨⟨a,c,rfl,h2,fun i x hx=>?_⟩,fun b hb=>Gd (h4 b hb) hk (hS b (h4 b hb))⟩;obtain⟨h5,h6,b,o,rfl,h7,h8⟩:=h3 i x hx;have hb:=hS b (h4 b rfl);exact⟨h5,h6,b,o,rfl,hk.cell h7 hb,hk.cell h8 hb⟩
theorem cT.below{w w':World}{v:Value}{L:List Lb}(h:cT w v L)(hb:Below w.heap.size w w'):cT w' v L:=h.kept (ak.of_below (S:=fun _=>False) hb) fun _ _ e=>e
theorem mq{w:World}{B:Nat}{v:Value}{L:List Lb}(h:w.ownsRow B 73 2 v L.length (aQ L))(hn:L.length<=1048576)(hl:∀x∈L,x.1.length<=1048576/\x.2.length<=1048576):cT w v L:=⟨Cb h hn hl,fun _ hb=>bg h hb⟩
theorem ay{a b c:World}(h:Below a.heap.size a b)(k:Below b.heap.size b c):Below a.heap.size a c:=h.trans (k.mono h.size)
theorem bL{P:Program}{f:FuncId}{args:Array Value}{w:World}{v:Ending}{Q:World->Prop}{R:Ending->World->Prop}(h:Calls P f args w fun e w'=>e=v/\Q w')(k:∀w',Q w'->R v w'):Calls P f args w R:=h.mono fun e w' ⟨h1,h2⟩=>by subst h1;exact k w' h2
structure Rc where
 kind:Int
 labels:List Lb
 t:Int
 u:Int
 v:Nat
def Rc.ok(x:Rc):Prop:= -9223372036854775808<=x.kind/\x.kind<=9223372036854775807/\ -9223372036854775808<=x.t/\x.t<=9223372036854775807/\ -9223372036854775808<=x.u/\x.u<=9223372036854775807/\x.v<18446744073709551616
def gq(x:Rc)(sl:Value):List Value:=[.int .i64 x.kind,sl,.int .i64 x.t,.int .i64 x.u,.int .u64 (x.v:Int)]
def rS (x:Rc)(sl:Value):Value:=.agg #[.int .i64 x.kind,sl,.int .i64 x.t,.int .i64 x.u,.int .u64 (x.v:Int)]
def aX(t:Int):Bool:=decide (0<=t)&&decide (t<=1125899906842624)
def mg(x:Rc):Bool:=
 if x.kind=0 then decide (bD x.labels=0)&&(aX x.t&&decide (x.u=0))
 else if x.kind=1 then decide (bD x.labels=0)&&(decide (x.t<=x.u)&&decide (x.v=0))
 else if x.kind=2 then decide (x.labels.length=0)&&(aX x.t&&(decide (x.u=0)&&decide (x.v=0)))
 else false
def dI(x:Rc)(g:Int):Int:=if mg x=false then 1 else if cZ g<(a8 x.labels:Int) then 3 else 0
theorem Bf(t:Int)(w:World):Calls Tryz.prog 131 #[.int .i64 t] w fun e w'=>e=.returned (.bool (aX t))/\w=w':=by
 by_cases h:0<=t
 ·have hd:decide (0<=t)=true:=by simpa using h
  have hb:aX t=decide (t<=1125899906842624):=by unfold aX;rw[hd];rfl
  rw[hb];clear hb;go_enter Tryz.func131,Tryz.ntmps131
  go_wp2;go_ret;exact⟨rfl,rfl⟩
 ·have hd:decide (0<=t)=false:=by simpa using h
  have hb:aX t=false:=by unfold aX;rw[hd];rfl
  rw[hb];clear hb;go_enter Tryz.func131,Tryz.ntmps131
  go_wp2;go_ret;exact⟨rfl,rfl⟩
def fX(g:Int):Bool:=decide (1<=g)&&decide (g<=3)
theorem vV(t:Int)(w:World):Calls Tryz.prog 104 #[.int .i64 t] w fun e w'=>e=.returned (.bool (fX t))/\w=w':=by
 by_cases h:1<=t
 ·have hd:decide (1<=t)=true:=by simpa using h
  have hb:fX t=decide (t<=3):=by unfold fX;rw[hd];rfl
  rw[hb];clear hb;go_enter Tryz.func104,Tryz.ntmps104
  go_wp2;go_ret;exact⟨rfl,rfl⟩
 ·have hd:decide (1<=t)=false:=by simpa using h
  have hb:fX t=false:=by unfold fX;rw[hd];rfl
  rw[hb];clear hb;go_enter Tryz.func104,Tryz.ntmps104
  go_wp2;go_ret;exact⟨rfl,rfl⟩
theorem qj(x:Rc)(sl:Value)(g:Int)(w:World)(hx:x.ok)(hL:aC w sl x.labels)(h1: -9223372036854775808<=g)(h2:g<=9223372036854775807):
 Calls Tryz.prog 59 #[rS x sl,.int .i64 g] w fun e w'=>e=.returned (.int .i64 (dI x g))/\Below w.heap.size w w':=by
 obtain⟨k,L,t,u,v⟩:=x
 obtain⟨x1,x2,x3,x4,x5,x6,x7⟩:=hx
 simp only at x1 x2 x3 x4 x5 x6 x7 hL
 rw[show rS ⟨k,L,t,u,v⟩ sl=.agg #[.int .i64 k,sl,.int .i64 t,.int .i64 u,.int .u64 (v:Int)] from rfl]
 have hb0:=ai w (.cells #[.int .i64 k,sl,.int .i64 t,.int .i64 u,.int .u64 (v:Int)] 108)
 have hk0:ag (w.alloc (.cells #[.int .i64 k,sl,.int .i64 t,.int .i64 u,.int .u64 (v:Int)] 108)) w.heap.size 108 #[.int .i64 k,sl,.int .i64 t,.int .i64 u,.int .u64 (v:Int)]:=ag.new _ _ _
 generalize hW0:w.alloc (.cells #[.int .i64 k,sl,.int .i64 t,.int .i64 u,.int .u64 (v:Int)] 108)=W0 at*
 have hC:=fun (W:World) (hb:Below W0.heap.size W0 W)=>
  (show W.cell? ⟨w.heap.size,0,none⟩=some (.int .i64 k)/\W.cell? ⟨w.heap.size,1,none⟩=some sl/\W.cell? ⟨w.heap.size,2,none⟩=some (.int .i64 t)/\W.cell? ⟨w.heap.size,3,none⟩=some (.int .i64 u)/\W.cell? ⟨w.heap.size,4,none⟩=some (.int .u64 (v:Int))/\aC W sl L/\Below w.heap.size w W from
   ⟨((ag.below hk0 hb hk0.lt).cell 0).trans rfl,((ag.below hk0 hb hk0.lt).cell 1).trans rfl,((ag.below hk0 hb hk0.lt).cell 2).trans rfl,((ag.below hk0 hb hk0.lt).cell 3).trans rfl,((ag.below hk0 hb hk0.lt).cell 4).trans rfl,(hL.below hb0).below hb,ay hb0 hb⟩)
 have qC:=af (fun (W:World) (hb:Below W0.heap.size W0 W)=>(jj L sl W (hC W hb).2.2.2.2.2.1).mono fun e w' ⟨h1,h2⟩=>(show e=Ending.returned (.int .i64 (bD L))/\Below W0.heap.size W0 w' from⟨h1,ay hb h2⟩))
 have qL:=af (fun (W:World) (hb:Below W0.heap.size W0 W)=>(iS L sl W (hC W hb).2.2.2.2.2.1).mono fun e w' ⟨h1,h2⟩=>(show e=Ending.returned (.int .i64 (a8 L:Int))/\Below W0.heap.size W0 w' from⟨h1,ay hb h2⟩))
 have qM:=af (fun (W:World)=>mZ g W h1 h2)
 have qT:=af (fun (W:World)=>Bf t W)
 have HC:=af hC
 have HE1:=af (show mg ⟨k,L,t,u,v⟩=false->dI ⟨k,L,t,u,v⟩ g=1 from fun e=>by unfold dI;rw[if_pos e])
 have HE2:=af (show mg ⟨k,L,t,u,v⟩=true->dI ⟨k,L,t,u,v⟩ g=if cZ g<(a8 L:Int) then 3 else 0 from fun e=>by unfold dI;rw[e];rfl)
 obtain⟨c0,c1,c2,c3,c4,_,hB⟩:=HC.out W0 (bR)
 obtain⟨sa,sc,rfl,hln,_⟩:=hL
 clear hC hb0 hk0
 have HR:=af (show mg ⟨k,L,t,u,v⟩=if k=0 then decide (bD L=0)&&(aX t&&decide (u=0))
  else if k=1 then decide (bD L=0)&&(decide (t<=u)&&decide (v=0))
  else if k=2 then decide (L.length=0)&&(aX t&&(decide (u=0)&&decide (v=0)))
  else false from rfl)
 rw[show decide (v=0)=decide ((v:Int)=0) from decide_eq_decide.2 (by omega)] at HR
 generalize mg ⟨k,L,t,u,v⟩=R at*
 generalize dI ⟨k,L,t,u,v⟩ g=V at*
 have hv0:0<=(v:Int):=by omega
 have hv1:(v:Int)<18446744073709551616:=by omega
 clear x7
 generalize (v:Int)=v at*
 generalize bD L=ce at*
 generalize aX t=tb at*
 generalize a8 L=lo at*
 generalize cZ g=lm at*
 go_enter Tryz.func59,Tryz.ntmps59
 have hR:=HR.out
 have HC0:=HC.out W0 (bR)
 clear HR HC0
 by_cases k0:k=0
 ·subst k0;rw[if_pos rfl] at hR;by_cases hce:ce=0
  ·subst hce;cases tb with
   |false=>
    have HR:=af (show R=false by rw[hR];simp);clear hR;go_wp2_with fail
    refine(qC.out _ (bR)).mono ?_;rintro e w1 ⟨rfl,hb1⟩;obtain⟨d0,d1,d2,d3,d4,_,hB1⟩:=HC.out w1 hb1;clear qC c0 c1 c2 c3 c4;go_wp2_with fail
    refine(qT.out _).mono ?_;rintro e _ ⟨rfl,rfl⟩;clear HE2 qL qM;go_wp2;go_ret;exact⟨by rw[HE1.out HR.out];rfl,hB1⟩
   |true=>
    by_cases hu:u=0
    ·subst hu;have HR:=af (show R=true by rw[hR];simp);clear hR;go_wp2_with fail
     refine(qC.out _ (bR)).mono ?_;rintro e w1 ⟨rfl,hb1⟩;obtain⟨d0,d1,d2,d3,d4,_,hB1⟩:=HC.out w1 hb1;clear qC c0 c1 c2 c3 c4;go_wp2_with fail
     refine(qT.out _).mono ?_;rintro e _ ⟨rfl,rfl⟩;have hE:=HE2.out HR.out;go_wp2_with fail
     refine(qL.out _ hb1).mono ?_;rintro e w2 ⟨rfl,hb2⟩;obtain⟨_,_,_,_,_,_,hB2⟩:=HC.out w2 hb2;clear HC;go_wp2_with fail
     refine(qM.out _).mono ?_;rintro e _ ⟨rfl,rfl⟩;by_cases hlm:lm<(lo:Int)
     ·have hd:decide (lm<(lo:Int))=true:=by simpa using hlm
      rw[if_pos hlm] at hE;have hE:=af hE;clear HE1 HE2;go_wp2;go_ret;exact⟨by rw[hE.out];rfl,hB2⟩
     ·have hd:decide (lm<(lo:Int))=false:=by simpa using hlm
      rw[if_neg hlm] at hE;have hE:=af hE;clear HE1 HE2;go_wp2;go_ret;exact⟨by rw[hE.out];rfl,hB2⟩
    ·have hz:(u==0)=false:=by simpa using hu
     have HR:=af (show R=false by rw[hR];simp[hu]);clear hR hu;go_wp2_with fail
     refine(qC.out _ (bR)).mono ?_;rintro e w1 ⟨rfl,hb1⟩;obtain⟨d0,d1,d2,d3,d4,_,hB1⟩:=HC.out w1 hb1;clear qC c0 c1 c2 c3 c4;go_wp2_with fail
     refine(qT.out _).mono ?_;rintro e _ ⟨rfl,rfl⟩;clear HE2 qL qM;go_wp2;go_ret;exact⟨by rw[HE1.out HR.out];rfl,hB1⟩
  ·have hz:(ce==0)=false:=by simpa using hce
   have HR:=af (show R=false by rw[hR];simp[hce]);clear hR hce qT;go_wp2_with fail
   refine(qC.out _ (bR)).mono ?_;rintro e w1 ⟨rfl,hb1⟩;obtain⟨d0,d1,d2,d3,d4,_,hB1⟩:=HC.out w1 hb1;clear qC c0 c1 c2 c3 c4;clear HE2 qL qM;go_wp2;go_ret;exact⟨by rw[HE1.out HR.out];rfl,hB1⟩
 rw[if_neg k0] at hR
 have hk0:(k==0)=false:=by simpa using k0
 clear k0
 by_cases k1:k=1
 ·subst k1;rw[if_pos rfl] at hR;by_cases hce:ce=0
  ·subst hce;by_cases htu:t<=u
   ·have hd:decide (t<=u)=true:=by simpa using htu
    by_cases hv:v=0
    ·subst hv;have HR:=af (show R=true by rw[hR];simp[htu]);clear hR qT;go_wp2_with fail
     refine(qC.out _ (bR)).mono ?_;rintro e w1 ⟨rfl,hb1⟩;obtain⟨d0,d1,d2,d3,d4,_,hB1⟩:=HC.out w1 hb1;clear qC c0 c1 c2 c3 c4;have hE:=HE2.out HR.out;go_wp2_with fail
     refine(qL.out _ hb1).mono ?_;rintro e w2 ⟨rfl,hb2⟩;obtain⟨_,_,_,_,_,_,hB2⟩:=HC.out w2 hb2;clear HC;go_wp2_with fail
     refine(qM.out _).mono ?_;rintro e _ ⟨rfl,rfl⟩;by_cases hlm:lm<(lo:Int)
     ·have hd:decide (lm<(lo:Int))=true:=by simpa using hlm
      rw[if_pos hlm] at hE;have hE:=af hE;clear HE1 HE2;go_wp2;go_ret;exact⟨by rw[hE.out];rfl,hB2⟩
     ·have hd:decide (lm<(lo:Int))=false:=by simpa using hlm
      rw[if_neg hlm] at hE;have hE:=af hE;clear HE1 HE2;go_wp2;go_ret;exact⟨by rw[hE.out];rfl,hB2⟩
    ·have hz:(v==0)=false:=by simpa using hv
     have HR:=af (show R=false by rw[hR];simp[hv]);clear hR hv qT;go_wp2_with fail
     refine(qC.out _ (bR)).mono ?_;rintro e w1 ⟨rfl,hb1⟩;obtain⟨d0,d1,d2,d3,d4,_,hB1⟩:=HC.out w1 hb1;clear qC c0 c1 c2 c3 c4;clear HE2 qL qM;go_wp2;go_ret;exact⟨by rw[HE1.out HR.out];rfl,hB1⟩
   ·have hd:decide (t<=u)=false:=by simpa using htu
    have HR:=af (show R=false by rw[hR];simp[htu]);clear hR htu qT;go_wp2_with fail
    refine(qC.out _ (bR)).mono ?_;rintro e w1 ⟨rfl,hb1⟩;obtain⟨d0,d1,d2,d3,d4,_,hB1⟩:=HC.out w1 hb1;clear qC c0 c1 c2 c3 c4;clear HE2 qL qM;go_wp2;go_ret;exact⟨by rw[HE1.out HR.out];rfl,hB1⟩
  ·have hz:(ce==0)=false:=by simpa using hce
   have HR:=af (show R=false by rw[hR];simp[hce]);clear hR hce qT;go_wp2_with fail
   refine(qC.out _ (bR)).mono ?_;rintro e w1 ⟨rfl,hb1⟩;obtain⟨d0,d1,d2,d3,d4,_,hB1⟩:=HC.out w1 hb1;clear qC c0 c1 c2 c3 c4;clear HE2 qL qM;go_wp2;go_ret;exact⟨by rw[HE1.out HR.out];rfl,hB1⟩
 rw[if_neg k1] at hR
 have hk1:(k==1)=false:=by simpa using k1
 clear k1
 by_cases k2:k=2
 ·subst k2;rw[if_pos rfl] at hR;generalize L.length=n at*;by_cases hl0:n=0
  ·subst hl0;cases tb with
   |false=>
    have HR:=af (show R=false by rw[hR];simp);clear hR qC;go_wp2_with fail
    refine(qT.out _).mono ?_;rintro e _ ⟨rfl,rfl⟩;clear HE2 qL qM;go_wp2;go_ret;exact⟨by rw[HE1.out HR.out];rfl,hB⟩
   |true=>
    by_cases hu:u=0
    ·subst hu;by_cases hv:v=0
     ·subst hv;have HR:=af (show R=true by rw[hR];simp);clear hR;go_wp2_with fail
      refine(qT.out _).mono ?_;rintro e _ ⟨rfl,rfl⟩;have hE:=HE2.out HR.out;go_wp2_with fail
      refine(qL.out _ (bR)).mono ?_;rintro e w2 ⟨rfl,hb2⟩;obtain⟨_,_,_,_,_,_,hB2⟩:=HC.out w2 hb2;clear HC;go_wp2_with fail
      refine(qM.out _).mono ?_;rintro e _ ⟨rfl,rfl⟩;by_cases hlm:lm<(lo:Int)
      ·have hd:decide (lm<(lo:Int))=true:=by simpa using hlm
       rw[if_pos hlm] at hE;have hE:=af hE;clear HE1 HE2;go_wp2;go_ret;exact⟨by rw[hE.out];rfl,hB2⟩
      ·have hd:decide (lm<(lo:Int))=false:=by simpa using hlm
       rw[if_neg hlm] at hE;have hE:=af hE;clear HE1 HE2;go_wp2;go_ret;exact⟨by rw[hE.out];rfl,hB2⟩
     ·have hz:(v==0)=false:=by simpa using hv
      have HR:=af (show R=false by rw[hR];simp[hv]);clear hR hv qC;go_wp2_with fail
      refine(qT.out _).mono ?_;rintro e _ ⟨rfl,rfl⟩;clear HE2 qL qM;go_wp2;go_ret;exact⟨by rw[HE1.out HR.out];rfl,hB⟩
    ·have hz:(u==0)=false:=by simpa using hu
     have HR:=af (show R=false by rw[hR];simp[hu]);clear hR hu qC;go_wp2_with fail
     refine(qT.out _).mono ?_;rintro e _ ⟨rfl,rfl⟩;clear HE2 qL qM;go_wp2;go_ret;exact⟨by rw[HE1.out HR.out];rfl,hB⟩
  ·have hz:(n==0)=false:=by simpa using hl0
   have HR:=af (show R=false by rw[hR];simp[hl0]);clear hR qT qC;have hz':((n:Int)==0)=false:=by simp;omega
   clear hl0;clear HE2 qL qM;go_wp2;go_ret;exact⟨by rw[HE1.out HR.out];rfl,hB⟩
 rw[if_neg k2] at hR
 have hk2:(k==2)=false:=by simpa using k2
 clear k2
 have HR:=af hR
 clear hR qT qC
 clear HE2 qL qM
 go_wp2
 go_ret
 exact⟨by rw[HE1.out HR.out];rfl,hB⟩
theorem gL{P:Program}{fn:Func}{t p u:Tmp}{ty:TypeId}(h:fn.results=#[.tmp t,.cell p ty,.tmp u])(tmps:Array Value)(w:World)(g:Nat)(tb:TypeId)(cs:Array Value)(d:TypeDesc)
 (hp:tmps.getD p undef=.pointer (some ⟨g,0,none⟩)) (hg:ag w g tb cs)
 (hu:P.underlying ty=some d) (hd:(match d with|.struct _|.array _ _=>true|_=>false)=true) (hi:(P.info? ty).map (·.size)=some cs.size):
 (results fn tmps).run P w=.ok (.tuple #[tmps.getD t undef,.agg cs,tmps.getD u undef]) w:=by
 have hp':tmps[p]?.getD undef=.pointer (some ⟨g,0,none⟩):=by simpa using hp
 simp[results,h,hp',asAddr,run_loadVar_row w g tb ty cs (0,0) d hg hu hd hi]
def cv:List UInt8:=[65,87,65,76]
def eo(g:Int)(kv:Value):Value:=.agg #[.int .i64 g,kv]
def yw(g:Int):Value:=if fX g then .tuple #[.string (bs (eU cv g.toNat 0)),eo g (.slice none 0 0),.int .i64 0] else .tuple #[.string ⟨#[]⟩,eo 0 (.slice none 0 0),.int .i64 1]
theorem FW(g:Int)(w:World):Calls Tryz.prog 138 #[.int .i64 g] w fun e w'=>e=.returned (yw g)/\Below w.heap.size w w':=by
 have qk:=af (fun W=>vV g W);have hb0:=ai w (.cells #[.int .i64 0,.slice none 0 0] 78);have hk0:ag (w.alloc (.cells #[.int .i64 0,.slice none 0 0] 78)) w.heap.size 78 #[.int .i64 0,.slice none 0 0]:=ag.new _ _ _;have HV:=af (show yw g=if fX g then .tuple #[.string (bs (eU cv g.toNat 0)),eo g (.slice none 0 0),.int .i64 0] else .tuple #[.string ⟨#[]⟩,eo 0 (.slice none 0 0),.int .i64 1] from rfl);have HG:fX g=true->∃n:Nat,g=n/\n<256/\g.toNat=n:=fun h=>by
  unfold fX at h;simp only[Bool.and_eq_true,decide_eq_true_eq] at h;exact⟨g.toNat,by omega,by omega,rfl⟩
 generalize yw g=V at*;go_enter Tryz.func138,Tryz.ntmps138
 go_wp2_with fail
 refine(qk.out _).mono ?_;rintro e _ ⟨rfl,rfl⟩;generalize hW0:w.alloc (.cells #[.int .i64 0,.slice none 0 0] 78)=W0 at*;cases hkb:fX g with
 |false=>
  have hV:=HV.out;rw[if_neg (by simp[hkb])] at hV;have HV:=af hV;clear hV HG;have h1:=ag.set_ (ag.set_ hk0 0 (.int .i64 0)) 1 (.slice none 0 0);have f0:=ag.frozen hk0 0;have f1:=ag.frozen hk0 1;have c0:W0.cell? ⟨w.heap.size,0,none⟩=some (.int .i64 0):=(ag.cell hk0 0).trans rfl;have c1:W0.cell? ⟨w.heap.size,1,none⟩=some (.slice none 0 0):=(ag.cell hk0 1).trans rfl;go_wp2_with fail
  (try simp only[Exit.inBlock,Exit.then]);refine bodyPost_ret (gL rfl _ _ w.heap.size 78 #[.int .i64 0,.slice none 0 0] _ rfl h1 Tryz.underlying78 rfl (by kernel_rfl)) rfl ?_;refine⟨by rw[HV.out];rfl,?_⟩;exact(hb0.setCell (p:=⟨w.heap.size,0,none⟩) (aF _) _).setCell (p:=⟨w.heap.size,1,none⟩) (aF _) _
 |true=>
  obtain⟨n,rfl,hn,hn2⟩:=HG hkb;have hV:=HV.out;rw[if_pos hkb,hn2] at hV;have HV:=af hV;clear hV HG hkb qk;have q:=af (AO cv n 0 hn (by decide) (by decide) W0);have hm:(⟨#[65,87,65,76]⟩:ByteArray)=bs cv:=rfl;go_wp2_with fail
  refine bL q.out fun w1 hb1=>?_;have hk1:=ag.below hk0 hb1 hk0.lt;have h1:=ag.set_ (ag.set_ hk1 0 (.int .i64 (n:Int))) 1 (.slice none 0 0);have f0:=ag.frozen hk1 0;have f1:=ag.frozen hk1 1;have c0:w1.cell? ⟨w.heap.size,0,none⟩=some (.int .i64 0):=(ag.cell hk1 0).trans rfl;have c1:w1.cell? ⟨w.heap.size,1,none⟩=some (.slice none 0 0):=(ag.cell hk1 1).trans rfl;have hb2:=ay hb0 hb1;go_wp2_with fail
  (try simp only[Exit.inBlock,Exit.then]);refine bodyPost_ret (gL rfl _ _ w.heap.size 78 #[.int .i64 (n:Int),.slice none 0 0] _ rfl h1 Tryz.underlying78 rfl (by kernel_rfl)) rfl ?_;refine⟨by rw[HV.out];rfl,?_⟩;exact(hb2.setCell (p:=⟨w.heap.size,0,none⟩) (aF _) _).setCell (p:=⟨w.heap.size,1,none⟩) (aF _) _
def aS (t:Int):Nat:=(t%18446744073709551616).toNat
theorem dF(t:Int):IntKind.u64.wrap t=(aS t:Int):=by
 simp only[IntKind.wrap,IntKind.bits,IntKind.signed,aS];simp;omega
theorem gy(t:Int):aS t<18446744073709551616:=by unfold aS;omega
def jK(x:Rc):List UInt8:=[UInt8.ofNat x.kind.toNat]++Num.wide (aS x.t)++Num.wide (aS x.u)++Num.wide x.v++[UInt8.ofNat x.labels.length]
def dD (L:List Lb):List Lb:=L++List.replicate (6-L.length) ([],[])
def lN(x:Lb):List UInt8:=Num.fixed x.1 12++Num.fixed x.2 12
def sq(x:Rc):List UInt8:=jK x++(dD x.labels).flatMap lN
def oP (x:Rc):List UInt8:=sq x++dj (sq x)
theorem dM{P:Program}(w:World)(dT sT ty elem:TypeId)(g o dLen dCap:Nat)(a:Addr)(sLen sCap:Nat)(cur:Array Value)(t:TypeId)(cs:List Value)(sz n:Nat)
 (hu:P.underlying dT=some (.slice elem)) (hs:(P.info? elem).map (·.size)=some sz)
 (hg:w.heap[g]?=some (.cells cur t (0,0))) (hn:n=Nat.min sLen dLen) (hc:cs.length=n*sz)
 (hsrc:∀j v,cs[j]?=some v->w.cell? (a.add j)=some v) (hfit:o+cs.length<=cur.size) (h1:∀v∈cs,v.oneCell'=true):
 (Builtin.copy_ #[dT,sT] ty #[.slice (some ⟨g,o,none⟩) dLen dCap,.slice (some a) sLen sCap]).run P w=
  .ok (goInt n) (w.setRow g (cur.toList.take o++cs++cur.toList.drop (o+cs.length)).toArray):=by
 have hl:=run_loadCells_list (P:=P) w a cs hsrc
 have hst:=run_storeCells_at P g o t cs 0 cur w hg (by simpa using hfit) h1
 rw[hc] at hl
 cases hq:P.info? elem with
 |none=>simp[hq] at hs
 |some i=>
  have hi:i.size=sz:=by simpa[hq] using hs
  simp[Builtin.copy_,run_underlying hu,Builtin.lenOf,Builtin.firstCells,sizeOf,typeInfo,hq,hi,<-hn,hl,hst,hc]
theorem me{P:Program}(w:World)(dT sT ty elem:TypeId)(a:Addr)(dLen dCap sCap:Nat)(hu:P.underlying dT=some (.slice elem))(hs:((P.info? elem).map (·.size)).isSome=true):
 (Builtin.copy_ #[dT,sT] ty #[.slice (some a) dLen dCap,.slice none 0 sCap]).run P w=.ok (goInt 0) w:=by
 cases hq:P.info? elem with
 |none=>simp[hq] at hs
 |some i=>simp[Builtin.copy_,run_underlying hu,Builtin.lenOf,Builtin.firstCells,sizeOf,typeInfo,hq,storeCells]
theorem dW{P:Program}(w:World){Q:Exit->Act->World->Prop}{ops:Array Oper}{rest:List Oper}{o:Oper}{a:Act}(hgd:o.guard=none)(d s:Operand)(t t':TypeId)
 (ho:o.op=.call {callee:=.builtin .copy,args:=#[d,s],argTypes:=#[t,t']}) (v u:Value) (hd:a.eval d=v) (hs:a.eval s=u) {v':Value} {w':World}
 (hr:(Builtin.copy_ #[t,t'] o.type #[v,u]).run P w=.ok v' w') (h:wpList P ops Q rest (a.put o.dst v') w'):wpList P ops Q (o::rest) a w:=
 wpList_plain hgd fun K hK=>by
  unfold Oper.wp execOp;simp only[ho,resolve,invoke,builtin,Sem.run_bind,Sem.run_pure,Result.andThen_ok,List.map_toArray,List.map_cons,List.map_nil,hd,hs,hr];exact hK _ _ h
theorem mo(L:List Lb)(h:L.length<=6):(dD L).length=6:=by unfold dD;simp;omega
theorem jt(L M:List Lb):aQ (L++M)=aQ L++aQ M:=by unfold aQ;rw[List.flatMap_append]
theorem oX(n:Nat):aQ (List.replicate n ([],[]))=List.replicate (n*2) (.string ⟨#[]⟩):=by
 induction n with
 |zero=>rfl
 |succ n ih=>
  rw[List.replicate_succ,show (n+1)*2=n*2+1+1 by omega,List.replicate_succ,List.replicate_succ,<-ih];rfl
theorem rk{w:World}{b o c:Nat}{L:List Lb}(h:aC w (.slice (some ⟨b,o,none⟩) L.length c) L):∀j v,(aQ L)[j]?=some v->w.cell? ((⟨b,o,none⟩:Addr).add j)=some v:=fun j v hj=>by
 obtain⟨a,c',he,_,hc⟩:=h;cases he;have hlt:j<L.length*2:=by
  have:=(List.getElem?_eq_some_iff.1 hj).1;rwa[ef] at this
 have hi:j/2<L.length:=by omega
 obtain⟨_,_,b',o',e,h1,h2⟩:=hc (j/2) _ (aV hi);cases e;obtain⟨g1,g2⟩:=nO L (j/2) _ (aV hi);have hadd:(⟨b,o,none⟩:Addr).add j=⟨b,o+j,none⟩:=by unfold Addr.add;split<;>simp_all
 rw[hadd];rcases(show j=j/2*2\/j=j/2*2+1 by omega) with e|e
 ·rw[e,g1] at hj;rw[e,h1,hj]
 ·rw[e,g2] at hj;rw[e,<-Nat.add_assoc,h2,hj]
theorem Am{w:World}{g:Nat}{sa:Option Addr}{c:Nat}{L:List Lb}(hB:ag w g 139 (List.replicate 12 (.string ⟨#[]⟩)).toArray)(hL:aC w (.slice sa L.length c) L)(h6:L.length<=6):
 ∃n w',(Builtin.copy_ #[65,65] 3 #[.slice (some ⟨g,0,none⟩) 6 6,.slice sa L.length c]).run Tryz.prog w=.ok (goInt n) w'/\ag w' g 139 (aQ (dD L)).toArray/\∀B w0,Below B w0 w->B<=g->Below B w0 w':=by
 have hp:aQ (dD L)=aQ L++List.replicate (12-L.length*2) (.string ⟨#[]⟩):=by
  unfold dD;rw[jt,oX];congr 2;omega
 cases sa with
 |none=>
  have h0:L=[]:=by
   obtain⟨a,c',he,_,hc⟩:=hL;cases he;cases L with
   |nil=>rfl
   |cons x l=>
    obtain⟨_,_,_,_,e,_⟩:=hc 0 x rfl;cases e
  subst h0;refine⟨0,w,me w _ _ _ 73 _ 6 6 c Tryz.underlying65 (by kernel_rfl),?_,fun _ _ h _=>h⟩;exact hB
 |some a=>
  have hm:Nat.min L.length 6=L.length:=Nat.min_eq_left h6;by_cases h0:L=[]
  ·subst h0;refine⟨0,_,dM w _ _ _ 73 g 0 6 6 a 0 c _ _ [] 2 0 Tryz.underlying65 (by kernel_rfl) hB rfl rfl (fun j v h=>by simp at h) (by simp) (by simp),?_,fun B w0 h hg=>below_setRow h hg _⟩;have:=setRow_heap w g _ (List.replicate 12 (Value.string ⟨#[]⟩)).toArray _ _ hB;exact this
  ·obtain⟨b,o,ha⟩:∃b o,a=⟨b,o,none⟩:=by
    obtain⟨a',c',he,_,hc⟩:=hL;cases he;cases L with
    |nil=>exact absurd rfl h0
    |cons x l=>
     obtain⟨_,_,b,o,e,_⟩:=hc 0 x rfl;exact⟨b,o,az e⟩
   subst ha;refine⟨L.length,_,dM w _ _ _ 73 g 0 6 6 _ L.length c _ _ (aQ L) 2 L.length Tryz.underlying65 (by kernel_rfl) hB hm.symm (ef L) (rk hL) (by rw[ef];simp;omega) (fun v hv=>?_),?_,fun B w0 h hg=>below_setRow h hg _⟩
   ·unfold aQ at hv;obtain⟨x,_,hx⟩:=List.mem_flatMap.1 hv;simp only[List.mem_cons,List.not_mem_nil,or_false] at hx;rcases hx with rfl|rfl<;>rfl
   ·have:=setRow_heap w g (List.replicate 12 (Value.string ⟨#[]⟩)).toArray (aQ (dD L)).toArray _ _ hB;rw[hp] at this⊢;have e:List.take 0 (List.replicate 12 (Value.string ⟨#[]⟩)).toArray.toList++aQ L++List.drop (0+(aQ L).length) (List.replicate 12 (Value.string ⟨#[]⟩)).toArray.toList=aQ L++List.replicate (12-L.length*2) (.string ⟨#[]⟩):=by
     rw[ef,List.toList_toArray,List.take_zero,List.nil_append,Nat.zero_add,List.drop_replicate]
    rw[e];exact this
theorem Bm{X:List Lb}(h6:X.length=6){i:Nat}{x:Lb}(hx:X[i]?=some x)(w:World):
 (Instr.index 139 (.agg (aQ X).toArray) (.int .i64 (i:Int))).run Tryz.prog w=.ok (.agg #[.string (bs x.1),.string (bs x.2)]) w:=by
 have hi:i<6:=by
  have:=(List.getElem?_eq_some_iff.1 hx).1;omega
 match X,h6 with
 |[a,b,c,d,e,f],_=>
  rcases(show i=0\/i=1\/i=2\/i=3\/i=4\/i=5 by omega) with rfl|rfl|rfl|rfl|rfl|rfl
  all_goals
   obtain rfl:=az hx
   rfl
theorem vU(x:Lb):(lN x).length=26:=by
 unfold lN;rw[aG,Num.fixed_len,Num.fixed_len];rfl
theorem GJ{L:List Lb}{x:Lb}(h:x∈dD L):x∈L\/x=([],[]):=by
 unfold dD at h;rcases List.mem_append.1 h with h|h
 ·exact .inl h
 ·exact .inr (List.eq_of_mem_replicate h)
theorem Dr(x:Rc)(sl:Value)(w:World)(hx:x.ok)(hL:aC w sl x.labels)(hk:0<=x.kind/\x.kind<256)(h6:x.labels.length<=6):
 Calls Tryz.prog 399 #[.agg #[],rS x sl] w fun e w'=>e=.returned (.string (bs (oP x)))/\Below w.heap.size w w':=by
 obtain⟨k,L,t,u,v⟩:=x
 obtain⟨x1,x2,x3,x4,x5,x6,x7⟩:=hx
 simp only at x1 x2 x3 x4 x5 x6 x7 hL hk h6
 obtain⟨kn,rfl⟩:∃kn:Nat,k=kn:=⟨k.toNat,by omega⟩
 rw[show rS ⟨kn,L,t,u,v⟩ sl=.agg #[.int .i64 (kn:Int),sl,.int .i64 t,.int .i64 u,.int .u64 (v:Int)] from rfl]
 have hb0:Below w.heap.size w ((w.alloc (.cells #[] 240)).alloc (.cells #[.int .i64 (kn:Int),sl,.int .i64 t,.int .i64 u,.int .u64 (v:Int)] 108)):=((Below.refl _ w).alloc (aF _) _).alloc (by simp) _
 have hk0:ag ((w.alloc (.cells #[] 240)).alloc (.cells #[.int .i64 (kn:Int),sl,.int .i64 t,.int .i64 u,.int .u64 (v:Int)] 108)) (w.heap.size+1) 108 #[.int .i64 (kn:Int),sl,.int .i64 t,.int .i64 u,.int .u64 (v:Int)]:=by
  have:=ag.new (w.alloc (.cells #[] 240)) 108 #[.int .i64 (kn:Int),sl,.int .i64 t,.int .i64 u,.int .u64 (v:Int)];rwa[aW] at this
 generalize hW0:(w.alloc (.cells #[] 240)).alloc (.cells #[.int .i64 (kn:Int),sl,.int .i64 t,.int .i64 u,.int .u64 (v:Int)] 108)=W0 at*
 have hL0:=hL.below hb0
 have HB0:=af hb0
 have c0:W0.cell? ⟨w.heap.size+1,0,none⟩=some (.int .i64 (kn:Int)):=(ag.cell hk0 0).trans rfl
 have c1:W0.cell? ⟨w.heap.size+1,1,none⟩=some sl:=(ag.cell hk0 1).trans rfl
 have c2:W0.cell? ⟨w.heap.size+1,2,none⟩=some (.int .i64 t):=(ag.cell hk0 2).trans rfl
 have c3:W0.cell? ⟨w.heap.size+1,3,none⟩=some (.int .i64 u):=(ag.cell hk0 3).trans rfl
 have c4:W0.cell? ⟨w.heap.size+1,4,none⟩=some (.int .u64 (v:Int)):=(ag.cell hk0 4).trans rfl
 have g0:=aj c0
 have g1:=aj c1
 have g2:=aj c2
 have g3:=aj c3
 have g4:=aj c4
 have w1:=dF t
 have w2:=dF u
 have b1:=gy t
 have b2:=gy u
 have hO:oP ⟨kn,L,t,u,v⟩=(jK ⟨kn,L,t,u,v⟩++(dD L).flatMap lN)++dj (jK ⟨kn,L,t,u,v⟩++(dD L).flatMap lN):=rfl
 have hH:jK ⟨kn,L,t,u,v⟩=[UInt8.ofNat kn]++Num.wide (aS t)++Num.wide (aS u)++Num.wide v++[UInt8.ofNat L.length]:=rfl
 have hRl:(jK ⟨kn,L,t,u,v⟩).length=26:=by rw[hH];simp[Num.wide_len]
 have q1:=af (fun W=>cG (aS t:Int) W (by omega) (by omega))
 have q2:=af (fun W=>cG (aS u:Int) W (by omega) (by omega))
 have q3:=af (fun W=>cG (v:Int) W (by omega) (by omega))
 rw[show ((aS t:Int).toNat)=aS t from rfl] at q1
 rw[show ((aS u:Int).toNat)=aS u from rfl] at q2
 rw[show ((v:Int).toNat)=v from rfl] at q3
 obtain⟨sa,sc,rfl,_,hLc⟩:=id hL0
 have hku:IntKind.u8.wrap (kn:Int)=kn:=by simp[IntKind.wrap,IntKind.bits,IntKind.signed];omega
 have hlu:IntKind.u8.wrap (L.length:Int)=L.length:=by simp[IntKind.wrap,IntKind.bits,IntKind.signed];omega
 have hkb:(UInt8.ofNat kn).toNat=kn:=Num.ofNat_toNat kn (by omega)
 have hlb:(UInt8.ofNat L.length).toNat=L.length:=Num.ofNat_toNat _ (by omega)
 have l1:=Num.wide_len (aS t)
 have l2:=Num.wide_len (aS u)
 have l3:=Num.wide_len v
 generalize Num.wide (aS t)=y1 at*
 generalize Num.wide (aS u)=y2 at*
 generalize Num.wide v=y3 at*
 have a1:∀W,(Op.stringOp .add (bs [UInt8.ofNat kn]) (bs y1)).run Tryz.prog W=.ok (.string (bs ([UInt8.ofNat kn]++y1))) W:=fun W=>aJ (P:=Tryz.prog) _ _ (by simp;omega) W
 have a2:∀W,(Op.stringOp .add (bs ([UInt8.ofNat kn]++y1)) (bs y2)).run Tryz.prog W=.ok (.string (bs ([UInt8.ofNat kn]++y1++y2))) W:=fun W=>aJ (P:=Tryz.prog) _ _ (by simp;omega) W
 have a3:∀W,(Op.stringOp .add (bs ([UInt8.ofNat kn]++y1++y2)) (bs y3)).run Tryz.prog W=.ok (.string (bs ([UInt8.ofNat kn]++y1++y2++y3))) W:=fun W=>aJ (P:=Tryz.prog) _ _ (by simp;omega) W
 have a4:∀W,(Op.stringOp .add (bs ([UInt8.ofNat kn]++y1++y2++y3)) (bs [UInt8.ofNat L.length])).run Tryz.prog W=.ok (.string (bs (jK ⟨kn,L,t,u,v⟩))) W:=fun W=>by rw[hH];exact aJ (P:=Tryz.prog) _ _ (by simp;omega) W
 clear hH
 generalize jK ⟨kn,L,t,u,v⟩=H at*
 generalize [UInt8.ofNat kn]++y1++y2++y3=z3 at*
 generalize [UInt8.ofNat kn]++y1++y2=z2 at*
 generalize [UInt8.ofNat kn]++y1=z1 at*
 have HO:=af hO
 clear hO
 generalize oP ⟨kn,L,t,u,v⟩=O at*
 go_enter Tryz.func399,Tryz.ntmps399
 go_wp2_with fail
 refine dY ?_
 iterate 3 (refine bJ fun K hK=>?_;go_big_quiet_step (fail);refine hK _ ?_;clear hK K)
 (refine kJ (qS [UInt8.ofNat kn]) (by kernel_rfl) (fun _ _ h=>by cases h) (by kernel_rfl) rfl (tM 5 [UInt8.ofNat kn] fun W=>by go_simp) ?_)
 (refine zO (by kernel_rfl) rfl rfl (by kernel_rfl) (by kernel_rfl) (sL 82 9 5 Tryz.underlying82 Tryz.underlying5 Tryz.underlying9 [UInt8.ofNat kn]) (i9 (type:=0) (pos:= "") (fun K hK=>?_));go_big_quiet_step (fail);refine hK _ ?_;clear hK K)
 iterate 3 (refine bJ fun K hK=>?_;go_big_quiet_step (fail);refine hK _ ?_;clear hK K)
 (refine fS (f:=33) (args:=#[.int .u64 (aS t:Int)]) (v:=.string (bs y1)) (fun W hW=>q1.out W) fun K hK=>?_;go_big_quiet_step (fail);refine hK _ ?_;clear hK K)
 iterate 4 (refine bJ fun K hK=>?_;go_big_quiet_step (fail);refine hK _ ?_;clear hK K)
 (refine fS (f:=33) (args:=#[.int .u64 (aS u:Int)]) (v:=.string (bs y2)) (fun W hW=>q2.out W) fun K hK=>?_;go_big_quiet_step (fail);refine hK _ ?_;clear hK K)
 iterate 3 (refine bJ fun K hK=>?_;go_big_quiet_step (fail);refine hK _ ?_;clear hK K)
 (refine fS (f:=33) (args:=#[.int .u64 (v:Int)]) (v:=.string (bs y3)) (fun W hW=>q3.out W) fun K hK=>?_;go_big_quiet_step (fail);refine hK _ ?_;clear hK K)
 iterate 3 (refine bJ fun K hK=>?_;go_big_quiet_step (fail);refine hK _ ?_;clear hK K)
 (refine nw (v:=.int .i64 (L.length:Int)) (fun _ _=>by go_simp) fun K hK=>?_;go_big_quiet_step (fail);refine hK _ ?_;clear hK K)
 (refine bJ fun K hK=>?_;go_big_quiet_step (fail);refine hK _ ?_;clear hK K)
 (refine kJ (qS [UInt8.ofNat L.length]) (by kernel_rfl) (fun _ _ h=>by cases h) (by kernel_rfl) rfl (tM 5 [UInt8.ofNat L.length] fun W=>by go_simp) ?_)
 (refine zO (by kernel_rfl) rfl rfl (by kernel_rfl) (by kernel_rfl) (sL 82 9 5 Tryz.underlying82 Tryz.underlying5 Tryz.underlying9 [UInt8.ofNat L.length]) (i9 (type:=0) (pos:= "") (fun K hK=>?_));go_big_quiet_step (fail);refine hK _ ?_;clear hK K)
 iterate 2 (refine bJ fun K hK=>?_;go_big_quiet_step (fail);refine hK _ ?_;clear hK K)
 refine eR ?_
 intro W1 hb1
 simp only[aB]
 intro y hy z hz
 clear hy hz
 simp only[Act.put,List.setIfInBounds_toArray,List.set_cons_succ,List.set_cons_zero]
 have hk1:=ag.below hk0 hb1 hk0.lt
 have hL1:=hL0.below hb1
 have HB1:=af (HB0.out.trans (hb1.mono HB0.out.size))
 have e1:W1.cell? ⟨w.heap.size+1,1,none⟩=some (.slice sa L.length sc):=(ag.cell hk1 1).trans rfl
 clear g0 g1 g2 g3 g4 c0 c1 c2 c3 c4 q1 q2 q3 a1 a2 a3 a4 hb1 hb0 hk0 hL hL0 HB0 hW0
 go_wp2_with fail
 have hB2:ag (W1.alloc (.cells (List.replicate 12 (.string ⟨#[]⟩)).toArray 139)) W1.heap.size 139 (List.replicate 12 (.string ⟨#[]⟩)).toArray:=ag.new _ _ _
 have hb2:=HB1.out.alloc HB1.out.size (.cells (List.replicate 12 (.string ⟨#[]⟩)).toArray 139)
 have e2:(W1.alloc (.cells (List.replicate 12 (.string ⟨#[]⟩)).toArray 139)).cell? ⟨w.heap.size+1,1,none⟩=some (.slice sa L.length sc):=(Below.cell (ai W1 _) (World.block_lt_of_cell? _ _ e1)).trans e1
 have hL2:=hL1.below (ai W1 (.cells (List.replicate 12 (.string ⟨#[]⟩)).toArray 139))
 have hG:w.heap.size<=W1.heap.size:=HB1.out.size
 simp only[List.replicate_succ,List.replicate_zero] at hB2 hb2 e2 hL2
 have g1:=aj e2
 clear HB1 hL1 e1 hk1
 generalize W1.heap.size=G at*
 refine l6 ?_
 (refine nw (v:=.slice (some ⟨G,0,none⟩) 6 6) (fun _ _=>by go_simp) fun K hK=>?_;go_big_quiet_step (fail);refine hK _ ?_;clear hK K)
 iterate 2 (refine bJ fun K hK=>?_;go_big_quiet_step (fail);refine hK _ ?_;clear hK K)
 refine eR ?_
 intro W3 hb3
 simp only[aB]
 obtain⟨n,W4,hcp,hB4,hbel⟩:=Am (ag.below hB2 hb3 hB2.lt) (hL2.below hb3) h6
 have hb4:=hbel _ _ (ay hb2 hb3) hG
 clear hbel hB2 hb2 e2 hL2 g1 hb3
 refine dW _ rfl _ _ _ _ rfl _ _ rfl rfl hcp ?_
 clear hcp
 have hP6:=mo L h6
 have hPl:∀x∈dD L,x.1.length<=1048576/\x.2.length<=1048576:=fun x hx=>by
  rcases GJ hx with h|h
  ·obtain⟨i,hi⟩:=List.getElem?_of_mem h;have:=hLc i x hi;exact⟨this.1,this.2.1⟩
  ·subst h;simp
 clear hLc
 generalize dD L=X at*
 go_wp2_with (refine wpList_load_row rfl _ _ rfl G rfl 139 _ (0,0) _ hB4 Tryz.underlying139 rfl (by rw[List.size_toArray,ef,hP6];kernel_rfl) ?_)
 go_loopw [5,40] (fun vs vi wr=>∃(i:Nat) (s:List UInt8),i<=6/\vi=.int .i64 (i:Int)/\vs=.string (bs s)/\s=H++(X.take i).flatMap lN/\s.length=26+i*26/\Below w.heap.size w wr) (fun vs vi _=>6-(intOf vi).toNat)
 case atStart=>exact⟨0,H,Nat.zero_le _,rfl,rfl,by simp,by omega,hb4⟩
 clear hb4 hB4
 obtain⟨i,s,hi,rfl,rfl,hs,hsl,hb⟩:=hrel
 rcases(show i<6\/i=6 by omega) with hil|rfl
 ·have hix:X[i]?=some X[i]:=aV (by omega);have hS:=af (show s++lN X[i]=H++(X.take (i+1)).flatMap lN by
   rw[eM (by omega),List.flatMap_append,hs];simp)
  have hd:decide ((i:Int)<6)=true:=by simp;omega
  have hpl:=hPl X[i] (dK _);generalize X[i]=x at*;have hrun:=fun W=>Bm hP6 hix W;have hfl:=vU x;have hF:lN x=Num.fixed x.1 12++Num.fixed x.2 12:=rfl;have q1:=af (fun W=>iJ x.1 12 W (by omega) (by omega) (by omega));have q2:=af (fun W=>iJ x.2 12 W (by omega) (by omega) (by omega));have f1:(Num.fixed x.1 12).length=13:=Num.fixed_len _ _;have f2:(Num.fixed x.2 12).length=13:=Num.fixed_len _ _;generalize Num.fixed x.1 12=y1 at*;generalize Num.fixed x.2 12=y2 at*;have a1:∀W,(Op.stringOp .add (bs y1) (bs y2)).run Tryz.prog W=.ok (.string (bs (lN x))) W:=fun W=>by rw[hF];exact aJ (P:=Tryz.prog) _ _ (by omega) W
  clear hF;generalize lN x=y at*;have a2:∀W,(Op.stringOp .add (bs s) (bs y)).run Tryz.prog W=.ok (.string (bs (s++y))) W:=fun W=>aJ (P:=Tryz.prog) _ _ (by omega) W;have hsl2:(s++y).length=26+(i+1)*26:=by rw[aG];omega
  clear hs hix hpl hPl;generalize hs2:s++y=s2 at*;have k0:ag (wr.alloc (.cells #[.string (bs x.1),.string (bs x.2)] 73)) wr.heap.size 73 #[.string (bs x.1),.string (bs x.2)]:=ag.new _ _ _;have b0:=hb.alloc hb.size (.cells #[.string (bs x.1),.string (bs x.2)] 73);have g0:=aj ((ag.cell k0 0).trans rfl:_=some (.string (bs x.1)));have g1:=aj ((ag.cell k0 1).trans rfl:_=some (.string (bs x.2)));have HB:=af b0;clear k0 b0;go_wp2_with fail
  refine dY ?_;iterate 3 (refine bJ fun K hK=>?_;go_big_quiet_step (fail);refine hK _ ?_;clear hK K)
  (refine fS (f:=177) (args:=#[.string (bs x.1),.int .i64 12]) (v:=.string (bs y1)) (fun W hW=>q1.out W) fun K hK=>?_;go_big_quiet_step (fail);refine hK _ ?_;clear hK K);iterate 2 (refine bJ fun K hK=>?_;go_big_quiet_step (fail);refine hK _ ?_;clear hK K)
  (refine fS (f:=177) (args:=#[.string (bs x.2),.int .i64 12]) (v:=.string (bs y2)) (fun W hW=>q2.out W) fun K hK=>?_;go_big_quiet_step (fail);refine hK _ ?_;clear hK K);iterate 3 (refine bJ fun K hK=>?_;go_big_quiet_step (fail);refine hK _ ?_;clear hK K)
  refine eR ?_;intro w5 hb5;simp only[aB];clear g0 g1 q1 q2;go_wp2_with fail
  go_roundw
  case rel=>exact⟨i+1,s2,by omega,by go_num,rfl,by rw[<-hS.out],by omega,HB.out.trans (hb5.mono HB.out.size)⟩
  case measure=>simp[intOf];omega
 ·rw[List.take_of_length_le (by omega)] at hs;have hsl2:s.length=182:=by omega
  rw[<-hs] at HO;clear hs hsl;have q:=af (fun W=>mJ s (by omega) W);have htl:=dP s;have hadd:∀W,(Op.stringOp .add (bs s) (bs (dj s))).run Tryz.prog W=.ok (.string (bs O)) W:=fun W=>by rw[HO.out];exact aJ (P:=Tryz.prog) s (dj s) (by omega) W
  generalize dj s=ts at*;go_wp2_with fail
  refine(q.out _).mono ?_;rintro e w5 ⟨rfl,hb5⟩;go_wp2_with fail
  go_ret;exact⟨rfl,ay hb hb5⟩
def rM(w:World)(b o:Nat)(x:Rc):Prop:=x.ok/\∃sl,w.cell? ⟨b,o,none⟩=some (.int .i64 x.kind)/\w.cell? ⟨b,o+1,none⟩=some sl/\aC w sl x.labels/\w.cell? ⟨b,o+2,none⟩=some (.int .i64 x.t)/\w.cell? ⟨b,o+3,none⟩=some (.int .i64 x.u)/\w.cell? ⟨b,o+4,none⟩=some (.int .u64 (x.v:Int))
def dw(w:World)(v:Value)(R:List Rc):Prop:=
 ∃a c,v=.slice a R.length c/\R.length<=1048576/\∀(i:Nat) x,R[i]?=some x->∃b o,a=some ⟨b,o,none⟩/\rM w b (o+i*5) x
theorem rM.below{w w':World}{b o:Nat}{x:Rc}(h:rM w b o x)(hb:Below w.heap.size w w'):rM w' b o x:=by
 obtain⟨h0,sl,h1,h2,h3,h4,h5,h6⟩:=h;have f:∀{p:Addr} {v:Value},w.cell? p=some v->w'.cell? p=some v:=fun h=>cu hb h;exact⟨h0,sl,f h1,f h2,h3.below hb,f h4,f h5,f h6⟩
theorem dw.below{w w':World}{v:Value}{R:List Rc}(h:dw w v R)(hb:Below w.heap.size w w'):dw w' v R:=by
 obtain⟨a,c,h1,h2,h3⟩:=h;refine⟨a,c,h1,h2,fun i x hx=>?_⟩;obtain⟨b,o,h4,h5⟩:=h3 i x hx;exact⟨b,o,h4,h5.below hb⟩
def DG(x:Rc):Prop:=(0<=x.kind/\x.kind<256)/\x.labels.length<=6
theorem zF(x:Rc)(h:x.labels.length<=6):(oP x).length=186:=by
 have hb:(sq x).length=182:=by
  unfold sq jK;have:∀l:List Lb,(l.flatMap lN).length=l.length*26:=fun l=>by
   induction l with
   |nil=>rfl
   |cons y l ih=>rw[List.flatMap_cons,aG,vU,ih,cY];omega
  rw[aG,this,mo _ h];simp[Num.wide_len]
 unfold oP;rw[aG,hb,dP]
def nY(R:List Rc):List UInt8:=R.flatMap oP
theorem vq(R:List Rc)(v:Value)(w:World)(h:dw w v R)(hR:∀x∈R,DG x):
 Calls Tryz.prog 400 #[.agg #[],v] w fun e w'=>e=.returned (.tuple #[.string (bs (nY R)),.bool true])/\Below w.heap.size w w':=by
 obtain⟨a,c,rfl,hn,hc⟩:=h
 have HC:=af hc
 clear hc
 go_enter Tryz.func400,Tryz.ntmps400
 go_wp2
 have kf:ag (w.alloc (.cells #[] 240)) w.heap.size 240 #[]:=ag.new _ _ _
 have hb0:=ai w (.cells #[] 240)
 go_loopw [6,11] (fun vs vi wr=>∃(i:Nat) (s:List UInt8),i<=R.length/\vi=.int .i64 (i:Int)/\vs=.string (bs s)/\s=nY (R.take i)/\s.length=i*186/\ag wr w.heap.size 240 #[]/\Below w.heap.size w wr) (fun vs vi _=>R.length-(intOf vi).toNat)
 case atStart=>exact⟨0,[],Nat.zero_le _,rfl,rfl,rfl,rfl,kf,hb0⟩
 clear kf hb0
 obtain⟨i,s,hi,rfl,rfl,hs,hsl,hk,hb⟩:=hrel
 rcases(show i<R.length\/i=R.length by omega) with hil|rfl
 ·have hix:R[i]?=some R[i]:=aV hil;have hS:=af (show s++oP R[i]=nY (R.take (i+1)) by
   unfold nY at*
   rw[eM hil,List.flatMap_append,hs];simp)
  have hfit:=hR R[i] (dK _);obtain⟨b,o,rfl,hA⟩:=HC.out i _ hix;have hA:=hA.below (hb.mono (aF _));generalize R[i]=x at*;obtain⟨hok,sl,e0,e1,hL,e2,e3,e4⟩:=hA;have q:=af (fun (W:World) (hW:Below wr.heap.size wr W)=>Dr x sl W hok (hL.below hW) hfit.1 hfit.2);have hol:=zF x hfit.2;have a1:∀W,(Op.stringOp .add (bs s) (bs (oP x))).run Tryz.prog W=.ok (.string (bs (s++oP x))) W:=fun W=>aJ (P:=Tryz.prog) _ _ (by omega) W;have hsl2:(s++oP x).length=(i+1)*186:=by rw[aG];omega
  generalize oP x=y at*;obtain⟨va,vc,rfl,_⟩:=hL;clear hs hix hfit;generalize s++y=s2 at*;rw[show rS x (.slice va x.labels.length vc)=.agg #[.int .i64 x.kind,.slice va x.labels.length vc,.int .i64 x.t,.int .i64 x.u,.int .u64 (x.v:Int)] from rfl] at q;go_wp2_with fail
  refine(q.out _ (ai wr _)).mono ?_;rintro e w1 ⟨rfl,hb1⟩;have hb2:=(ai wr (.cells #[.int .i64 x.kind,.slice va x.labels.length vc,.int .i64 x.t,.int .i64 x.u,.int .u64 (x.v:Int)] 108)).trans (hb1.mono (by simp));have hk2:=ag.below hk hb2 hk.lt;clear q hb1;go_wp2_with fail
  go_roundw
  case rel=>exact⟨i+1,s2,by omega,by go_num,rfl,hS.out,hsl2,hk2,ay hb hb2⟩
  case measure=>simp[intOf];omega
 ·rw[List.take_length] at hs;subst hs;go_wp2_with fail
  go_ret2;exact⟨rfl,hb⟩
end
section
open Go.RowKit Go.Maps Go.WideMaps
attribute [local go_sem] am aq
def ju (v:Value):Option (DataW Unit×List MemPlace):=
 match v with
 |.int .i64 n=>some (.lit (.int .i64 n),[])
 |_=>none
theorem zV{v:Value}{n:Int}{ps:List MemPlace}(h:ju v=some (.lit (.int .i64 n),ps)):v=.int .i64 n:=by
 unfold ju at h;split at h
 ·simp only[Option.some.injEq,Prod.mk.injEq,DataW.lit.injEq,Lit.int.injEq] at h;rw[h.1.2]
 ·cases h
def kw(D:DataW Unit)(K:List (List UInt8)):Prop:=∀l:List UInt8,Maps.has D (.string l)=decide (l∈K)/\(l∈K->∀z,D.atKey (.string l) z=.lit (.int .i64 (K.idxOf l:Nat)))
theorem Ce{D:DataW Unit}{K:List (List UInt8)}{l:List UInt8}(h:kw D K)(hl:l∈K):kw D (K++[l]):=fun x=>by
 obtain⟨h1,h2⟩:=h x;have hm:x∈K++[l]↔x∈K:=by
  simp only[List.mem_append,List.mem_cons,List.not_mem_nil,or_false];exact⟨fun e=>e.elim id fun e=>e▸hl,.inl⟩
 refine⟨by rw[h1];exact decide_eq_decide.2 hm.symm,fun hx z=>?_⟩;rw[h2 (hm.1 hx) z,List.idxOf_append,if_pos (hm.1 hx)]
theorem nR{D:DataW Unit}{K:List (List UInt8)}{l:List UInt8}(hD:IsMap D)(h:kw D K)(hl:l∉K):kw (D.put (.string l) (.lit (.int .i64 (K.length:Nat)))) (K++[l]):=fun x=>by
 obtain⟨h1,h2⟩:=h x;by_cases e:x=l
 ·subst e;refine⟨by rw[has_put_same hD (by trivial)];simp,fun _ z=>?_⟩;rw[atKey_put_same hD (by trivial),List.idxOf_append,if_neg hl];simp
 ·have hne:(Lit.string x)≠Lit.string l:=fun h=>e (Lit.string.inj h);have hm:x∈K++[l]↔x∈K:=by simp[e]
  refine⟨by rw[has_put_other hne,h1];exact decide_eq_decide.2 hm.symm,fun hx z=>?_⟩;rw[atKey_put_other hne,h2 (hm.1 hx) z,List.idxOf_append,if_pos (hm.1 hx)]
def sS (K:List (List UInt8)):List Value:=K.map fun k=>.string (bs k)
structure aZ(w:World)(B n:Nat)(K:List (List UInt8))(kv:Value)(m:Nat)(D:DataW Unit):Prop where
 blk:ag w n 173 #[kv,.map (some m)]
 row:w.ownsRow B 9 1 kv K.length (sS K)
 map:w.ownsMap Tryz.prog 9 ju m K.length D
 dict:kw D K
 lo:B<=n/\B<=m
def NF (n m:Nat)(kv:Value):Nat->Prop:=fun k=>k=n\/k=m\/kv.ownBlock=some k
section
variable {w w':World} {B n m:Nat} {K:List (List UInt8)} {kv:Value} {D:DataW Unit}
theorem aZ.kept{S:Nat->Prop}(h:aZ w B n K kv m D)(hk:ak w w' S)(hS:∀k,NF n m kv k->¬S k):aZ w' B n K kv m D:=
 ⟨h.blk.keptK hk (hS n (.inl rfl)),aw h.row hk (fun k e=>hS k (.inr (.inr e))),eK h.map hk (hS m (.inr (.inl rfl))),h.dict,h.lo⟩
theorem aZ.below(h:aZ w B n K kv m D)(hb:Below w.heap.size w w'):aZ w' B n K kv m D:=h.kept (ak.of_below (S:=fun _=>False) hb) fun _ _ e=>e
theorem aZ.form(h:aZ w B n K kv m D):∃a c,kv=.slice a K.length c:=by
 rcases h.row.2 with⟨e,e0⟩|⟨g,cap,cur,e,_⟩
 ·exact⟨none,0,by rw[e,e0]⟩
 ·exact⟨_,_,e⟩
theorem aZ.ne_nm(h:aZ w B n K kv m D):n≠m:=fun e=>by
 have h1:=aP h.blk;rw[e,jI h.map] at h1;simp at h1
theorem aZ.ne_mk(h:aZ w B n K kv m D):kv.ownBlock≠some m:=fun e=>by
 have h1:=jI h.map;rw[bg h.row e] at h1;simp at h1
theorem Ed(K:List (List UInt8))(l:List UInt8):sS (K++[l])=sS K++[.string (bs l)]:=by unfold sS;simp
theorem tK{w5:World}{kv':Value}{D':DataW Unit}{l:List UInt8}{o:Obj}(hblk:ag w n 173 #[kv,.map (some m)])(hrow:w.ownsRow B 9 1 kv K.length (sS K))(hD:w.ownsMap Tryz.prog 9 ju m (K++[l]).length D')(hd:kw D' (K++[l]))(hlo:B<=n/\B<=m)
 (hown:w5.ownsRow B 9 1 kv' (K.length+1) (sS K++[.string (bs l)])) (hg:(w.alloc o).grownBy w5 kv.ownBlock) (hloc:kv'.ownBlock=kv.ownBlock\/kv'.ownBlock=some (w.alloc o).heap.size):
 ag w5 n 173 #[kv,.map (some m)]/\aZ (w5.setCell ⟨n,0,none⟩ kv') B n (K++[l]) kv' m D'/\dE w (w5.setCell ⟨n,0,none⟩ kv') (NF n m kv) (NF n m kv'):=by
 have n1:n≠m:=fun e=>by
  have h1:=aP hblk;rw[e,jI hD] at h1;simp at h1
 have n2:kv.ownBlock≠some n:=fun e=>by
  have h1:=aP hblk;rw[bg hrow e] at h1;simp at h1
 have n3:kv.ownBlock≠some m:=fun e=>by
  have h1:=jI hD;rw[bg hrow e] at h1;simp at h1
 have hk0:ak w (w.alloc o) (fun _=>False):=ak.alloc w o _
 have hk1:ak w w5 (fun k=>kv.ownBlock=some k):=(hk0.weaken (fun _ e=>e.elim)).trans (ak.of_grown hg fun k e=>e)
 have hb5:=hblk.keptK hk1 n2
 have hk2:ak w (w5.setCell ⟨n,0,none⟩ kv') (NF n m kv):=(hk1.weaken fun k e=>.inr (.inr e)).trans (ak.of_grown (ap w5 n 0 kv') fun k e=>.inl (az e).symm)
 have hnn:kv'.ownBlock≠some n:=by
  rcases hloc with e|e
  ·rw[e];exact n2
  ·rw[e];intro e2;have:=hblk.lt;have:=az e2;simp at this;omega
 refine⟨hb5,⟨(ag.set_ hb5 0 kv'),?_,?_,hd,hlo⟩,hk2,fun k hk=>?_⟩
 ·rw[Ed,aG];exact aw hown (ak.of_grown (S:=fun k=>k=n) (ap w5 n 0 kv') fun k e=>(az e).symm) (fun b e e2=>hnn (e2▸e))
 ·exact eK (eK hD hk1 n3) (ak.of_grown (S:=fun k=>k=n) (ap w5 n 0 kv') fun k e=>(az e).symm) (fun e=>n1 e.symm)
 ·rcases hk with e|e|e
  ·exact .inl (.inl e)
  ·exact .inl (.inr (.inl e))
  ·rcases hloc with e2|e2
   ·exact .inl (.inr (.inr (e2▸e)))
   ·rw[e2] at e;have:=az e;simp at this;exact .inr (by omega)
theorem aH{e:TypeId}{size c:Nat}{v:Value}{xs:List Value}(h:w.ownsRow B e size v c xs):∃a cap,v=.slice a c cap:=by
 rcases h.2 with⟨e,e0⟩|⟨g,cap,cur,e,_⟩
 ·exact⟨none,0,by rw[e,e0]⟩
 ·exact⟨_,_,e⟩
theorem aZ.ge(h:aZ w B n K kv m D):∀k,NF n m kv k->B<=k:=fun k hk=>by
 rcases hk with rfl|rfl|e
 ·exact h.lo.1
 ·exact h.lo.2
 ·exact(h.row.lt k e).1
theorem DM(l:List UInt8)(h:aZ w B n K kv m D)(hl:l.length<=1048576)(hK:K.length<=1048576)(hB:B<=w.heap.size):
 Calls Tryz.prog 169 #[.pointer (some ⟨n,0,none⟩),.string (bs l)] w fun e w'=>e=.returned (.tuple #[])/\∃kv' D',aZ w' B n (K++[l]) kv' m D'/\dE w w' (NF n m kv) (NF n m kv'):=by
 have hkey:keyOf Tryz.prog 9 (.string (bs l))=some (.string l):=keyOf_string_mk Tryz.underlying9 (by rw[aq];unfold maxLen;omega)
 obtain⟨sa,sc,rfl⟩:=h.form
 have c0:w.cell? ⟨n,0,none⟩=some (.slice sa K.length sc):=(ag.cell h.blk 0).trans rfl
 have c1:w.cell? ⟨n,1,none⟩=some (.map (some m)):=(ag.cell h.blk 1).trans rfl
 have HM:=af h.map
 by_cases hm:l∈K
 ·have hh:Maps.has D (.string l)=true:=by rw[(h.dict l).1];simpa using hm
  go_enter Tryz.func169,Tryz.ntmps169
  have ⟨i0,hi,hz0,hz1,hz2⟩:=info_parts (show (Tryz.prog.info? 9).map (fun i=>(i.zero,i.size,i.bytes))=some (some (.string ⟨#[]⟩),1,16) by kernel_rfl);have hD2:w.ownsMap Tryz.prog 9 ju m (K++[l]).length D:=h.map.mono (by simp);have HP:=af (fun w5 kv' (a:w5.ownsRow B 9 1 kv' (K.length+1) (sS K++[.string (bs l)])) b c=>tK (w5:=w5) (kv':=kv') (D':=D) (l:=l) (o:=.cells #[.string (bs l)] 9) h.blk h.row hD2 (Ce h.dict hm) h.lo a b c);have hrow:=h.row;clear hD2 h;go_wp2_with (first|(at_lookup;refine wpList_lookup_own_ok _ rfl _ _ 171 rfl 9 3 (string_keyed Tryz.underlying9) Tryz.underlying171 ju (z:=.int .i64 0) (by kernel_rfl) (.lit (.int .i64 0)) [] rfl m K.length D rfl HM.out _ _ rfl hkey ?_;intro x ps hx;rw[hh];clear hx)|(at_builtin;refine wpList_append_own_at _ rfl _ _ 76 rfl B 9 i0 (.string ⟨#[]⟩) 1 16 Tryz.underlying76 hi hz0 hz1 hz2 rfl (by decide) _ _ _ rfl (World.ownsRow.alloc hrow _) ⟨_,0,none⟩ 1 1 [.string (bs l)] rfl rfl (cell_one_new _ _ _) (by simp[Value.oneCell']) (by unfold maxLen;omega) (by omega) (by simp;omega) ?_;intro v' w5 hown' hgrow hnil hloc;have HH:=af (HP.out w5 v' hown' hgrow hloc);obtain⟨sa',sc',rfl⟩:=aH hown';have d0:w5.cell? ⟨n,0,none⟩=some _:=(ag.cell HH.out.1 0).trans rfl;have f0:=ag.frozen HH.out.1 0;clear hown' hgrow hnil hloc HP hrow HM))
  go_end0
  exact⟨rfl,_,_,HH.out.2.1,HH.out.2.2⟩
 ·have hh:Maps.has D (.string l)=false:=by rw[(h.dict l).1];simpa using hm
  have ⟨i0,hi,hz0,hz1,hz2⟩:=info_parts (show (Tryz.prog.info? 9).map (fun i=>(i.zero,i.size,i.bytes))=some (some (.string ⟨#[]⟩),1,16) by kernel_rfl);have hdict:=nR h.map.isMap h.dict hm;have HX:=af h;clear h;go_enter Tryz.func169,Tryz.ntmps169
  have g0:=aj c0;have g1:=aj c1;go_wp2_with (at_lookup;refine wpList_lookup_own_ok _ rfl _ _ 171 rfl 9 3 (string_keyed Tryz.underlying9) Tryz.underlying171 ju (z:=.int .i64 0) (by kernel_rfl) (.lit (.int .i64 0)) [] rfl m K.length D rfl HM.out _ _ rfl hkey ?_;intro x ps hx;rw[hh];clear hx)
  refine l6 ?_;iterate 9 (refine bJ fun K hK=>?_;go_big_quiet_step (fail);refine hK _ ?_;clear hK K)
  (refine nw (v:=.int .i64 (K.length:Int)) (fun _ _=>by go_simp) fun K hK=>?_;go_big_quiet_step (fail);refine hK _ ?_;clear hK K);refine eR ?_;intro w0 hb0;simp only[aB];have HX0:=af (HX.out.below hb0);have HM:=af HX0.out.map;have hB0:B<=w0.heap.size:=aK hB hb0.size;have HT0:=af (show dE w w0 (NF n m (.slice sa K.length sc)) (NF n m (.slice sa K.length sc)) from dE.of_below hb0);clear hb0 HX;refine wpList_mapUpdate_own _ rfl _ _ _ 171 rfl 9 3 (string_keyed Tryz.underlying9) Tryz.underlying171 ju m K.length D rfl HM.out (by unfold maxLen;omega) _ _ _ rfl rfl hkey (.lit (.int .i64 (K.length:Int))) [] rfl ?_;intro w1 hown1 hgrow1;have hkm:ak w0 w1 (fun k=>k=m):=ak.of_grown hgrow1 fun k e=>(az e).symm;have hblk1:=HX0.out.blk.keptK hkm HX0.out.ne_nm;have hrow:=aw HX0.out.row hkm (fun b e e2=>HX0.out.ne_mk (e2▸e));have hB1:B<=w1.heap.size:=aK hB0 hkm.size;have hD2:w1.ownsMap Tryz.prog 9 ju m (K++[l]).length (D.put (.string l) (.lit (.int .i64 (K.length:Int)))):=hown1.mono (by simp);have HP:=af (fun w5 kv' (a:w5.ownsRow B 9 1 kv' (K.length+1) (sS K++[.string (bs l)])) b c=>tK (w5:=w5) (kv':=kv') (l:=l) (o:=.cells #[.string (bs l)] 9) hblk1 hrow hD2 hdict HX0.out.lo a b c);have HT:=af (show dE w0 w1 (NF n m (.slice sa K.length sc)) (NF n m (.slice sa K.length sc)) from dE.of_kept (hkm.weaken fun k e=>.inr (.inl e)));have k0:w1.cell? ⟨n,0,none⟩=some (.slice sa K.length sc):=(ag.cell hblk1 0).trans rfl;clear hD2 hown1 hgrow1 hkm hblk1 hdict g0 g1;go_wp2_with (at_builtin;refine wpList_append_own_at _ rfl _ _ 76 rfl B 9 i0 (.string ⟨#[]⟩) 1 16 Tryz.underlying76 hi hz0 hz1 hz2 rfl (by decide) _ _ _ rfl (World.ownsRow.alloc hrow _) ⟨_,0,none⟩ 1 1 [.string (bs l)] rfl rfl (cell_one_new _ _ _) (by simp[Value.oneCell']) (by unfold maxLen;omega) (by omega) (by simp;omega) ?_;intro v' w5 hown' hgrow hnil hloc;have HH:=af (HP.out w5 v' hown' hgrow hloc);obtain⟨sa',sc',rfl⟩:=aH hown';have d0:w5.cell? ⟨n,0,none⟩=some _:=(ag.cell HH.out.1 0).trans rfl;have f0:=ag.frozen HH.out.1 0;clear hown' hgrow hnil hloc HP hrow HM)
  go_end0
  exact⟨rfl,_,_,HH.out.2.1,HT0.out.trans (HT.out.trans HH.out.2.2)⟩
end
def jC(w:World)(v:Value)(K:List (List UInt8)):Prop:=
 ∃a c,v=.slice a K.length c/\K.length<=1048576/\∀(i:Nat) x,K[i]?=some x->x.length<=1048576/\∃b o,a=some ⟨b,o,none⟩/\w.cell? ⟨b,o+i,none⟩=some (.string (bs x))
theorem jC.below{w w':World}{v:Value}{K:List (List UInt8)}(h:jC w v K)(hb:Below w.heap.size w w'):jC w' v K:=by
 obtain⟨a,c,h1,h2,h3⟩:=h;refine⟨a,c,h1,h2,fun i x hx=>?_⟩;obtain⟨h4,b,o,h6,h7⟩:=h3 i x hx;exact⟨h4,b,o,h6,cu hb h7⟩
theorem nP{w:World}{B:Nat}{v:Value}{K:List (List UInt8)}(h:w.ownsRow B 9 1 v K.length (sS K))(hn:K.length<=1048576)(hl:∀x∈K,x.length<=1048576):jC w v K:=by
 have hcells:∀g,v.ownBlock=some g->∀j u,(sS K)[j]?=some u->w.cell? ((⟨g,0,none⟩:Addr).add j)=some u:=fun g hg=>h.cells (g:=g) hg;rcases h.2 with⟨e,e0⟩|⟨g,cap,cur,e,e1,e2,e3⟩
 ·refine⟨none,0,by rw[e,e0],hn,fun i x hx=>?_⟩;rw[List.length_eq_zero_iff.1 e0] at hx;simp at hx
 ·refine⟨some ⟨g,0,none⟩,cap,e,hn,fun i x hx=>?_⟩;refine⟨hl x (List.mem_of_getElem? hx),g,0,rfl,?_⟩;have:=hcells g (by rw[e];rfl) i (.string (bs x)) (by unfold sS;rw[List.getElem?_map,hx];rfl);rw[eY] at this;rw[Nat.zero_add];exact this
theorem nQ:kw (.map []) []:=fun l=>⟨by simp[Maps.has],fun h=>by cases h⟩
theorem GM(g:Int)(kv:Value)(K:List (List UInt8))(w:World)(h:jC w kv K):
 Calls Tryz.prog 105 #[eo g kv] w fun e w'=>∃n m kv' D,e=.returned (.pointer (some ⟨n,0,none⟩))/\aZ w' w.heap.size n K kv' m D/\Below w.heap.size w w':=by
 have hmm:=@run_makeMap Tryz.prog
 obtain⟨a,c,rfl,hn,hc⟩:=h
 have HC:=af hc
 clear hc
 rw[show eo g (.slice a K.length c)=.agg #[.int .i64 g,.slice a K.length c] from rfl]
 have e0:Below w.heap.size w (((w.alloc (.cells #[.int .i64 g,.slice a K.length c] 78)).alloc (.map #[] 0)).alloc (.cells #[.slice none 0 0,.map (some (w.heap.size+1))] 173)):=(((Below.refl _ w).alloc (aF _) _).alloc (by simp) _).alloc (by simp;omega) _
 have m0:((w.alloc (.cells #[.int .i64 g,.slice a K.length c] 78)).alloc (.map #[] 0)).ownsMap Tryz.prog 9 ju (w.heap.size+1) 0 (.map []):=by
  have:=World.ownsMap_made (w.alloc (.cells #[.int .i64 g,.slice a K.length c] 78)) Tryz.prog 9 ju;rwa[aW] at this
 have n0:aZ (((w.alloc (.cells #[.int .i64 g,.slice a K.length c] 78)).alloc (.map #[] 0)).alloc (.cells #[.slice none 0 0,.map (some (w.heap.size+1))] 173)) w.heap.size (w.heap.size+1+1) [] (.slice none 0 0) (w.heap.size+1) (.map []):=by
  refine⟨?_,eE,World.ownsMap.alloc m0 _,nQ,by omega,by omega⟩;have:=ag.new ((w.alloc (.cells #[.int .i64 g,.slice a K.length c] 78)).alloc (.map #[] 0)) 173 #[.slice none 0 0,.map (some (w.heap.size+1))];rwa[aW,aW] at this
 clear m0
 go_enter Tryz.func105,Tryz.ntmps105
 go_wp2
 go_loopw [12] (fun vi wr=>∃(i:Nat) (kv':Value) (D:DataW Unit),i<=K.length/\vi=.int .i64 (i:Int)/\aZ wr w.heap.size (w.heap.size+1+1) (K.take i) kv' (w.heap.size+1) D/\Below w.heap.size w wr) (fun vi _=>K.length-(intOf vi).toNat)
 case atStart=>exact⟨0,_,_,Nat.zero_le _,rfl,n0,e0⟩
 clear n0 e0
 obtain⟨i,kv',D,hi,rfl,hN,hb⟩:=hrel
 rcases(show i<K.length\/i=K.length by omega) with hil|rfl
 ·have HT:=af (show K.take i++[K[i]]=K.take (i+1) from(eM hil).symm);obtain⟨hx1,b,o,rfl,d0⟩:=HC.out i _ (aV hil);have e0:=hb.cell (World.block_lt_of_cell? _ _ d0);rw[d0] at e0;have q:=af (DM K[i] hN hx1 (by rw[dp];omega) hb.size);rw[HT.out] at q;clear d0 HT;generalize K[i]=x at*;go_wp2_with fail
  refine q.out.mono ?_;rintro e w1 ⟨rfl,kv2,D2,hN2,hT⟩;go_wp2_with fail
  go_roundw
  case rel=>exact⟨i+1,kv2,D2,by omega,by go_num,hN2,hb.trans (hT.kept.below hb.size hN.ge)⟩
  case measure=>simp[intOf];omega
 ·rw[List.take_length] at hN;go_wp2_with fail
  go_ret;exact⟨_,_,_,_,rfl,hN,hb⟩
def cl(K:List (List UInt8))(L:List Lb):List UInt8×List (List UInt8):=
 if de L∈K then(Num.small (K.idxOf (de L)),K) else(Num.small K.length++Num.text (de L),K++[de L])
section
variable {w w':World} {B n m:Nat} {K:List (List UInt8)} {kv:Value} {D:DataW Unit}
theorem Dl(L:List Lb)(v:Value)(h:aZ w B n K kv m D)(hL:aC w v L)(hl:(de L).length<=1048576)(hK:K.length<=1048576)(hB:B<=w.heap.size):
 Calls Tryz.prog 396 #[.pointer (some ⟨n,0,none⟩),v] w fun e w'=>e=.returned (.string (bs (cl K L).1))/\∃kv' D',aZ w' B n (cl K L).2 kv' m D'/\dE w w' (NF n m kv) (NF n m kv'):=by
 have q1:=af (pz L v w hL)
 obtain⟨va,vc,rfl,_⟩:=hL
 have hP:cl K L=if de L∈K then(Num.small (K.idxOf (de L)),K) else(Num.small K.length++Num.text (de L),K++[de L]):=rfl
 generalize de L=l at*
 have hkey:keyOf Tryz.prog 9 (.string (bs l))=some (.string l):=keyOf_string_mk Tryz.underlying9 (by rw[aq];unfold maxLen;omega)
 by_cases hm:l∈K
 ·rw[if_pos hm] at hP;rw[hP];have hh:Maps.has D (.string l)=true:=by rw[(h.dict l).1];simpa using hm
  have hat:=(h.dict l).2 hm (.lit (.int .i64 0));have hix:K.idxOf l<K.length:=List.idxOf_lt_length_of_mem hm;clear hP;generalize K.idxOf l=j at*;go_enter Tryz.func396,Tryz.ntmps396
  go_wp2_with fail
  refine bL q1.out fun w1 hb1=>?_;have hN1:=h.below hb1;have hT1:dE w w1 (NF n m kv) (NF n m kv):=dE.of_below hb1;have hB1:B<=w1.heap.size:=aK hB hb1.size;clear q1 hb1 h;obtain⟨sa,sc,rfl⟩:=hN1.form;have c0:w1.cell? ⟨n,0,none⟩=some (.slice sa K.length sc):=(ag.cell hN1.blk 0).trans rfl;have c1:w1.cell? ⟨n,1,none⟩=some (.map (some m)):=(ag.cell hN1.blk 1).trans rfl;have HM:=af hN1.map;have q2:=af (fun W=>aT (j:Int) W (by omega) (by omega));rw[show ((j:Int).toNat)=j from rfl] at q2;have hw:IntKind.u64.wrap (j:Int)=j:=by simp[IntKind.wrap,IntKind.bits,IntKind.signed];omega
  have HN:=af hN1;have HT:=af hT1;clear hN1 hT1;go_wp2_with (at_lookup;refine wpList_lookup_own_ok _ rfl _ _ 171 rfl 9 3 (string_keyed Tryz.underlying9) Tryz.underlying171 ju (z:=.int .i64 0) (by kernel_rfl) (.lit (.int .i64 0)) [] rfl m K.length D rfl HM.out _ _ rfl hkey ?_;intro x ps hx;rw[hat] at hx;obtain rfl:=zV hx;clear hx;rw[hh])
  clear hat hh;go_wp2_with fail
  refine(q2.out _).mono ?_;rintro e w2 ⟨rfl,hb2⟩;go_wp2_with fail
  go_ret;exact⟨rfl,_,_,HN.out.below hb2,HT.out.trans (dE.of_below hb2)⟩
 ·rw[if_neg hm] at hP;rw[hP];go_enter Tryz.func396,Tryz.ntmps396
  go_wp2_with fail
  refine bL q1.out fun w1 hb1=>?_;have hN1:=h.below hb1;have hT1:dE w w1 (NF n m kv) (NF n m kv):=dE.of_below hb1;have hB1:B<=w1.heap.size:=aK hB hb1.size;clear q1 hb1 h;obtain⟨sa,sc,rfl⟩:=hN1.form;have c0:w1.cell? ⟨n,0,none⟩=some (.slice sa K.length sc):=(ag.cell hN1.blk 0).trans rfl;have c1:w1.cell? ⟨n,1,none⟩=some (.map (some m)):=(ag.cell hN1.blk 1).trans rfl;have HM:=af hN1.map;have hh:Maps.has D (.string l)=false:=by rw[(hN1.dict l).1];simpa using hm
  have q2:=af (fun W=>aT (K.length:Int) W (by omega) (by omega));rw[show ((K.length:Int).toNat)=K.length from rfl] at q2;have q3:=af (fun W=>ee l W (by omega));have z1:=Num.small_len K.length;have z2:(Num.text l).length<=2000000:=by rw[Num.text_len];have:=Num.small_len l.length;omega
  have hadd:∀W,(Op.stringOp .add (bs (Num.small K.length)) (bs (Num.text l))).run Tryz.prog W=.ok (.string (bs (Num.small K.length++Num.text l))) W:=fun W=>aJ (P:=Tryz.prog) _ _ (by omega) W;have qA:=af (fun W (hb:Below w1.heap.size w1 W)=>DM l (hN1.below hb) hl hK (aK hB1 hb.size));have HT:=af hT1;generalize hr:Num.small K.length++Num.text l=r at*;clear hP hT1 hN1 hm z1 z2;have hw:IntKind.u64.wrap (K.length:Int)=K.length:=by simp[IntKind.wrap,IntKind.bits,IntKind.signed];omega
  have g0:=aj c0;go_wp2_with (at_lookup;refine wpList_lookup_own_ok _ rfl _ _ 171 rfl 9 3 (string_keyed Tryz.underlying9) Tryz.underlying171 ju (z:=.int .i64 0) (by kernel_rfl) (.lit (.int .i64 0)) [] rfl m K.length D rfl HM.out _ _ rfl hkey ?_;intro x ps hx;rw[hh];clear hx)
  refine(q2.out _).mono ?_;rintro e w2 ⟨rfl,hb2⟩;go_wp2_with fail
  refine(q3.out _).mono ?_;rintro e w3 ⟨rfl,hb3⟩;have hb:=ay hb2 hb3;have HT2:=af (HT.out.trans (dE.of_below hb));have qA2:=af (qA.out _ hb);clear hb hb2 hb3 qA HT q2 q3;go_wp2_with fail
  refine qA2.out.mono ?_;rintro e w4 ⟨rfl,kv2,D2,hN2,hT2⟩;go_wp2_with fail
  go_ret;exact⟨by subst hr;rfl,_,_,hN2,HT2.out.trans hT2⟩
end
abbrev CS:=List UInt8×Bool
def sV (c:CS):Int:=if c.2 then 0 else oZ (Num.getSmall c.1)
def sN (c:CS):CS:=Num.nxt c (Num.getSmall c.1)
def wV (c:CS):Int:=if c.2 then 0 else oZ (Num.getWide c.1)
def wN (c:CS):CS:=Num.nxt c (Num.getWide c.1)
theorem Mc(g:Nat)(c:CS)(w:World)(hB:gz w g c.1 c.2)(hs:c.1.length<=1099511627776):
 Calls Tryz.prog 142 #[.pointer (some ⟨g,0,none⟩)] w fun e w'=>e=.returned (.int .u64 (sV c))/\gz w' g (sN c).1 (sN c).2/\w.grownBy w' (some g):=Db g c.1 c.2 w hB hs
theorem LA(g:Nat)(c:CS)(w:World)(hB:gz w g c.1 c.2)(hs:c.1.length<=1099511627776):
 Calls Tryz.prog 141 #[.pointer (some ⟨g,0,none⟩)] w fun e w'=>e=.returned (.int .u64 (wV c))/\gz w' g (wN c).1 (wN c).2/\w.grownBy w' (some g):=Kl g c.1 c.2 w hB hs
theorem eu{α:Type}(c:CS)(g:Option (α×Nat)):(Num.nxt c g).1.length<=c.1.length:=by
 unfold Num.nxt;split
 ·exact aF _
 ·cases g with
  |none=>exact aF _
  |some x=>simp
def jo(K:List (List UInt8))(c:CS):Option (List Lb×List (List UInt8))×CS:=
 if (sN c).2=true\/(K.length:Int)<sV c then(none,sN c)
 else if sV c<(K.length:Int) then
  ((Lx (K.getD (sV c).toNat [])).bind fun L=>if K.idxOf (K.getD (sV c).toNat [])=(sV c).toNat then some (L,K) else none,sN c)
 else if (nT (sN c) 600).2=true\/tT (sN c) 600∈K then(none,nT (sN c) 600)
 else((Lx (tT (sN c) 600)).map fun L=>(L,K++[tT (sN c) 600]),nT (sN c) 600)
section
variable {w w':World} {B n m gc:Nat} {K:List (List UInt8)} {kv:Value} {D:DataW Unit}
end
end
section
open Go.RowKit
theorem vS{R:World->World->Prop}{P:Program}{ops:Array Oper}{w0:World}{n:Nat}{ds:List Deferred}{F:Act->World->Prop}{rest:List Oper}{H:List (Tmp×bn)}{a:Act}{o:Oper}[bE R](d e:Tmp){r:bn}
 (hop:o.op=.assign (.tmp d)\/o.op=.move (.tmp d)) (hgd:o.guard=none) (hh:cw H d=some r) (hk:r.keeps R) (hd:o.dst=some e)
 (h:bQ R P ops w0 n ds F rest ((e,r)::H) a):bQ R P ops w0 n ds F (o::rest) H a:=by
 refine oU hk (fun c w hR hf=>.inr ⟨?_,fun K Q' hK=>?_⟩) hd h
 ·unfold Region.wanted;rw[hgd]
 ·have h1:=hf d (by rcases hop with e|e<;>simp[Oper.looksAt,e,hgd,Op.operands]);unfold em at h1;rw[hh] at h1;unfold Oper.wp execOp;rcases hop with e|e<;>rw[e]<;>exact hK _ _ (bE.refl w) h1
theorem tI{w0:World}{n:Nat}{news:List Value}:(eZ w0 n news).keeps co:=by
 rintro x W W' ⟨p,c,rfl,hp,hc⟩ hR;exact⟨p,c,rfl,hp,fun j u hu=>(Below.cell hR (World.block_lt_of_cell? _ _ (hc j u hu))).trans (hc j u hu)⟩
theorem js{P:Program}{ops:Array Oper}{w0:World}{n:Nat}{ds:List Deferred}{F:Act->World->Prop}{rest:List Oper}{H:List (Tmp×bn)}{a:Act}{o:Oper}(d mm:Nat)(news:List Value)
 (hw:Region.wanted o (yielded ops a.tmps)=true) (hns:∀cs b,o.op≠.select cs b) (hl:bi ops H o=true) (hd:o.dst=some d) (E:TypeId)
 (hr:∀w,(execOp a.eval o).run P w=.ok (.value (.slice (some ⟨w.heap.size,0,none⟩) mm mm)) (w.alloc (.cells news.toArray E)))
 (h:bQ co P ops w0 n ds F rest ((d,eZ w0 mm news)::H) a):bQ co P ops w0 n ds F (o::rest) H a:=by
 refine kJ tI hw hns hl hd (fun w hW=>⟨_,_,hr w,ai w _,w.heap.size,mm,rfl,hW.size,fun j u hu=>?_⟩) h
 rw[eY,World.cell?_alloc_new]
 simpa using hu
def uv(w0:World)(g:Nat)(cs:List CS)(c0:CS)(h0:cs[0]?=some c0)(hC:gz w0 g c0.1 c0.2):fK where
 ph q w:=ak w0 w (fun k=>k=g)/\∃c,cs[q]?=some c/\gz w g c.1 c.2
 K a b:=ak a b (fun k=>k=g)
 w0:=w0
 start:=⟨ak.refl _ _,c0,h0,hC⟩
 refl w:=ak.refl w _
 trans h k:=h.trans k
 grow h:=ak.of_below h
 stay h k:=⟨h.1.trans (ak.of_below k),by obtain⟨c,h1,h2⟩:=h.2;exact⟨c,h1,ag.below h2 k h2.lt⟩⟩
theorem mV{P:Program}{f:FuncId}{args:Array Value}{w0 w:World}{g q:Nat}{cs:List CS}{c0 c c':CS}{h0:cs[0]?=some c0}{hC:gz w0 g c0.1 c0.2}{v:Value}(hw:(uv w0 g cs c0 h0 hC).ph q w)(hc:cs[q]?=some c)(hc':cs[q+1]?=some c')
 (h:gz w g c.1 c.2->Calls P f args w fun e w'=>e=.returned v/\gz w' g c'.1 c'.2/\w.grownBy w' (some g)):
 Calls P f args w fun e w'=>e=.returned v/\(uv w0 g cs c0 h0 hC).K w w'/\(uv w0 g cs c0 h0 hC).ph (q+1) w':=by
 obtain⟨h1,c2,h2,h3⟩:=hw
 obtain rfl:c2=c:=by rw[hc] at h2;exact(az h2).symm
 refine(h h3).mono ?_
 rintro e w' ⟨rfl,h4,h5⟩
 have hk:ak w w' (fun k=>k=g):=ak.of_grown h5 fun k e=>(az e).symm
 exact⟨rfl,hk,h1.trans hk,c',hc',h4⟩
theorem i8{S:fK}{ch:List Nat}{P:Program}{ops:Array Oper}{n k:Nat}{ds:List Deferred}{F:Act->World->Prop}{rest:List Oper}{H:List (Tmp×bn)}{a:Act}{o:Oper}(q:Nat)(hi:ch.contains k=true)(hq:ch.idxOf k=q)(hgd:o.guard=none)(hns:∀cs b,o.op≠.select cs b)(hl:bi ops H o=true)(hd:o.dst=none)
 (hr:∀w,S.ph q w->∃w',(execOp a.eval o).run P w=.ok .skip w'/\S.K w w'/\S.ph (q+1) w')
 (h:bS S ch P ops n ds F (k+1) rest H a):bS S ch P ops n ds F k (o::rest) H a:=by
 refine⟨fun _ _=>True,fun _ _ _ _ _=>trivial,LK hi hq fun c w hb hs=>⟨by unfold Region.wanted;rw[hgd],fun K Q' hK=>?_⟩,?_⟩
 ·have he:=cr hl hs;obtain⟨w',h1,h2,h3⟩:=hr w hb;unfold Oper.wp;rw[bO hns he,h1];exact hK _ _ h2 h3 trivial
 ·have:(fun t=>if o.dst=some t then(fun _ _=>True:bn) else em H a t)=em H a:=by
   funext t;rw[hd];simp
  rw[this];exact h
def SR (g:Nat)(vl:Value):Nat->Prop:=fun k=>k=g\/vl.ownBlock=some k
def mf(w0:World)(g:Nat)(cs:List CS)(c0:CS)(h0:cs[0]?=some c0)(hC:gz w0 g c0.1 c0.2)(vl:Value)(fin:Option Obj)(m:Nat)(hlt:∀k,vl.ownBlock=some k->k<w0.heap.size):fK where
 ph q w:=ak w0 w (SR g vl)/\(∃c,cs[q]?=some c/\gz w g c.1 c.2)/\∀k,vl.ownBlock=some k->(q<=m->w.heap[k]?=w0.heap[k]?)
 K a b:=ak a b (SR g vl)/\∀k,vl.ownBlock=some k->k<a.heap.size->b.heap[k]?=a.heap[k]?\/b.heap[k]?=fin
 w0:=w0
 start:=⟨ak.refl _ _,⟨c0,h0,hC⟩,fun _ _ _=>rfl⟩
 refl w:=⟨ak.refl w _,fun _ _ _=>.inl rfl⟩
 trans h k:=⟨h.1.trans k.1,fun i hi hl=>by
  rcases k.2 i hi (dQ hl h.1.size) with e|e
  ·rw[e];exact h.2 i hi hl
  ·exact .inr e⟩
 grow h:=⟨ak.of_below h,fun k _ hl=>.inl (h.block k hl)⟩
 stay h k:=⟨h.1.trans (ak.of_below k),(by obtain⟨c,h1,h2⟩:=h.2.1;exact⟨c,h1,ag.below h2 k h2.lt⟩),fun i hi hq=>(k.block i (dQ (hlt i hi) h.1.size)).trans (h.2.2 i hi hq)⟩
section
variable {P:Program} {w0:World} {g:Nat} {cs:List CS} {c0:CS} {h0:cs[0]?=some c0} {hC:gz w0 g c0.1 c0.2} {vl:Value} {fin:Option Obj} {m:Nat} {hlt:∀k,vl.ownBlock=some k->k<w0.heap.size}
theorem vJ{f:FuncId}{args:Array Value}{w:World}{q:Nat}{c c':CS}{v:Value}(hg:vl.ownBlock≠some g)(hw:(mf w0 g cs c0 h0 hC vl fin m hlt).ph q w)(hc:cs[q]?=some c)(hc':cs[q+1]?=some c')(hq:q+1<=m)
 (h:gz w g c.1 c.2->Calls P f args w fun e w'=>e=.returned v/\gz w' g c'.1 c'.2/\w.grownBy w' (some g)):
 Calls P f args w fun e w'=>e=.returned v/\(mf w0 g cs c0 h0 hC vl fin m hlt).K w w'/\(mf w0 g cs c0 h0 hC vl fin m hlt).ph (q+1) w':=by
 obtain⟨h1,⟨c2,h2,h3⟩,h6⟩:=hw
 obtain rfl:c2=c:=by rw[hc] at h2;exact(az h2).symm
 refine(h h3).mono ?_
 rintro e w' ⟨rfl,h4,h5⟩
 have hk:ak w w' (SR g vl):=ak.of_grown h5 fun k e=>.inl (az e).symm
 have hr:∀k,vl.ownBlock=some k->k<w.heap.size->w'.heap[k]?=w.heap[k]?:=fun k hk hl=>h5.block k hl (fun e=>hg (hk.trans e))
 exact⟨rfl,⟨hk,fun k hk hl=>.inl (hr k hk hl)⟩,h1.trans hk,⟨c',hc',h4⟩,fun k hk _=>(hr k hk (dQ (hlt k hk) h1.size)).trans (h6 k hk (by omega))⟩
theorem BP{n:Nat}{news:List Value}:(eZ w0 n news).keeps (mf w0 g cs c0 h0 hC vl fin m hlt).K:=by
 rintro x W W' ⟨p,c,rfl,hp,hc⟩ hR;exact⟨p,c,rfl,hp,fun j u hu=>ak.cell hR.1 (hc j u hu) fun e=>by
  rw[qi] at e
  rcases e with e|e
  ·have:=hC.lt
   simp only at e
   omega
  ·have:=hlt p e
   omega⟩
theorem CU{B:Nat}{e:TypeId}{size n:Nat}{xs:List Value}:(lG w0 B e size vl.ownBlock fin n xs).keeps (mf w0 g cs c0 h0 hC vl fin m hlt).K:=by
 rintro v W W' ⟨h1,h2⟩ hR;rcases h2 with⟨h2,h3⟩|⟨k,h2,h3⟩
 ·have hs:∀k,vl.ownBlock=some k->W'.heap[k]?=W.heap[k]?:=fun k hk=>by
   rcases hR.2 k hk (jM h1 (h2.trans hk)) with e|e
   ·exact e
   ·rw[e,h3 k hk]
  exact⟨gM h1 fun k hk=>hs k (h2▸hk),.inl ⟨h2,fun k hk=>(hs k hk).trans (h3 k hk)⟩⟩
 ·exact⟨gM h1 fun i hi=>hR.1.block i (jM h1 hi) fun e=>by
   rw[h2] at hi
   obtain rfl:=az hi
   rcases e with e|e
   ·have:=hC.lt;omega
   ·have:=hlt _ e;omega,.inr ⟨k,h2,h3⟩⟩
theorem BV{ch:List Nat}{ops:Array Oper}{n k:Nat}{ds:List Deferred}{F:Act->World->Prop}{rest:List Oper}{H:List (Tmp×bn)}{a:Act}{o:Oper}{d:Tmp}{mm:Nat}{news:List Value}
 (hi:ch.contains k=false) (hw:Region.wanted o (yielded ops a.tmps)=true) (hns:∀cs b,o.op≠.select cs b) (hl:bi ops H o=true) (hd:o.dst=some d) (E:TypeId)
 (hr:∀w,(execOp a.eval o).run P w=.ok (.value (.slice (some ⟨w.heap.size,0,none⟩) mm mm)) (w.alloc (.cells news.toArray E)))
 (h:bS (mf w0 g cs c0 h0 hC vl fin m hlt) ch P ops n ds F (k+1) rest ((d,eZ w0 mm news)::H) a):bS (mf w0 g cs c0 h0 hC vl fin m hlt) ch P ops n ds F k (o::rest) H a:=by
 refine pO hi BP hw hns hl hd (fun w hW=>⟨_,_,hr w,ai w _,w.heap.size,mm,rfl,?_,fun j u hu=>?_⟩) h
 ·obtain⟨q,hk,_⟩:=hW;exact hk.size
 ·rw[eY,World.cell?_alloc_new];simpa using hu
theorem Hc{ch:List Nat}{ops:Array Oper}{nn k:Nat}{ds:List Deferred}{F:Act->World->Prop}{rest:List Oper}{H:List (Tmp×bn)}{a:Act}{o:Oper}{s x d:Tmp}{t e:TypeId}{i:TypeInfo}{z:Value}{size bytes B n mm:Nat}{xs news:List Value}{c:CS}
 (hfin:fin=bj w0 vl size n news) (hi:ch.contains k=true) (hq:ch.idxOf k=m) (hgd:o.guard=none) (ho:o.op=.call {callee:=.builtin .append,args:=#[.tmp s,.tmp x],argTypes:=#[t,t]}) (hd:o.dst=some d)
 (ht:P.underlying t=some (.slice e)) (hin:P.info? e=some i) (hz:i.zero=some z) (hsize:i.size=size) (hby:i.bytes=bytes) (hzs:z.cells.size=size) (hsz:0<size)
 (hsn:cw H s=none) (hs:a.eval (.tmp s)=vl) (hx:cw H x=some (eZ w0 mm news)) (hown:w0.ownsRow B e size vl n xs) (hl:news.length=mm*size)
 (h1:∀u∈news,u.oneCell'=true) (h63:n+mm<=maxLen) (hbytes:(n+mm)*bytes<=140737488355328) (hbase:B<=w0.heap.size) (hg:vl.ownBlock≠some g) (hc:cs[m]?=some c) (hc':cs[m+1]?=some c)
 (h:bS (mf w0 g cs c0 h0 hC vl fin m hlt) ch P ops nn ds F (k+1) rest ((d,lG w0 B e size vl.ownBlock fin (n+mm) (xs++news))::H) a):
 bS (mf w0 g cs c0 h0 hC vl fin m hlt) ch P ops nn ds F k (o::rest) H a:=by
 refine pN m hi hq CU (fun cc w hW hf=>⟨?_,fun K Q' hK=>?_⟩) hd h
 ·unfold Region.wanted;rw[hgd]
 ·have hes:=hf s (by simp[Oper.looksAt,ho,hgd,Op.operands,Call.operands]);have hex:=hf x (by simp[Oper.looksAt,ho,hgd,Op.operands,Call.operands]);unfold em at hes hex;rw[hsn] at hes;rw[hx] at hex;obtain⟨p,c',hex,hp,hcl⟩:=hex;simp only at hes;obtain⟨hk,⟨c2,hc2,hC2⟩,hrow⟩:=hW;obtain rfl:c2=c:=by rw[hc] at hc2;exact(az hc2).symm
  have hrow':∀k,vl.ownBlock=some k->w.heap[k]?=w0.heap[k]?:=fun k hk=>hrow k hk (aF _);have hownw:w.ownsRow B e size vl n xs:=gM hown hrow';have hap:bj w vl size n news=fin:=by
   rw[hfin];unfold bj;cases vl with
   |slice av al ac=>
    cases av with
    |none=>rfl
    |some ad=>
     simp only;rw[hrow' ad.block rfl]
   |_=>rfl
  obtain⟨v',w',hr,h2,h3⟩:=jl (P:=P) t o.type e i z size bytes ht hin hz hsize hby hzs hsz B w w vl n xs hownw mm c' ⟨p,0,none⟩ news hl hcl h1 h63 hbytes (aK hbase hk.size) (bE.refl w);rw[hap] at h2 h3;have hk2:ak w w' (SR g vl):=ak.of_grown h2.1 fun k e=>.inr e;unfold Oper.wp execOp;simp only[ho,resolve,invoke,builtin,Sem.run_bind,Sem.run_pure,Result.andThen_ok,List.map_toArray,List.map_cons,List.map_nil,hes,hs,hex,hr];refine hK _ _ ⟨hk2,fun k hk _=>h2.2 k hk⟩ ⟨hk.trans hk2,⟨c2,hc',ag.grown hC2 h2.1 (fun e=>hg e.symm)⟩,fun k _ hq=>by omega⟩ ?_;refine⟨h3.1,h3.2.imp id fun ⟨k,e1,e2⟩=>⟨k,e1,aK hk.size e2⟩⟩
end
end
section
open Go.RowKit
attribute [local go_sem] am aq
theorem LM{W:World}{b:Nat}{T:TypeId}{u0 u1 u2 u3 u4:Value}(h:ag W b T #[u0,u1,u2,u3,u4])(v0 v1 v2 v3 v4:Value):
 ag (((((W.setCell ⟨b,0,none⟩ v0).setCell ⟨b,1,none⟩ v1).setCell ⟨b,2,none⟩ v2).setCell ⟨b,3,none⟩ v3).setCell ⟨b,4,none⟩ v4) b T #[v0,v1,v2,v3,v4]/\
  ak W (((((W.setCell ⟨b,0,none⟩ v0).setCell ⟨b,1,none⟩ v1).setCell ⟨b,2,none⟩ v2).setCell ⟨b,3,none⟩ v3).setCell ⟨b,4,none⟩ v4) (fun k=>k=b):=
 ⟨ag.set_ (ag.set_ (ag.set_ (ag.set_ (ag.set_ h 0 v0) 1 v1) 2 v2) 3 v3) 4 v4,
  ak.of_grown (bl (bl (bl (bl (ap _ _ _ _) (ap _ _ _ _)) (ap _ _ _ _)) (ap _ _ _ _)) (ap _ _ _ _)) fun _ e=>(az e).symm⟩
def dC (n:Nat):Int:=if n<9223372036854775808 then n else(n:Int)-18446744073709551616
theorem vW(n:Nat)(h:n<18446744073709551616):IntKind.i64.wrap (n:Int)=dC n:=by
 unfold dC;simp[IntKind.wrap,IntKind.bits,IntKind.signed];split<;>split<;>omega
theorem DA(n:Nat)(h:n<18446744073709551616): -9223372036854775808<=dC n/\dC n<=9223372036854775807:=by unfold dC;split<;>omega
def fT (c:CS):List UInt8:=if c.2 then[] else gR (Num.getFixed c.1 12)
def fN (c:CS):CS:=Num.nxt c (Num.getFixed c.1 12)
theorem CF(g:Nat)(c:CS)(w:World)(hB:gz w g c.1 c.2)(hs:c.1.length<=1099511627776):
 Calls Tryz.prog 282 #[.pointer (some ⟨g,0,none⟩),.int .i64 12] w fun e w'=>e=.returned (.string (bs (fT c)))/\gz w' g (fN c).1 (fN c).2/\w.grownBy w' (some g):=KX g c.1 c.2 12 w hB hs (by omega) (by omega)
theorem H8(c:CS)(h:c.1.length<=1048576):(fT c).length<=1048576:=by
 unfold fT;split
 ·simp
 ·cases hf:Num.getFixed c.1 12 with
  |none=>simp[gR]
  |some x=>
   obtain⟨t,j⟩:=x;have:=congrArg List.length (Num.getFixed_only _ _ _ _ hf);unfold Num.getFixed at hf;split at hf
   ·cases hf
   ·split at hf
    ·cases hf
    ·obtain⟨rfl,rfl⟩:=Prod.mk.inj (az hf);simp only[gR,dp];omega
def fP:Nat->CS->List Lb×CS
 |0,c=>([],c)
 |n+1,c=>let r:=fP n (fN (fN c));((fT c,fT (fN c))::r.1,r.2)
def jZ(s:List UInt8):Rc×CS:=
 let X:=(s.drop 1).take 185
 let r:=fP (min (X.getD 24 0).toNat 6) (X.drop 25,false)
 (⟨((s.getD 0 0).toNat:Nat),r.1,dC (Num.unw (X.take 8)),dC (Num.unw ((X.drop 8).take 8)),Num.unw ((X.drop 16).take 8)⟩,r.2)
def aU(Z:List (Rc×Value)):List Value:=Z.flatMap fun z=>gq z.1 z.2
def IL(w:World)(v:Value)(Z:List (Rc×Value)):Prop:=
 (∃p c,v=.slice (some ⟨p,0,none⟩) Z.length c/\∀j u,(aU Z)[j]?=some u->w.cell? ((⟨p,0,none⟩:Addr).add j)=some u)/\∀z∈Z,z.1.ok/\cT w z.2 z.1.labels
def fY(s:List UInt8):Option Rc×Int:=
 if s.length<186 then(none,1)
 else if (jZ s).2.2=true\/dI (jZ s).1 1≠0\/oP (jZ s).1≠s.take 186 then(none,2)
 else(some (jZ s).1,0)
def rN(s:List UInt8)(e:Ending)(w':World):Prop:=match (fY s).1 with
 |none=>e=.returned (.tuple #[.slice none 0 0,.string (bs s),.int .i64 (fY s).2])
 |some x=>∃v sl,e=.returned (.tuple #[v,.string (bs (s.drop 186)),.int .i64 0])/\IL w' v [(x,sl)]
theorem vr(s:List UInt8)(w:World)(hl:s.length<=1000000):
 Calls Tryz.prog 398 #[.agg #[],.string (bs s)] w fun e w'=>rN s e w'/\Below w.heap.size w w':=by
 by_cases h1:s.length<186
 ·have hG:fY s=(none,1):=by unfold fY;rw[if_pos h1]
  have HQ:=af (show ∀w',rN s (.returned (.tuple #[.slice none 0 0,.string (bs s),.int .i64 1])) w' from fun w'=>by unfold rN;rw[hG]);have hd:decide ((s.length:Int)<186)=true:=by simp;omega
  go_enter Tryz.func398,Tryz.ntmps398
  go_wp2_with fail
  go_ret3;exact⟨HQ.out _,ai w _⟩
 have hd:decide ((s.length:Int)<186)=false:=by simp;omega
 have hX:((s.drop 1).take 185).length=185:=by simp;omega
 have he1:(bs s).extract 1 186=bs ((s.drop 1).take 185):=by rw[bZ]
 have h186:(186:Int)<=(s.length:Int):=by omega
 have h0:s[0]?=some s[0]:=aV (by omega)
 have hG:fY s=if (jZ s).2.2=true\/dI (jZ s).1 1≠0\/oP (jZ s).1≠s.take 186 then(none,2) else(some (jZ s).1,0):=by unfold fY;rw[if_neg h1]
 have hidx:∀W,(Instr.index 9 (.string (bs s)) (.int .i64 0)).run Tryz.prog W=.ok (.int .u8 (s[0].toNat:Int)) W:=fun W=>cE (P:=Tryz.prog) 9 Tryz.underlying9 s 0 s[0] h0 .i64 W
 have hF:jZ s=(⟨(s[0].toNat:Nat),(fP (min (((s.drop 1).take 185).getD 24 0).toNat 6) (((s.drop 1).take 185).drop 25,false)).1,dC (Num.unw (((s.drop 1).take 185).take 8)),dC (Num.unw ((((s.drop 1).take 185).drop 8).take 8)),Num.unw ((((s.drop 1).take 185).drop 16).take 8)⟩,(fP (min (((s.drop 1).take 185).getD 24 0).toNat 6) (((s.drop 1).take 185).drop 25,false)).2):=by
  unfold jZ;rw[List.getD_eq_getElem?_getD,h0];rfl
 have hkn:=s[0].toNat_lt
 generalize s[0].toNat=kn at*
 have hw64:wrap64 (kn:Int)=kn:=by unfold wrap64;omega
 generalize hXe:(s.drop 1).take 185=X at*
 go_enter Tryz.func398,Tryz.ntmps398
 go_wp2_with fail
 have hC0:gz ((w.alloc (.cells #[] 240)).alloc (.cells #[.string (bs X),.bool false] 210)) (w.heap.size+1) X false:=by
  have:=ag.new (w.alloc (.cells #[] 240)) 210 #[.string (bs X),.bool false];rwa[aW] at this
 have hb0:Below w.heap.size w ((w.alloc (.cells #[] 240)).alloc (.cells #[.string (bs X),.bool false] 210)):=((Below.refl _ w).alloc (aF _) _).alloc (by simp) _
 have hf0:ag ((w.alloc (.cells #[] 240)).alloc (.cells #[.string (bs X),.bool false] 210)) w.heap.size 240 #[]:=(ag.new w _ _).alloc _
 generalize (w.alloc (.cells #[] 240)).alloc (.cells #[.string (bs X),.bool false] 210)=W0 at*
 have v1:Num.getWide X=some (Num.unw (X.take 8),8):=by unfold Num.getWide;rw[if_neg (by omega)]
 have v2:Num.getWide (X.drop 8)=some (Num.unw ((X.drop 8).take 8),8):=by unfold Num.getWide;rw[if_neg (by simp;omega)]
 have v3:Num.getWide (X.drop 16)=some (Num.unw ((X.drop 16).take 8),8):=by unfold Num.getWide;rw[if_neg (by simp;omega)]
 have b1:=(Num.getWide_only _ _ _ v1).1
 have b2:=(Num.getWide_only _ _ _ v2).1
 have b3:=(Num.getWide_only _ _ _ v3).1
 have k1:∀W,gz W (w.heap.size+1) X false->_:=fun W hW=>oo (w.heap.size+1) X _ 8 (X.drop 8) W hW (by omega) v1 rfl
 have k2:∀W,gz W (w.heap.size+1) (X.drop 8) false->_:=fun W hW=>oo (w.heap.size+1) (X.drop 8) _ 8 (X.drop 16) W hW (by simp;omega) v2 (by rw[List.drop_drop])
 have k3:∀W,gz W (w.heap.size+1) (X.drop 16) false->_:=fun W hW=>oo (w.heap.size+1) (X.drop 16) _ 8 (X.drop 24) W hW (by simp;omega) v3 (by rw[List.drop_drop])
 have K1:=af k1
 have K2:=af k2
 have K3:=af k3
 clear k1 k2 k3 v1 v2 v3
 generalize Num.unw (X.take 8)=n1 at*
 generalize Num.unw ((X.drop 8).take 8)=n2 at*
 generalize Num.unw ((X.drop 16).take 8)=n3 at*
 have z1:=vW n1 b1
 have z2:=vW n2 b2
 refine fu (uv W0 (w.heap.size+1) [(X,false),(X.drop 8,false),(X.drop 16,false),(X.drop 24,false)] (X,false) rfl hC0) [3,5,7] rfl (by kernel_rfl) (by kernel_rfl) rfl (by kernel_rfl) (by kernel_rfl) (by kernel_rfl) ?_
 (refine jY fun K hK=>?_;go_big_quiet_step (fail);refine hK _ ?_;clear hK K)
 (refine zM (v:=.int .u8 (kn:Int)) (by kernel_rfl) (by kernel_rfl) (fun _ _ h=>by cases h) (by kernel_rfl) (by kernel_rfl) (fun W hW=>by show (do pure (Next.value (<-Instr.index 9 (.string (bs s)) (.int .i64 0))):Sem Next).run _ W=_;rw[Sem.run_bind,hidx W];rfl) (oT (type:=0) (pos:= "") (fun K hK=>?_));go_big_quiet_step (fail);refine hK _ ?_;clear hK K)
 (refine jY fun K hK=>?_;go_big_quiet_step (fail);refine hK _ ?_;clear hK K)
 (refine AV 0 (f:=141) (args:=#[.pointer (some ⟨w.heap.size+1,0,none⟩)]) (v:=.int .u64 (n1:Int)) (fun W hW=>mV hW rfl rfl (K1.out W)) fun K hK=>?_;go_big_quiet_step (fail);refine hK _ ?_;clear hK K)
 (refine jY fun K hK=>?_;go_big_quiet_step (fail);refine hK _ ?_;clear hK K)
 (refine AV 1 (f:=141) (args:=#[.pointer (some ⟨w.heap.size+1,0,none⟩)]) (v:=.int .u64 (n2:Int)) (fun W hW=>mV hW rfl rfl (K2.out W)) fun K hK=>?_;go_big_quiet_step (fail);refine hK _ ?_;clear hK K)
 (refine jY fun K hK=>?_;go_big_quiet_step (fail);refine hK _ ?_;clear hK K)
 (refine AV 2 (f:=141) (args:=#[.pointer (some ⟨w.heap.size+1,0,none⟩)]) (v:=.int .u64 (n3:Int)) (fun W hW=>mV hW rfl rfl (K3.out W)) fun K hK=>?_;go_big_quiet_step (fail);refine hK _ ?_;clear hK K)
 (refine Lh (v:=.agg #[.int .i64 (kn:Int),.slice none 0 0,.int .i64 (dC n1),.int .i64 (dC n2),.int .u64 (n3:Int)]) (fun W hW=>by skip;go_simp) fun K hK=>?_;go_big_quiet_step (fail);refine hK _ ?_;clear hK K)
 have hgl:=hC0.lt
 refine pO (d:=8) (r:=fun x w1=>∃b,x=.pointer (some ⟨b,0,none⟩)/\W0.heap.size<=b/\ag w1 b 108 #[.int .i64 0,.slice none 0 0,.int .i64 0,.int .i64 0,.int .u64 0]) (by kernel_rfl) ?_ (by kernel_rfl) (fun _ _ h=>by cases h) (by kernel_rfl) rfl (fun W hW=>?_) ?_
 ·rintro x W W' ⟨b,rfl,hb,hB⟩ hk;exact⟨b,rfl,hb,hB.keptK hk (by omega)⟩
 ·obtain⟨q,hk,_⟩:=hW;exact⟨.pointer (some ⟨W.heap.size,0,none⟩),W.alloc (.cells #[.int .i64 0,.slice none 0 0,.int .i64 0,.int .i64 0,.int .u64 0] 108),by go_simp,ai W _,W.heap.size,rfl,hk.size,ag.new _ _ _⟩
 refine Dz ?_
 rintro W1 hK1 ⟨_,c3,hc3,hC3⟩
 obtain rfl:c3=(X.drop 24,false):=(az hc3).symm
 simp only[aB]
 rintro x ⟨b,rfl,hbb,hB⟩
 simp only[Act.put,List.setIfInBounds_toArray,List.set_cons_succ,List.set_cons_zero]
 have hb1:Below w.heap.size w W1:=hb0.trans (ak.below hK1 hb0.size (fun k hk=>by omega))
 have hf1:ag W1 w.heap.size 240 #[]:=hf0.keptK hK1 (by omega)
 have hbg:b≠w.heap.size+1:=by omega
 have hbw:w.heap.size+2<=b:=by omega
 have c0:W1.cell? ⟨b,0,none⟩=some (.int .i64 0):=(ag.cell hB 0).trans rfl
 have c1:W1.cell? ⟨b,1,none⟩=some (.slice none 0 0):=(ag.cell hB 1).trans rfl
 have c2:W1.cell? ⟨b,2,none⟩=some (.int .i64 0):=(ag.cell hB 2).trans rfl
 have c4:W1.cell? ⟨b,3,none⟩=some (.int .i64 0):=(ag.cell hB 3).trans rfl
 have c5:W1.cell? ⟨b,4,none⟩=some (.int .u64 0):=(ag.cell hB 4).trans rfl
 have f0:=ag.frozen hB 0
 have f1:=ag.frozen hB 1
 have f2:=ag.frozen hB 2
 have f3:=ag.frozen hB 3
 have f4:=ag.frozen hB 4
 clear hidx he1 K1 K2 K3 hK1 hC0 hb0 hf0 hbb hgl hc3
 go_wp2_with fail
 obtain⟨hB2,hK2⟩:=LM hB (.int .i64 (kn:Int)) (.slice none 0 0) (.int .i64 (dC n1)) (.int .i64 (dC n2)) (.int .u64 (n3:Int))
 have hC4:=ag.keptK hC3 hK2 (fun e=>hbg e.symm)
 have hf2:=hf1.keptK hK2 (fun e=>by omega)
 have hb2:=hb1.trans (ak.below hK2 hb1.size (fun k hk=>by omega))
 clear hB hC3 hf1 hb1 hK2 c0 c1 c2 c4 c5 f0 f1 f2 f3 f4
 generalize ((((W1.setCell ⟨b,0,none⟩ (.int .i64 (kn:Int))).setCell ⟨b,1,none⟩ (.slice none 0 0)).setCell ⟨b,2,none⟩ (.int .i64 (dC n1))).setCell ⟨b,3,none⟩ (.int .i64 (dC n2))).setCell ⟨b,4,none⟩ (.int .u64 (n3:Int))=W2 at*
 have hd24:X.drop 24=X.getD 24 0::X.drop 25:=by
  rw[List.getD_eq_getElem?_getD,aV (show 24<X.length by omega),List.drop_eq_getElem_cons (show 24<X.length by omega)];rfl
 have q:=af (uP (w.heap.size+1) (X.drop 24) 1 [X.getD 24 0] 1 (X.drop 25) W2 hC4 (by simp;omega) (by omega) (by omega) (by rw[hd24];exact Num.getTake_some _ 1 (by simp)) (by rw[hd24];rfl))
 have hX25:(X.drop 25).length=160:=by simp;omega
 clear hd24
 have hyn:=(X.getD 24 0).toNat_lt
 have hy0:∀W,(Instr.index 9 (.string (bs [X.getD 24 0])) (.int .i64 0)).run Tryz.prog W=.ok (.int .u8 ((X.getD 24 0).toNat:Int)) W:=fun W=>cE (P:=Tryz.prog) 9 Tryz.underlying9 [X.getD 24 0] 0 (X.getD 24 0) rfl .i64 W
 generalize X.getD 24 0=y at*
 go_wp2_with fail
 refine q.out.mono ?_
 rintro e W3 ⟨rfl,hC5,hg5⟩
 go_wp2_with fail
 have hmn:min (y.toNat:Int) 6=((min y.toNat 6:Nat):Int):=by omega
 rw[hmn]
 have hN6:min y.toNat 6<=6:=Nat.min_le_right _ _
 clear hmn hy0 hyn
 generalize min y.toNat 6=N at*
 have hk3:ak W2 W3 (fun k=>k=w.heap.size+1):=ak.of_grown hg5 fun k e=>(az e).symm
 have hB3:=hB2.keptK hk3 hbg
 have hf3:=hf2.keptK hk3 (fun e=>by omega)
 have hb3:=hb2.trans (ak.below hk3 hb2.size (fun k hk=>by omega))
 clear hk3 hg5 hB2 hf2 hb2 hC4 q
 generalize hX5:X.drop 25=X5 at*
 go_loopw [29] (fun vi wr=>∃(i:Nat) (L:List Lb) (c:CS) (vl:Value),i<=N/\vi=.int .i64 (i:Int)/\L.length=i/\(fP N (X5,false))=(L++(fP (N-i) c).1,(fP (N-i) c).2)/\
  (∀x∈L,x.1.length<=1048576/\x.2.length<=1048576)/\c.1.length<=160/\gz wr (w.heap.size+1) c.1 c.2/\ag wr b 108 #[.int .i64 (kn:Int),vl,.int .i64 (dC n1),.int .i64 (dC n2),.int .u64 (n3:Int)]/\
  wr.ownsRow w.heap.size 73 2 vl L.length (aQ L)/\ag wr w.heap.size 240 #[]/\Below w.heap.size w wr) (fun vi _=>N-(intOf vi).toNat)
 case atStart=>exact⟨0,[],(X5,false),.slice none 0 0,Nat.zero_le _,rfl,rfl,by simp,by simp,by simp only;omega,hC5,hB3,eE,hf3,hb3⟩
 clear hC5 hB3 hf3 hb3
 obtain⟨_,L,c,vl,hi,rfl,rfl,hfx,hLb,hcl,hC,hB,hrow,hf,hb⟩:=hrel
 have hvg:vl.ownBlock≠some (w.heap.size+1):=fun e=>by
  have h1:=bg hrow e;rw[aP hC] at h1;simp at h1
 have hvb:vl.ownBlock≠some b:=fun e=>by
  have h1:=bg hrow e;rw[aP hB] at h1;simp at h1
 have hvf:vl.ownBlock≠some w.heap.size:=fun e=>by
  have h1:=bg hrow e;rw[aP hf] at h1;simp at h1
 rcases(show L.length<N\/L.length=N by omega) with hil|hil
 ·obtain⟨i0,hin,hz0,hz1,hz2⟩:=info_parts (show (Tryz.prog.info? 73).map (fun i=>(i.zero,i.size,i.bytes))=some (some (.agg #[.string ⟨#[]⟩,.string ⟨#[]⟩]),2,32) by kernel_rfl);have hfx2:fP N (X5,false)=(L++[(fT c,fT (fN c))]++(fP (N-(L.length+1)) (fN (fN c))).1,(fP (N-(L.length+1)) (fN (fN c))).2):=by
   rw[hfx,show N-L.length=N-(L.length+1)+1 by omega]
   conv=>lhs;unfold fP
   simp
  have hc2l:(fN (fN c)).1.length<=160:=aK (eu _ _) (aK (eu _ _) hcl);have hc1l:(fN c).1.length<=160:=aK (eu _ _) hcl;have t1:(fT c).length<=1048576:=H8 c (by omega);have t2:(fT (fN c)).length<=1048576:=H8 (fN c) (by omega);have k1:=af (fun W hW=>CF (w.heap.size+1) c W hW (by omega));have k2:=af (fun W hW=>CF (w.heap.size+1) (fN c) W hW (by omega));have hltr:∀k,vl.ownBlock=some k->k<wr.heap.size:=fun k hk=>jM hrow hk;have HS:=af hfx2;clear hfx hfx2;generalize hx1:fN c=c1 at*;generalize fN c1=c2 at*;generalize fT c=a1 at*;generalize fT c1=a2 at*;obtain⟨sa,sc,rfl⟩:=aH hrow;have hcell:∀x:PW (mf wr (w.heap.size+1) [c,c1,c2,c2] c rfl hC (.slice sa L.length sc) (bj wr (.slice sa L.length sc) 2 L.length [.string (bs a1),.string (bs a2)]) 2 hltr),x.w.cell? ⟨b,1,none⟩=some (.slice sa L.length sc):=fun x=>by
   obtain⟨q,hk,_⟩:=x.2;exact((hB.keptK hk (fun e=>e.elim hbg (fun e=>hvb e))).cell 1).trans rfl
  go_wp2_with fail
  refine fu (mf wr (w.heap.size+1) [c,c1,c2,c2] c rfl hC (.slice sa L.length sc) (bj wr (.slice sa L.length sc) 2 L.length [.string (bs a1),.string (bs a2)]) 2 hltr) [2,3,6] rfl (by kernel_rfl) (by kernel_rfl) rfl (by kernel_rfl) (by kernel_rfl) (by kernel_rfl) ?_;iterate 2 (refine jY fun K hK=>?_;go_big_quiet_step (fail);refine hK _ ?_;clear hK K)
  (refine AV 0 (f:=282) (args:=#[.pointer (some ⟨w.heap.size+1,0,none⟩),.int .i64 12]) (v:=.string (bs a1)) (fun W hW=>vJ hvg hW rfl rfl (by omega) (k1.out W)) fun K hK=>?_;go_big_quiet_step (fail);refine hK _ ?_;clear hK K)
  (refine AV 1 (f:=282) (args:=#[.pointer (some ⟨w.heap.size+1,0,none⟩),.int .i64 12]) (v:=.string (bs a2)) (fun W hW=>vJ hvg hW rfl rfl (by omega) (k2.out W)) fun K hK=>?_;go_big_quiet_step (fail);refine hK _ ?_;clear hK K)
  (refine Lh (v:=.agg #[.string (bs a1),.string (bs a2)]) (fun W hW=>by skip;go_simp) fun K hK=>?_;go_big_quiet_step (fail);refine hK _ ?_;clear hK K);refine BV (d:=36) (mm:=1) (news:=[.string (bs a1),.string (bs a2)]) (by kernel_rfl) (by kernel_rfl) (fun _ _ h=>by cases h) (by kernel_rfl) rfl 73 (fun W=>by go_simp) ?_;refine Hc (d:=37) (s:=32) (x:=36) (c:=c2) rfl (by kernel_rfl) (by kernel_rfl) rfl rfl rfl Tryz.underlying65 hin hz0 hz1 hz2 rfl (by decide) rfl rfl rfl hrow rfl (by simp[Value.oneCell']) (by unfold maxLen;omega) (by omega) hb.size hvg rfl rfl ?_
  (refine jY fun K hK=>?_;go_big_quiet_step (fail);refine hK _ ?_;clear hK K);refine Dz ?_;rintro w5 hK5 ⟨hk5,⟨cc,hcc,hC5⟩,_⟩;obtain rfl:cc=c2:=(az hcc).symm;simp only[aB];rintro v' ⟨hown,_⟩ z _;simp only[Act.put,List.setIfInBounds_toArray,List.set_cons_succ,List.set_cons_zero];obtain⟨sa',sc',rfl⟩:=aH hown;have hB5:=hB.keptK hk5 (fun e=>e.elim hbg (fun e=>hvb e));have hf5:=hf.keptK hk5 (fun e=>e.elim (fun e=>by omega) (fun e=>hvf e));have hb5:=hb.trans (ak.below hk5 hb.size (fun k hk=>by
   rcases hk with e|e
   ·omega
   ·exact(hrow.lt k e).1))
  have e1:w5.cell? ⟨b,1,none⟩=some (.slice sa L.length sc):=(ag.cell hB5 1).trans rfl;have f1:=ag.frozen hB5 1;have hnb:(Value.slice sa' (L.length+1) sc').ownBlock≠some b:=fun e=>by
   have h1:=bg hown e;rw[aP hB5] at h1;simp at h1
  have hk6:ak w5 (w5.setCell ⟨b,1,none⟩ (.slice sa' (L.length+1) sc')) (fun k=>k=b):=ak.of_grown (ap _ _ _ _) fun k e=>(az e).symm;have hB6:ag (w5.setCell ⟨b,1,none⟩ (.slice sa' (L.length+1) sc')) b 108 #[.int .i64 (kn:Int),.slice sa' (L.length+1) sc',.int .i64 (dC n1),.int .i64 (dC n2),.int .u64 (n3:Int)]:=ag.set_ hB5 1 _;have hC6:=ag.keptK hC5 hk6 (fun e=>hbg e.symm);have hf6:=hf5.keptK hk6 (fun e=>by omega);have hr6:=aw hown hk6 (fun k e e2=>hnb (e2▸e));have hb6:=hb5.trans (ak.below hk6 hb5.size (fun k hk=>by omega));have hrl:aQ (L++[(a1,a2)])=aQ L++[.string (bs a1),.string (bs a2)]:=by rw[jt];rfl
  clear k1 k2 hcell hK5 hk5 hC5 hown hB5 hf5 hb5 hk6 hrow hB hC hf hb hltr hvg hvb hvf hnb;go_wp2_with fail
  go_roundw
  case rel=>
   refine⟨L.length+1,L++[(a1,a2)],cc,_,by omega,by go_num,by simp,HS.out,?_,hc2l,hC6,hB6,?_,hf6,hb6⟩
   ·intro x hx;rcases List.mem_append.1 hx with h|h
    ·exact hLb x h
    ·obtain rfl:=List.mem_singleton.1 h;exact⟨t1,t2⟩
   ·rw[hrl,aG];exact hr6
  case measure=>simp[intOf];omega
 ·subst hil;rw[Nat.sub_self] at hfx;have hfx2:fP L.length (X5,false)=(L,c):=by rw[hfx];unfold fP;simp
  rw[hfx2] at hF;clear hfx hfx2 hX5;have hL6:L.length<=6:=by omega
  have hLo:=mq hrow (by omega) hLb;have c1':=hC.c1;have g1:=aj c1';have d0:wr.cell? ⟨b,0,none⟩=some (.int .i64 (kn:Int)):=(ag.cell hB 0).trans rfl;have d1:wr.cell? ⟨b,1,none⟩=some vl:=(ag.cell hB 1).trans rfl;have d2:wr.cell? ⟨b,2,none⟩=some (.int .i64 (dC n1)):=(ag.cell hB 2).trans rfl;have d3:wr.cell? ⟨b,3,none⟩=some (.int .i64 (dC n2)):=(ag.cell hB 3).trans rfl;have d4:wr.cell? ⟨b,4,none⟩=some (.int .u64 (n3:Int)):=(ag.cell hB 4).trans rfl;obtain⟨va,vc,rfl⟩:=aH hrow;have g2:=aj d0;have g3:=aj d1;have g4:=aj d2;have g5:=aj d3;have g6:=aj d4;have hok:(⟨kn,L,dC n1,dC n2,n3⟩:Rc).ok:=by
   have e1:=DA n1 b1;have e2:=DA n2 b2;exact⟨by simp only;omega,by simp only;omega,e1.1,e1.2,e2.1,e2.2,b3⟩
  rw[hF] at hG;simp only at hG;have HW:=af (show ∀w',fY s=(none,2)->rN s (.returned (.tuple #[.slice none 0 0,.string (bs s),.int .i64 2])) w' from fun w' e=>by unfold rN;rw[e]);have HT:=af (show ∀w' v sl,fY s=(some ⟨kn,L,dC n1,dC n2,n3⟩,0)->IL w' v [(⟨kn,L,dC n1,dC n2,n3⟩,sl)]->rN s (.returned (.tuple #[v,.string (bs (s.drop 186)),.int .i64 0])) w' from fun w' v sl e h=>by unfold rN;rw[e];exact⟨v,sl,rfl,h⟩);have qV:=af (fun (W:World) (hW:co wr W)=>qj ⟨kn,L,dC n1,dC n2,n3⟩ (.slice va L.length vc) 1 W hok (hLo.1.below hW) (by omega) (by omega));have qO:=af (fun (W:World) (hW:co wr W)=>Dr ⟨kn,L,dC n1,dC n2,n3⟩ (.slice va L.length vc) W hok (hLo.1.below hW) ⟨by simp only;omega,by simp only;omega⟩ hL6);rw[show rS ⟨kn,L,dC n1,dC n2,n3⟩ (.slice va L.length vc)=.agg #[.int .i64 (kn:Int),.slice va L.length vc,.int .i64 (dC n1),.int .i64 (dC n2),.int .u64 (n3:Int)] from rfl] at qV qO;generalize hxx:(⟨kn,L,dC n1,dC n2,n3⟩:Rc)=xx at*;generalize oP xx=ob at*;have HG:=af hG;clear hG hF;cases hcb:c.2 with
  |true=>
   have HE:=af (HW.out · (by rw[HG.out,if_pos (.inl hcb)]));clear HG HW HT qV qO;rw[hcb] at g1;go_wp2_with fail
   refine dY ?_;iterate 3 (refine bJ fun K hK=>?_;go_big_quiet_step (fail);refine hK _ ?_;clear hK K)
   iterate 3 (refine Du fun K hK=>?_;go_big_quiet_step (fail);refine hK _ ?_;clear hK K)
   iterate 2 (refine bJ fun K hK=>?_;go_big_quiet_step (fail);refine hK _ ?_;clear hK K)
   iterate 6 (refine Du fun K hK=>?_;go_big_quiet_step (fail);refine hK _ ?_;clear hK K)
   (refine bJ fun K hK=>?_;go_big_quiet_step (fail);refine hK _ ?_;clear hK K);refine eR ?_;intro w5 hb5;simp only[aB];go_wp2_with fail
   go_ret3;exact⟨HE.out _,ay hb hb5⟩
  |false=>
   rw[hcb] at g1;generalize hve:dI xx 1=ve at*;by_cases h0v:ve=0
   ·subst h0v;have he2:(bs s).extract 0 186=bs (s.take 186):=by rw[bZ];rfl
    have he3:(bs s).extract 186 s.length=bs (s.drop 186):=by rw[bZ,List.take_of_length_le (by simp)]
    generalize hst:s.take 186=st at*;by_cases hoe:ob=st
    ·have HE:=af (HT.out · · · (by rw[HG.out,if_neg (by simp[hcb,hoe])]));have hoz:(ob==st)=true:=by simpa using hoe
     clear HG HW HT;go_wp2_with fail
     refine dY ?_;iterate 4 (refine bJ fun K hK=>?_;go_big_quiet_step (fail);refine hK _ ?_;clear hK K)
     (refine fS (f:=59) (args:=#[.agg #[.int .i64 (kn:Int),.slice va L.length vc,.int .i64 (dC n1),.int .i64 (dC n2),.int .u64 (n3:Int)],.int .i64 1]) (v:=.int .i64 0) (fun W hW=>qV.out W hW) fun K hK=>?_;go_big_quiet_step (fail);refine hK _ ?_;clear hK K);iterate 5 (refine bJ fun K hK=>?_;go_big_quiet_step (fail);refine hK _ ?_;clear hK K)
     (refine fS (f:=399) (args:=#[.agg #[],.agg #[.int .i64 (kn:Int),.slice va L.length vc,.int .i64 (dC n1),.int .i64 (dC n2),.int .u64 (n3:Int)]]) (v:=.string (bs ob)) (fun W hW=>qO.out W hW) fun K hK=>?_;go_big_quiet_step (fail);refine hK _ ?_;clear hK K)
     (refine bJ fun K hK=>?_;go_big_quiet_step (fail);refine hK _ ?_;clear hK K)
     (refine nw (v:=.string (bs st)) (fun _ _=>by go_simp) fun K hK=>?_;go_big_quiet_step (fail);refine hK _ ?_;clear hK K);iterate 2 (refine bJ fun K hK=>?_;go_big_quiet_step (fail);refine hK _ ?_;clear hK K)
     refine eR ?_;intro w5 hb5;simp only[aB];have f:∀{p:Addr} {v:Value},wr.cell? p=some v->w5.cell? p=some v:=fun h=>cu hb5 h;have g2:=aj (f d0);have g3:=aj (f d1);have g4:=aj (f d2);have g5:=aj (f d3);have g6:=aj (f d4);have h186':¬(s.length:Int)<186:=by omega
     go_wp2_with fail
     refine dY ?_
     (refine bJ fun K hK=>?_;go_big_quiet_step (fail);refine hK _ ?_;clear hK K);refine js 57 1 [.int .i64 (kn:Int),.slice va L.length vc,.int .i64 (dC n1),.int .i64 (dC n2),.int .u64 (n3:Int)] (by kernel_rfl) (fun _ _ h=>by cases h) (by kernel_rfl) rfl 108 (fun W=>by go_simp) ?_
     (refine bJ fun K hK=>?_;go_big_quiet_step (fail);refine hK _ ?_;clear hK K)
     (refine nw (v:=.string (bs (s.drop 186))) (fun _ _=>by go_simp) fun K hK=>?_;go_big_quiet_step (fail);refine hK _ ?_;clear hK K);refine vS 57 4 (.inl rfl) rfl rfl tI rfl ?_;iterate 2 (refine bJ fun K hK=>?_;go_big_quiet_step (fail);refine hK _ ?_;clear hK K)
     refine eR ?_;intro w6 hb6;simp only[aB];rintro v4 ⟨p4,c4,rfl,_,hcl4⟩ z _;simp only[Act.put,List.setIfInBounds_toArray,List.set_cons_succ,List.set_cons_zero];go_wp2_with fail
     go_ret3;refine⟨HE.out _ _ (.slice va L.length vc) ⟨⟨p4,c4,rfl,?_⟩,fun z hz=>?_⟩,hb.trans ((ay hb5 hb6).mono hb.size)⟩
     ·rw[show aU [(xx,.slice va L.length vc)]=[.int .i64 (kn:Int),.slice va L.length vc,.int .i64 (dC n1),.int .i64 (dC n2),.int .u64 (n3:Int)] from by rw[<-hxx];rfl];exact hcl4
     ·obtain rfl:=List.mem_singleton.1 hz;refine⟨hok,?_⟩;have:=(hLo.below hb5).below hb6;rw[<-hxx];exact this
    ·have HE:=af (HW.out · (by rw[HG.out,if_pos (.inr (.inr hoe))]));have hoz:(ob != st)=true:=by simpa using hoe
     have hoz2:(ob==st)=false:=by simpa using hoe
     clear HG HW HT;go_wp2_with fail
     refine dY ?_;iterate 4 (refine bJ fun K hK=>?_;go_big_quiet_step (fail);refine hK _ ?_;clear hK K)
     (refine fS (f:=59) (args:=#[.agg #[.int .i64 (kn:Int),.slice va L.length vc,.int .i64 (dC n1),.int .i64 (dC n2),.int .u64 (n3:Int)],.int .i64 1]) (v:=.int .i64 0) (fun W hW=>qV.out W hW) fun K hK=>?_;go_big_quiet_step (fail);refine hK _ ?_;clear hK K);iterate 5 (refine bJ fun K hK=>?_;go_big_quiet_step (fail);refine hK _ ?_;clear hK K)
     (refine fS (f:=399) (args:=#[.agg #[],.agg #[.int .i64 (kn:Int),.slice va L.length vc,.int .i64 (dC n1),.int .i64 (dC n2),.int .u64 (n3:Int)]]) (v:=.string (bs ob)) (fun W hW=>qO.out W hW) fun K hK=>?_;go_big_quiet_step (fail);refine hK _ ?_;clear hK K)
     (refine bJ fun K hK=>?_;go_big_quiet_step (fail);refine hK _ ?_;clear hK K)
     (refine nw (v:=.string (bs st)) (fun _ _=>by go_simp) fun K hK=>?_;go_big_quiet_step (fail);refine hK _ ?_;clear hK K);iterate 2 (refine bJ fun K hK=>?_;go_big_quiet_step (fail);refine hK _ ?_;clear hK K)
     refine eR ?_;intro w5 hb5;simp only[aB];go_wp2_with fail
     go_ret3;exact⟨HE.out _,ay hb hb5⟩
   ·have hvz:(ve != 0)=true:=by simpa using h0v
    have HE:=af (HW.out · (by rw[HG.out,if_pos (.inr (.inl h0v))]));clear HG HW HT qO;go_wp2_with fail
    refine dY ?_;iterate 4 (refine bJ fun K hK=>?_;go_big_quiet_step (fail);refine hK _ ?_;clear hK K)
    (refine fS (f:=59) (args:=#[.agg #[.int .i64 (kn:Int),.slice va L.length vc,.int .i64 (dC n1),.int .i64 (dC n2),.int .u64 (n3:Int)],.int .i64 1]) (v:=.int .i64 ve) (fun W hW=>qV.out W hW) fun K hK=>?_;go_big_quiet_step (fail);refine hK _ ?_;clear hK K);iterate 3 (refine bJ fun K hK=>?_;go_big_quiet_step (fail);refine hK _ ?_;clear hK K)
    iterate 6 (refine Du fun K hK=>?_;go_big_quiet_step (fail);refine hK _ ?_;clear hK K)
    (refine bJ fun K hK=>?_;go_big_quiet_step (fail);refine hK _ ?_;clear hK K);refine eR ?_;intro w5 hb5;simp only[aB];go_wp2_with fail
    go_ret3;exact⟨HE.out _,ay hb hb5⟩
end
section
open Go.RowKit Go.Maps Go.WideMaps
attribute [local go_sem] am aq
def qZ{w0:World}{B n m:Nat}{K:List (List UInt8)}{kv:Value}{D:DataW Unit}(_h:aZ w0 B n K kv m D)(K':List (List UInt8)):fK where
 ph q w:=(q=0/\co w0 w)\/(q≠0/\∃kv' D',aZ w B n K' kv' m D'/\dE w0 w (NF n m kv) (NF n m kv'))
 K _ _:=True
 w0:=w0
 start:=.inl ⟨rfl,bR⟩
 refl _:=trivial
 trans _ _:=trivial
 grow _:=trivial
 stay h k:=by
  rcases h with⟨h1,h2⟩|⟨h1,kv',D',h2,h3⟩
  ·exact .inl ⟨h1,h2.trans (Below.mono k h2.size)⟩
  ·exact .inr ⟨h1,kv',D',h2.below k,h3.trans (dE.of_below k)⟩
section
variable {w0 w:World} {B n m:Nat} {K K':List (List UInt8)} {kv:Value} {D:DataW Unit} {h:aZ w0 B n K kv m D}
theorem BQ{q:Nat}(hw:(qZ h K').ph q w):ak w0 w (NF n m kv):=by
 rcases hw with⟨_,h2⟩|⟨_,kv',D',h2,h3⟩
 ·exact ak.of_below h2
 ·exact h3.kept
theorem cL{p:Addr}{v:Value}(hp:w0.cell? p=some v)(hn:¬NF n m kv p.block):∀x:PW (qZ h K'),x.w.cell? p=some v:=fun x=>by
 obtain⟨q,hq⟩:=x.2;exact(BQ hq).cell hp hn
theorem pM{f:FuncId}{args:Array Value}{v:Value}(hw:(qZ h K').ph 0 w)
 (hc:co w0 w->Calls Tryz.prog f args w fun e w'=>e=.returned v/\∃kv' D',aZ w' B n K' kv' m D'/\dE w w' (NF n m kv) (NF n m kv')):
 Calls Tryz.prog f args w fun e w'=>e=.returned v/\(qZ h K').K w w'/\(qZ h K').ph (0+1) w':=by
 rcases hw with⟨_,h2⟩|⟨h1,_⟩
 ·refine(hc h2).mono ?_;rintro e w' ⟨rfl,kv',D',h3,h4⟩;exact⟨rfl,trivial,.inr ⟨by omega,kv',D',h3,(dE.of_below h2).trans h4⟩⟩
 ·exact absurd rfl h1
end
theorem dV{w:World}{B n m k:Nat}{K:List (List UInt8)}{kv:Value}{D:DataW Unit}{t:TypeId}(h:aZ w B n K kv m D)(hk:ng w k=some (some t))(h1:t≠173)(h2:t≠9):¬NF n m kv k:=fun e=>by
 rcases e with rfl|rfl|e
 ·rw[aP h.blk] at hk;simp at hk;exact h1 hk.symm
 ·rw[jI h.map] at hk;simp at hk
 ·rw[bg h.row e] at hk;simp at hk;exact h2 hk.symm
def bI(K:List (List UInt8))(x:Rc):List UInt8×List (List UInt8):=
 if x.kind=0 then(Num.small 0++(cl K x.labels).1++Num.small (aS x.t)++Num.wide x.v,(cl K x.labels).2)
 else if x.kind=1 then(Num.small 1++(cl K x.labels).1++Num.small (Num.zigI x.t).toNat++Num.small (Num.zigI x.u).toNat,(cl K x.labels).2)
 else(Num.small 2++Num.small (aS x.t),K)
theorem xO(K:List (List UInt8))(L:List Lb)(h:(de L).length<=1048576):(cl K L).1.length<=1048600:=by
 unfold cl;split
 ·have:=Num.small_len (K.idxOf (de L));simp only;omega
 ·have h1:=Num.small_len K.length;have h2:=Num.small_len (de L).length;simp only[aG,Num.text_len];omega
section
variable {w:World} {B n m:Nat} {K:List (List UInt8)} {kv:Value} {D:DataW Unit}
theorem zr(x:Rc)(sl:Value)(h:aZ w B n K kv m D)(hx:x.ok)(hk:x.kind=0\/x.kind=1\/x.kind=2)(hL:∀W,Below B w W->aC W sl x.labels)(hl:(de x.labels).length<=1048576)(hK:K.length<=1048576)(hB:B<=w.heap.size):
 Calls Tryz.prog 405 #[.agg #[.pointer (some ⟨n,0,none⟩)],rS x sl] w fun e w'=>e=.returned (.string (bs (bI K x).1))/\∃kv' D',aZ w' B n (bI K x).2 kv' m D'/\dE w w' (NF n m kv) (NF n m kv'):=by
 obtain⟨k,L,t,u,v⟩:=x
 obtain⟨x1,x2,x3,x4,x5,x6,x7⟩:=hx
 simp only at x1 x2 x3 x4 x5 x6 x7 hL hk hl
 rw[show rS ⟨k,L,t,u,v⟩ sl=.agg #[.int .i64 k,sl,.int .i64 t,.int .i64 u,.int .u64 (v:Int)] from rfl]
 have hb0:Below w.heap.size w ((w.alloc (.cells #[.pointer (some ⟨n,0,none⟩)] 242)).alloc (.cells #[.int .i64 k,sl,.int .i64 t,.int .i64 u,.int .u64 (v:Int)] 108)):=((Below.refl _ w).alloc (aF _) _).alloc (by simp) _
 have hn0:ag ((w.alloc (.cells #[.pointer (some ⟨n,0,none⟩)] 242)).alloc (.cells #[.int .i64 k,sl,.int .i64 t,.int .i64 u,.int .u64 (v:Int)] 108)) w.heap.size 242 #[.pointer (some ⟨n,0,none⟩)]:=(ag.new w _ _).alloc _
 have hk0:ag ((w.alloc (.cells #[.pointer (some ⟨n,0,none⟩)] 242)).alloc (.cells #[.int .i64 k,sl,.int .i64 t,.int .i64 u,.int .u64 (v:Int)] 108)) (w.heap.size+1) 108 #[.int .i64 k,sl,.int .i64 t,.int .i64 u,.int .u64 (v:Int)]:=by
  have:=ag.new (w.alloc (.cells #[.pointer (some ⟨n,0,none⟩)] 242)) 108 #[.int .i64 k,sl,.int .i64 t,.int .i64 u,.int .u64 (v:Int)];rwa[aW] at this
 obtain⟨sa,sc,rfl,_⟩:=id (hL w (bR))
 generalize hW0:(w.alloc (.cells #[.pointer (some ⟨n,0,none⟩)] 242)).alloc (.cells #[.int .i64 k,.slice sa L.length sc,.int .i64 t,.int .i64 u,.int .u64 (v:Int)] 108)=W0 at*
 have hC:=af (fun (W:World) (hb:Below W0.heap.size W0 W)=>
  (show W.cell? ⟨w.heap.size,0,none⟩=some (.pointer (some ⟨n,0,none⟩))/\W.cell? ⟨w.heap.size+1,0,none⟩=some (.int .i64 k)/\W.cell? ⟨w.heap.size+1,1,none⟩=some (.slice sa L.length sc)/\W.cell? ⟨w.heap.size+1,2,none⟩=some (.int .i64 t)/\W.cell? ⟨w.heap.size+1,3,none⟩=some (.int .i64 u)/\W.cell? ⟨w.heap.size+1,4,none⟩=some (.int .u64 (v:Int))/\
   aZ W B n K kv m D/\ng W w.heap.size=some (some 242)/\ng W (w.heap.size+1)=some (some 108)/\dE w W (NF n m kv) (NF n m kv) from
   ⟨((ag.below hn0 hb hn0.lt).cell 0).trans rfl,((ag.below hk0 hb hk0.lt).cell 0).trans rfl,((ag.below hk0 hb hk0.lt).cell 1).trans rfl,((ag.below hk0 hb hk0.lt).cell 2).trans rfl,((ag.below hk0 hb hk0.lt).cell 3).trans rfl,((ag.below hk0 hb hk0.lt).cell 4).trans rfl,
     (h.below hb0).below hb,aP (ag.below hn0 hb hn0.lt),aP (ag.below hk0 hb hk0.lt),(dE.of_below hb0).trans (dE.of_below hb)⟩))
 obtain⟨c0,d0,d1,d2,d3,d4,_⟩:=hC.out W0 (bR)
 have w1:=dF t
 have b1:=gy t
 have hKn:(k:Int)=0\/k=1\/k=2:=hk
 have qP:=af (fun (W:World) (hN:aZ W B n K kv m D) (hb:Below B w W)=>Dl L (.slice sa L.length sc) hN (hL W hb) hl hK (aK hB hb.size))
 have hpl:=xO K L hl
 clear hn0 hk0 hb0
 rcases hk with rfl|rfl|rfl
 ·have hS:bI K ⟨0,L,t,u,v⟩=(Num.small 0++(cl K L).1++Num.small (aS t)++Num.wide v,(cl K L).2):=rfl;rw[hS];have q1:=af (fun W=>aT 0 W (by omega) (by omega));rw[show ((0:Int).toNat)=0 from rfl] at q1;have l1:=Num.small_len 0;have q2:=af (fun W=>aT (aS t:Int) W (by omega) (by omega));rw[show ((aS t:Int).toNat)=aS t from rfl] at q2;have q3:=af (fun W=>cG (v:Int) W (by omega) (by omega));rw[show ((v:Int).toNat)=v from rfl] at q3;have l2:=Num.small_len (aS t);have l3:=Num.wide_len v;clear hS;rcases hpp:cl K L with⟨p1,K2⟩
  rw[hpp] at qP hpl;simp only at hpl;generalize Num.small 0=y1 at*;generalize Num.small (aS t)=y2 at*;generalize Num.wide v=y3 at*;have a1:∀W,(Op.stringOp .add (bs y1) (bs p1)).run Tryz.prog W=.ok (.string (bs (y1++p1))) W:=fun W=>aJ (P:=Tryz.prog) _ _ (by omega) W;have a2:∀W,(Op.stringOp .add (bs (y1++p1)) (bs y2)).run Tryz.prog W=.ok (.string (bs (y1++p1++y2))) W:=fun W=>aJ (P:=Tryz.prog) _ _ (by simp;omega) W;have a3:∀W,(Op.stringOp .add (bs (y1++p1++y2)) (bs y3)).run Tryz.prog W=.ok (.string (bs (y1++p1++y2++y3))) W:=fun W=>aJ (P:=Tryz.prog) _ _ (by simp;omega) W;generalize y1++p1++y2++y3=z3 at*;generalize y1++p1++y2=z2 at*;generalize y1++p1=z1 at*;go_enter Tryz.func405,Tryz.ntmps405
  go_wp2_with fail
  refine(q1.out _).mono ?_;rintro e W1 ⟨rfl,hb1⟩;obtain⟨e0,f0,f1,f2,f3,f4,hN1,t1,t2,hT1⟩:=hC.out W1 hb1;clear c0 d0 d1 d2 d3 d4 hC;have hbB:=dE.kept hT1;have hBel:=ak.below hbB hB h.ge;have HQ:=af (fun (W:World) (hW:co W1 W)=>qP.out W (hN1.below hW) (hBel.trans (Below.mono hW (aK hB hbB.size))));have n1':=dV hN1 t1 (by decide) (by decide);have n2':=dV hN1 t2 (by decide) (by decide);have g0:=cL (h:=hN1) (K':=K2) e0 n1';have g1:=cL (h:=hN1) (K':=K2) f1 n2';have g2:=cL (h:=hN1) (K':=K2) f2 n2';have g3:=cL (h:=hN1) (K':=K2) f3 n2';have g4:=cL (h:=hN1) (K':=K2) f4 n2';go_wp2_with fail
  refine dZ (qZ hN1 K2) [5] rfl (by kernel_rfl) (by kernel_rfl) (by kernel_rfl) (by kernel_rfl) ?_;iterate 5 (refine jY fun K hK=>?_;go_big_quiet_step (fail);refine hK _ ?_;clear hK K)
  (refine AV 0 (f:=396) (args:=#[.pointer (some ⟨n,0,none⟩),.slice sa L.length sc]) (v:=.string (bs p1)) (fun W hW=>pM hW (HQ.out W)) fun K hK=>?_;go_big_quiet_step (fail);refine hK _ ?_;clear hK K);iterate 4 (refine jY fun K hK=>?_;go_big_quiet_step (fail);refine hK _ ?_;clear hK K)
  (refine IV (f:=32) (args:=#[.int .u64 (aS t:Int)]) (v:=.string (bs y2)) (fun W hW=>q2.out W) fun K hK=>?_;go_big_quiet_step (fail);refine hK _ ?_;clear hK K);iterate 3 (refine jY fun K hK=>?_;go_big_quiet_step (fail);refine hK _ ?_;clear hK K)
  (refine IV (f:=33) (args:=#[.int .u64 (v:Int)]) (v:=.string (bs y3)) (fun W hW=>q3.out W) fun K hK=>?_;go_big_quiet_step (fail);refine hK _ ?_;clear hK K);iterate 2 (refine jY fun K hK=>?_;go_big_quiet_step (fail);refine hK _ ?_;clear hK K)
  refine Dz ?_;rintro W2 _ hp;obtain⟨_,kv2,D2,hN2,hT2⟩:=hp.resolve_left (fun e=>by cases e.1);simp only[aB];clear g0 g1 g2 g3 g4;go_wp2_with fail
  go_ret;exact⟨rfl,_,_,hN2,hT1.trans hT2⟩
 ·have hS:bI K ⟨1,L,t,u,v⟩=(Num.small 1++(cl K L).1++Num.small (Num.zigI t).toNat++Num.small (Num.zigI u).toNat,(cl K L).2):=rfl;rw[hS];have q1:=af (fun W=>aT 1 W (by omega) (by omega));rw[show ((1:Int).toNat)=1 from rfl] at q1;have l1:=Num.small_len 1;have zb1:=Num.zig_bd t x3 x4;have zb2:=Num.zig_bd u x5 x6;have q4:=af (fun W=>(gN t W x3 x4).mono fun e w' ⟨h1,h2⟩=>(show e=Ending.returned (.int .u64 (Num.zigI t))/\co W w' from⟨h1,h2▸bR⟩));have q5:=af (fun W=>(gN u W x5 x6).mono fun e w' ⟨h1,h2⟩=>(show e=Ending.returned (.int .u64 (Num.zigI u))/\co W w' from⟨h1,h2▸bR⟩));have q2:=af (fun W=>aT (Num.zigI t) W zb1.1 zb1.2);have q3:=af (fun W=>aT (Num.zigI u) W zb2.1 zb2.2);have l2:=Num.small_len (Num.zigI t).toNat;have l3:=Num.small_len (Num.zigI u).toNat;clear hS zb1 zb2;rcases hpp:cl K L with⟨p1,K2⟩
  rw[hpp] at qP hpl;simp only at hpl;generalize Num.small 1=y1 at*;generalize Num.small (Num.zigI t).toNat=y2 at*;generalize Num.small (Num.zigI u).toNat=y3 at*;generalize Num.zigI t=zt at*;generalize Num.zigI u=zu at*;have a1:∀W,(Op.stringOp .add (bs y1) (bs p1)).run Tryz.prog W=.ok (.string (bs (y1++p1))) W:=fun W=>aJ (P:=Tryz.prog) _ _ (by omega) W;have a2:∀W,(Op.stringOp .add (bs (y1++p1)) (bs y2)).run Tryz.prog W=.ok (.string (bs (y1++p1++y2))) W:=fun W=>aJ (P:=Tryz.prog) _ _ (by simp;omega) W;have a3:∀W,(Op.stringOp .add (bs (y1++p1++y2)) (bs y3)).run Tryz.prog W=.ok (.string (bs (y1++p1++y2++y3))) W:=fun W=>aJ (P:=Tryz.prog) _ _ (by simp;omega) W;generalize y1++p1++y2++y3=z3 at*;generalize y1++p1++y2=z2 at*;generalize y1++p1=z1 at*;go_enter Tryz.func405,Tryz.ntmps405
  go_wp2_with fail
  refine(q1.out _).mono ?_;rintro e W1 ⟨rfl,hb1⟩;obtain⟨e0,f0,f1,f2,f3,f4,hN1,t1,t2,hT1⟩:=hC.out W1 hb1;clear c0 d0 d1 d2 d3 d4 hC;have hbB:=dE.kept hT1;have hBel:=ak.below hbB hB h.ge;have HQ:=af (fun (W:World) (hW:co W1 W)=>qP.out W (hN1.below hW) (hBel.trans (Below.mono hW (aK hB hbB.size))));have n1':=dV hN1 t1 (by decide) (by decide);have n2':=dV hN1 t2 (by decide) (by decide);have g0:=cL (h:=hN1) (K':=K2) e0 n1';have g1:=cL (h:=hN1) (K':=K2) f1 n2';have g2:=cL (h:=hN1) (K':=K2) f2 n2';have g3:=cL (h:=hN1) (K':=K2) f3 n2';have g4:=cL (h:=hN1) (K':=K2) f4 n2';go_wp2_with fail
  refine dZ (qZ hN1 K2) [5] rfl (by kernel_rfl) (by kernel_rfl) (by kernel_rfl) (by kernel_rfl) ?_;iterate 5 (refine jY fun K hK=>?_;go_big_quiet_step (fail);refine hK _ ?_;clear hK K)
  (refine AV 0 (f:=396) (args:=#[.pointer (some ⟨n,0,none⟩),.slice sa L.length sc]) (v:=.string (bs p1)) (fun W hW=>pM hW (HQ.out W)) fun K hK=>?_;go_big_quiet_step (fail);refine hK _ ?_;clear hK K);iterate 3 (refine jY fun K hK=>?_;go_big_quiet_step (fail);refine hK _ ?_;clear hK K)
  (refine IV (f:=181) (args:=#[.int .i64 t]) (v:=.int .u64 zt) (fun W hW=>q4.out W) fun K hK=>?_;go_big_quiet_step (fail);refine hK _ ?_;clear hK K)
  (refine IV (f:=32) (args:=#[.int .u64 zt]) (v:=.string (bs y2)) (fun W hW=>q2.out W) fun K hK=>?_;go_big_quiet_step (fail);refine hK _ ?_;clear hK K);iterate 3 (refine jY fun K hK=>?_;go_big_quiet_step (fail);refine hK _ ?_;clear hK K)
  (refine IV (f:=181) (args:=#[.int .i64 u]) (v:=.int .u64 zu) (fun W hW=>q5.out W) fun K hK=>?_;go_big_quiet_step (fail);refine hK _ ?_;clear hK K)
  (refine IV (f:=32) (args:=#[.int .u64 zu]) (v:=.string (bs y3)) (fun W hW=>q3.out W) fun K hK=>?_;go_big_quiet_step (fail);refine hK _ ?_;clear hK K);iterate 2 (refine jY fun K hK=>?_;go_big_quiet_step (fail);refine hK _ ?_;clear hK K)
  refine Dz ?_;rintro W2 _ hp;obtain⟨_,kv2,D2,hN2,hT2⟩:=hp.resolve_left (fun e=>by cases e.1);simp only[aB];clear g0 g1 g2 g3 g4;go_wp2_with fail
  go_ret;exact⟨rfl,_,_,hN2,hT1.trans hT2⟩
 ·have hS:bI K ⟨2,L,t,u,v⟩=(Num.small 2++Num.small (aS t),K):=rfl;have q1:=af (fun W=>aT 2 W (by omega) (by omega));rw[show ((2:Int).toNat)=2 from rfl] at q1;have q2:=af (fun W=>aT (aS t:Int) W (by omega) (by omega));rw[show ((aS t:Int).toNat)=aS t from rfl] at q2;have l1:=Num.small_len 2;have l2:=Num.small_len (aS t);rw[hS];generalize Num.small 2=y1 at*;generalize Num.small (aS t)=y2 at*;have hadd:∀W,(Op.stringOp .add (bs y1) (bs y2)).run Tryz.prog W=.ok (.string (bs (y1++y2))) W:=fun W=>aJ (P:=Tryz.prog) _ _ (by omega) W;generalize y1++y2=y at*;clear hS hpl qP;go_enter Tryz.func405,Tryz.ntmps405
  go_wp2_with fail
  refine(q1.out _).mono ?_;rintro e W1 ⟨rfl,hb1⟩;obtain⟨e0,f0,f1,f2,f3,f4,hN1,t1,t2,hT1⟩:=hC.out W1 hb1;clear c0 d0 d1 d2 d3 d4;go_wp2_with fail
  refine(q2.out _).mono ?_;rintro e W2 ⟨rfl,hb2⟩;go_wp2_with fail
  go_ret;exact⟨rfl,_,_,hN1.below hb2,hT1.trans (dE.of_below hb2)⟩
end
def bp:List (List UInt8)->List Rc->Option (List UInt8)×List (List UInt8)
 |K,[]=>(some [],K)
 |K,x::R=>if 20000<(bI K x).1.length then(none,(bI K x).2)
  else((bp (bI K x).2 R).1.map (bM (bI K x).1++·),(bp (bI K x).2 R).2)
theorem jX(K:List (List UInt8))(L:List Lb):(cl K L).2.length<=K.length+1:=by
 unfold cl;split<;>simp
theorem iI(K:List (List UInt8))(x:Rc):(bI K x).2.length<=K.length+1:=by
 unfold bI;have:=jX K x.labels;split
 ·exact this
 ·split
  ·exact this
  ·simp
def DF(x:Rc):Prop:=(x.kind=0\/x.kind=1\/x.kind=2)/\(de x.labels).length<=1048576
def KE (r:Option (List UInt8)):Value:=match r with
 |none=>.tuple #[.string ⟨#[]⟩,.bool false]
 |some s=>.tuple #[.string (bs s),.bool true]
section
variable {w:World} {B n m:Nat} {K:List (List UInt8)} {kv:Value} {D:DataW Unit}
theorem uV(R:List Rc)(v:Value)(wA:World)(hA:Below wA.heap.size wA w)(hAB:wA.heap.size<=B)(h:aZ w B n K kv m D)(hR:dw wA v R)(hf:∀x∈R,DF x)(hK:K.length+R.length<=1048576)(hB:B<=w.heap.size):
 Calls Tryz.prog 402 #[.agg #[.pointer (some ⟨n,0,none⟩)],v] w fun e w'=>e=.returned (KE (bp K R).1)/\(∃kv' D',((bp K R).1≠none->aZ w' B n (bp K R).2 kv' m D')/\dE w w' (NF n m kv) (NF n m kv')):=by
 obtain⟨a,c,rfl,hn,hc⟩:=hR
 have HC:=af hc
 clear hc
 have hb0:=ai w (.cells #[.pointer (some ⟨n,0,none⟩)] 242)
 have hk0:ag (w.alloc (.cells #[.pointer (some ⟨n,0,none⟩)] 242)) w.heap.size 242 #[.pointer (some ⟨n,0,none⟩)]:=ag.new _ _ _
 have hV:∀{r},(bp K R).1=r->KE (bp K R).1=KE r:=fun e=>by rw[e]
 have HV:=af (fun r (e:(bp K R).1=r)=>hV e)
 clear hV
 go_enter Tryz.func402,Tryz.ntmps402
 go_wp2_with fail
 go_loopw [6,12] (fun vs vi wr=>∃(i:Nat) (s:List UInt8) (Ki:List (List UInt8)) (kvi:Value) (Di:DataW Unit),i<=R.length/\vi=.int .i64 (i:Int)/\vs=.string (bs s)/\s.length<=i*30000/\Ki.length<=K.length+i/\
  bp K R=((bp Ki (R.drop i)).1.map (s++·),(bp Ki (R.drop i)).2)/\aZ wr B n Ki kvi m Di/\ag wr w.heap.size 242 #[.pointer (some ⟨n,0,none⟩)]/\dE w wr (NF n m kv) (NF n m kvi)/\Below B w wr) (fun _ vi _=>R.length-(intOf vi).toNat)
 case atStart=>exact⟨0,[],K,kv,D,Nat.zero_le _,rfl,rfl,by simp,by omega,by rw[List.drop_zero];cases bp K R;simp,h.below hb0,hk0,dE.of_below hb0,hb0.mono hB⟩
 clear hb0 hk0
 obtain⟨i,s,Ki,kvi,Di,hi,rfl,rfl,hsl,hKi,hP,hN,hk,hT,hbB⟩:=hrel
 rcases(show i<R.length\/i=R.length by omega) with hil|rfl
 ·have hfit:=hf R[i] (dK _);rw[List.drop_eq_getElem_cons hil] at hP;obtain⟨b,o,rfl,hRA⟩:=HC.out i _ (aV hil);have hAr:Below wA.heap.size wA wr:=hA.trans (hbB.mono hAB);have hLW:∀sl,aC wA sl R[i].labels->∀W,Below B wr W->aC W sl R[i].labels:=fun sl hsl W hW=>hsl.below (hAr.trans (hW.mono hAB));have hcell:∀{p:Addr} {v:Value},wA.cell? p=some v->wr.cell? p=some v:=fun h=>cu hAr h;obtain⟨hok,sl,e0,e1,hL,e2,e3,e4⟩:=hRA;have e0:=hcell e0;have e1:=hcell e1;have e2:=hcell e2;have e3:=hcell e3;have e4:=hcell e4;have HL:=af (hLW sl hL);obtain⟨va,vc,rfl,_⟩:=hL;have HPx:=af (fun (K':List (List UInt8))=>(show bp K' (R[i]::R.drop (i+1))=if 20000<(bI K' R[i]).1.length then(none,(bI K' R[i]).2)
   else((bp (bI K' R[i]).2 (R.drop (i+1))).1.map (bM (bI K' R[i]).1++·),(bp (bI K' R[i]).2 (R.drop (i+1))).2) from rfl))
  rw[HPx.out Ki] at hP;clear hLW hcell HPx;generalize R[i]=x at*;have hB':B<=wr.heap.size:=aK hB hT.kept.size;have hb1:=ai wr (.cells #[.int .i64 x.kind,.slice va x.labels.length vc,.int .i64 x.t,.int .i64 x.u,.int .u64 (x.v:Int)] 108);have q:=af (zr x (.slice va x.labels.length vc) (hN.below hb1) hok hfit.1 (fun W hW=>HL.out W ((hb1.mono hB').trans hW)) hfit.2 (by omega) (aK hB' hb1.size));rw[show rS x (.slice va x.labels.length vc)=.agg #[.int .i64 x.kind,.slice va x.labels.length vc,.int .i64 x.t,.int .i64 x.u,.int .u64 (x.v:Int)] from rfl] at q;have hkk:=iI Ki x;rcases hso:bI Ki x with⟨p1,K2⟩
  rw[hso] at q hP hkk;simp only at q hP hkk;have k0:wr.cell? ⟨w.heap.size,0,none⟩=some (.pointer (some ⟨n,0,none⟩)):=(ag.cell hk 0).trans rfl;have k0':=cu hb1 k0;by_cases h20:20000<p1.length
  ·rw[if_pos h20] at hP;have hP':(bp K R).1=none:=by rw[hP];rfl
   have HE:=af (HV.out none hP');have HP':=af hP';clear hP';have hd:decide (20000<p1.length)=true:=by simpa using h20
   have hd':decide (20000<(p1.length:Int))=true:=by simp;omega
   clear hP HV;go_wp2_with fail
   refine q.out.mono ?_;rintro e W1 ⟨rfl,kv1,D1,hN1,hT1⟩;go_wp2_with fail
   go_ret2;exact⟨by rw[HE.out];rfl,kv1,D1,fun e=>absurd HP'.out e,hT.trans ((dE.of_below hb1).trans hT1)⟩
  ·rw[if_neg h20] at hP;have hd:decide (20000<p1.length)=false:=by simpa using h20
   have hd':decide (20000<(p1.length:Int))=false:=by simp;omega
   have q2:=af (fun W=>ie p1 (by omega) W);have hfl:(bM p1).length<=20020:=by
    unfold bM;rw[dA,Num.text_len];have:=Num.small_len p1.length;omega
   generalize bM p1=fp at*;have hadd:∀W,(Op.stringOp .add (bs s) (bs fp)).run Tryz.prog W=.ok (.string (bs (s++fp))) W:=fun W=>aJ (P:=Tryz.prog) _ _ (by omega) W;have hs2:(s++fp).length<=(i+1)*30000:=by rw[aG];omega
   have HP2:=af (show bp K R=((bp K2 (R.drop (i+1))).1.map ((s++fp)++·),(bp K2 (R.drop (i+1))).2) by
    rw[hP]
    cases (bp K2 (R.drop (i+1))).1<;>simp)
   clear hP;generalize s++fp=s2 at*;go_wp2_with fail
   refine q.out.mono ?_;rintro e W1 ⟨rfl,kv1,D1,hN1,hT1⟩;have hTt:=(dE.of_below (F:=NF n m kvi) hb1).trans hT1;have hk1:=hk.keptK hTt.kept (dV hN (aP hk) (by decide) (by decide));have hbb:=hbB.trans (ak.below hTt.kept hB' hN.ge);clear q hk;go_wp2_with fail
   refine(q2.out _).mono ?_;rintro e W2 ⟨rfl,hb2⟩;go_wp2_with fail
   go_roundw
   case rel=>exact⟨i+1,s2,K2,kv1,D1,by omega,by go_num,rfl,hs2,by omega,HP2.out,hN1.below hb2,ag.below hk1 hb2 hk1.lt,hT.trans (hTt.trans (dE.of_below hb2)),hbb.trans (Below.mono hb2 (aK hB' hTt.kept.size))⟩
   case measure=>simp[intOf];omega
 ·rw[List.drop_length] at hP;have hP2:bp K R=(some s,Ki):=by rw[hP];simp[bp]
  have HE:=af (HV.out (some s) (by rw[hP2]));clear hP HV;go_wp2_with fail
  go_ret2;exact⟨by rw[HE.out];rfl,kvi,Di,fun _=>by rw[hP2];exact hN,hT⟩
end
theorem lq{P:Program}{fn:Func}{p u:Tmp}{ty:TypeId}(h:fn.results=#[.cell p ty,.tmp u])(tmps:Array Value)(w:World)(g:Nat)(tb:TypeId)(cs:Array Value)(d:TypeDesc)
 (hp:tmps.getD p undef=.pointer (some ⟨g,0,none⟩)) (hg:ag w g tb cs)
 (hu:P.underlying ty=some d) (hd:(match d with|.struct _|.array _ _=>true|_=>false)=true) (hi:(P.info? ty).map (·.size)=some cs.size):
 (results fn tmps).run P w=.ok (.tuple #[.agg cs,tmps.getD u undef]) w:=by
 have hp':tmps[p]?.getD undef=.pointer (some ⟨g,0,none⟩):=by simpa using hp
 simp[results,h,hp',asAddr,run_loadVar_row w g tb ty cs (0,0) d hg hu hd hi]
theorem CE{W:World}{b:Nat}{T:TypeId}{u0 u1 u2 u3 u4:Value}(h:ag W b T #[u0,u1,u2,u3,u4]):
 (W.cell? ⟨b,0,none⟩=some u0/\W.cell? ⟨b,1,none⟩=some u1/\W.cell? ⟨b,2,none⟩=some u2/\W.cell? ⟨b,3,none⟩=some u3/\W.cell? ⟨b,4,none⟩=some u4)/\
  W.frozen? ⟨b,0,none⟩=false/\W.frozen? ⟨b,1,none⟩=false/\W.frozen? ⟨b,2,none⟩=false/\W.frozen? ⟨b,3,none⟩=false/\W.frozen? ⟨b,4,none⟩=false:=
 ⟨⟨(ag.cell h 0).trans rfl,(ag.cell h 1).trans rfl,(ag.cell h 2).trans rfl,(ag.cell h 3).trans rfl,(ag.cell h 4).trans rfl⟩,ag.frozen h 0,ag.frozen h 1,ag.frozen h 2,ag.frozen h 3,ag.frozen h 4⟩
theorem ak.new_keep{a b c:World}{S:Nat->Prop}{g:Nat}(h:ak a b S)(k:ak b c (fun k=>k=g))(hg:a.heap.size<=g):ak a c S:=
 ⟨k.os.trans h.os,k.tape.trans h.tape,k.output.trans h.output,aK h.size k.size,fun i hi hn=>(k.block i (dQ hi h.size) (by omega)).trans (h.block i hi hn)⟩
def rq(smp:CS->(Int×Nat)×CS)(K:List (List UInt8))(c:CS):Option (Rc×List (List UInt8))×CS:=
 if (sN c).2=true\/2<sV c then(none,sN c)
 else if sV c=2 then
  if (sN (sN c)).2=true then(none,sN (sN c)) else(some (⟨2,[],dC (sV (sN c)).toNat,0,0⟩,K),sN (sN c))
 else match jo K (sN c) with
  |(none,c2)=>(none,c2)
  |(some (L,K'),c2)=>
   if sV c=0 then
    if (smp c2).2.2=true then(none,(smp c2).2) else(some (⟨0,L,(smp c2).1.1,0,(smp c2).1.2⟩,K'),(smp c2).2)
   else if (sN (sN c2)).2=true then(none,sN (sN c2)) else(some (⟨1,L,Num.zagI (sV c2),Num.zagI (sV (sN c2)),0⟩,K'),sN (sN c2))
def Gh (w0:World)(g:Nat)(T:TypeId)(cs':Array Value):fK where
 ph q w:=(q=0/\co w0 w)\/(q≠0/\ak w0 w (fun k=>k=g)/\ag w g T cs')
 K _ _:=True
 w0:=w0
 start:=.inl ⟨rfl,bR⟩
 refl _:=trivial
 trans _ _:=trivial
 grow _:=trivial
 stay h k:=by
  rcases h with⟨h1,h2⟩|⟨h1,h2,h3⟩
  ·exact .inl ⟨h1,h2.trans (Below.mono k h2.size)⟩
  ·exact .inr ⟨h1,h2.trans (ak.of_below k),ag.below h3 k h3.lt⟩
theorem gJ{w0:World}{g:Nat}{T:TypeId}{cs':Array Value}{p:Addr}{v:Value}(hp:w0.cell? p=some v)(hn:p.block≠g):∀x:PW (Gh w0 g T cs'),x.w.cell? p=some v:=fun x=>by
 obtain⟨q,hq⟩:=x.2;rcases hq with⟨_,h2⟩|⟨_,h2,_⟩
 ·exact(ak.of_below (S:=fun k=>k=g) h2).cell hp hn
 ·exact h2.cell hp hn
theorem xP(K:List (List UInt8))(c:CS):(jo K c).2.1.length<=c.1.length:=by
 have h1:(sN c).1.length<=c.1.length:=eu _ _;have h2:(nT (sN c) 600).1.length<=c.1.length:=aK (eu _ _) h1;unfold jo;split
 ·exact h1
 ·split
  ·exact h1
  ·split<;>exact h2
section
variable {w:World} {B n m gc:Nat} {K:List (List UInt8)} {kv:Value} {D:DataW Unit}
end
def Lc (c:CS):(Int×Nat)×CS:=((dC (sV c).toNat,(wV (sN c)).toNat),wN (sN c))
theorem l8(c:CS):∃n:Nat,wV c=n/\n<18446744073709551616:=by
 unfold wV;split
 ·exact⟨0,rfl,by omega⟩
 ·cases h:Num.getWide c.1 with
  |none=>exact⟨0,rfl,by omega⟩
  |some x=>
   obtain⟨n,k⟩:=x;exact⟨n,rfl,(Num.getWide_only _ _ _ h).1⟩
def yX(K:List (List UInt8))(s:List UInt8):Option (Rc×List (List UInt8))×Int:=
 if (aA s 20000).2.2≠0 then(none,(aA s 20000).2.2)
 else match rq Lc K ((aA s 20000).1,false) with
  |(none,_)=>(none,2)
  |(some (x,K'),c)=>if nE c.1 c.2=false\/dI x 2≠0 then(none,2) else(some (x,K'),0)
theorem ig(s:List UInt8)(m:Nat):(aA s m).1.length<=s.length/\(aA s m).2.1.length<=s.length:=by
 unfold aA;split
 ·exact⟨by simp,aF _⟩
 ·split
  ·exact⟨by simp,aF _⟩
  ·split
   ·exact⟨by simp,aF _⟩
   ·split
    ·exact⟨by simp;omega,by simp⟩
    ·exact⟨by simp,aF _⟩
section
variable {w:World} {B n m:Nat} {K:List (List UInt8)} {kv:Value} {D:DataW Unit}
end
theorem KN{W:World}{b:Nat}{T:TypeId}{u0:Value}(h:ag W b T #[u0]):W.cell? ⟨b,0,none⟩=some u0:=(ag.cell h 0).trans rfl
theorem gh{W:World}{b:Nat}{T:TypeId}{u0 u1:Value}(h:ag W b T #[u0,u1]):(W.cell? ⟨b,0,none⟩=some u0/\W.cell? ⟨b,1,none⟩=some u1)/\W.frozen? ⟨b,0,none⟩=false/\W.frozen? ⟨b,1,none⟩=false:=
 ⟨⟨(ag.cell h 0).trans rfl,(ag.cell h 1).trans rfl⟩,ag.frozen h 0,ag.frozen h 1⟩
def fi(K:List (List UInt8))(lt:Int)(lv:Nat)(x:Rc):List UInt8×List (List UInt8)×Int×Nat:=
 if x.kind=0 then(Num.small 0++(cl K x.labels).1++Num.small (Num.zigI (x.t-lt)).toNat++Num.small (x.v^^^lv),(cl K x.labels).2,x.t,x.v)
 else((bI K x).1,(bI K x).2,lt,lv)
def cN:List (List UInt8)->Int->Nat->List Rc->List UInt8×List (List UInt8)
 |K,_,_,[]=>([],K)
 |K,lt,lv,x::R=>let o:=fi K lt lv x;let r:=cN o.2.1 o.2.2.1 o.2.2.2 R;(o.1++r.1,r.2)
def gi(K:List (List UInt8))(R:List Rc):(List UInt8×Bool)×List (List UInt8):=
 if R=[] then(([],true),K)
 else((bM (Num.small R.length++(cN K 0 0 R).1),decide ((Num.small R.length++(cN K 0 0 R).1).length<=20000)),(cN K 0 0 R).2)
def DE(x:Rc):Prop:=(x.kind=0\/x.kind=1\/x.kind=2)/\(de x.labels).length<=700/\(x.kind=0->0<=x.t/\x.t<=1125899906842624)
theorem nu(K:List (List UInt8))(L:List Lb):(cl K L).1.length<=(de L).length+20:=by
 unfold cl;split
 ·have:=Num.small_len (K.idxOf (de L));simp only;omega
 ·have h1:=Num.small_len K.length;have h2:=Num.small_len (de L).length;simp only[aG,Num.text_len];omega
theorem oE(K:List (List UInt8))(x:Rc):(bI K x).1.length<=(de x.labels).length+60:=by
 have h0:=nu K x.labels;have z0:=Num.small_len 0;have z1:=Num.small_len 1;have z2:=Num.small_len 2;have z3:=Num.small_len (aS x.t);have z4:=Num.wide_len x.v;have z5:=Num.small_len (Num.zigI x.t).toNat;have z6:=Num.small_len (Num.zigI x.u).toNat;unfold bI;split
 ·simp only[aG];omega
 ·split
  ·simp only[aG];omega
  ·simp only[aG];omega
section
variable {w:World} {B n m:Nat} {K:List (List UInt8)} {kv:Value} {D:DataW Unit}
theorem rX(R:List Rc)(v:Value)(wA:World)(hA:Below wA.heap.size wA w)(hAB:wA.heap.size<=B)(h:aZ w B n K kv m D)(hR:dw wA v R)(hf:∀x∈R,DE x)(hR1:R.length<=400)(hK:K.length<=1000000)(hB:B<=w.heap.size):
 Calls Tryz.prog 407 #[.agg #[.pointer (some ⟨n,0,none⟩)],v] w fun e w'=>e=.returned (.tuple #[.string (bs (gi K R).1.1),.bool (gi K R).1.2])/\∃kv' D',aZ w' B n (gi K R).2 kv' m D'/\dE w w' (NF n m kv) (NF n m kv'):=by
 obtain⟨a,c,rfl,hn,hc⟩:=hR
 have b0:=ai w (.cells #[.pointer (some ⟨n,0,none⟩)] 244)
 have k0:ag (w.alloc (.cells #[.pointer (some ⟨n,0,none⟩)] 244)) w.heap.size 244 #[.pointer (some ⟨n,0,none⟩)]:=ag.new _ _ _
 by_cases hnil:R=[]
 ·subst hnil;rw[show gi K []=(([],true),K) from by unfold gi;rw[if_pos rfl]];go_enter Tryz.func407,Tryz.ntmps407
  go_wp2_with fail
  go_ret2;exact⟨rfl,kv,D,h.below b0,dE.of_below b0⟩
 have hz:(R.length==0)=false:=by simpa using hnil
 have hRl:0<R.length:=List.length_pos_iff.2 hnil
 have hz':((R.length:Int)==0)=false:=by simp;omega
 have HC:=af hc
 clear hc
 have hP:gi K R=((bM (Num.small R.length++(cN K 0 0 R).1),decide ((Num.small R.length++(cN K 0 0 R).1).length<=20000)),(cN K 0 0 R).2):=by unfold gi;rw[if_neg hnil]
 rw[hP]
 have q0:=af (fun W=>aT (R.length:Int) W (by omega) (by omega))
 rw[show ((R.length:Int).toNat)=R.length from rfl] at q0
 have hwl:IntKind.u64.wrap (R.length:Int)=R.length:=by simp[IntKind.wrap,IntKind.bits,IntKind.signed];omega
 have y0l:=Num.small_len R.length
 have HP:=af (show ∀s,s=Num.small R.length++(cN K 0 0 R).1->bM (Num.small R.length++(cN K 0 0 R).1)=bM s/\decide ((Num.small R.length++(cN K 0 0 R).1).length<=20000)=decide (s.length<=20000) from fun s e=>by rw[e];exact⟨rfl,rfl⟩)
 clear hP
 generalize hy0:Num.small R.length=y0 at*
 go_enter Tryz.func407,Tryz.ntmps407
 go_wp2_with fail
 refine(q0.out _).mono ?_
 rintro e W1 ⟨rfl,hb1⟩
 have hbw1:=ay b0 hb1
 have k1:=ag.below k0 hb1 k0.lt
 have b2:=ai W1 (.cells #[.int .i64 0,.int .u64 0] 127)
 have kl:ag (W1.alloc (.cells #[.int .i64 0,.int .u64 0] 127)) W1.heap.size 127 #[.int .i64 0,.int .u64 0]:=ag.new _ _ _
 have k2:=ag.below k1 b2 k1.lt
 have hN2:=(h.below hbw1).below b2
 have hT2:dE w (W1.alloc (.cells #[.int .i64 0,.int .u64 0] 127)) (NF n m kv) (NF n m kv):=(dE.of_below hbw1).trans (dE.of_below b2)
 have hbB2:Below B w (W1.alloc (.cells #[.int .i64 0,.int .u64 0] 127)):=(hbw1.mono hB).trans (b2.mono (aK hB hbw1.size))
 have hgl:w.heap.size<W1.heap.size:=k1.lt
 clear q0 k0 b0 hb1 hbw1 k1 b2
 go_wp2_with fail
 go_loopw [6,19] (fun vs vi wr=>∃(i:Nat) (s:List UInt8) (Ki:List (List UInt8)) (lt:Int) (lv:Nat) (kvi:Value) (Di:DataW Unit),i<=R.length/\vi=.int .i64 (i:Int)/\vs=.string (bs s)/\s.length<=10+i*1000/\Ki.length<=K.length+i/\0<=lt/\lt<=1125899906842624/\lv<18446744073709551616/\
  (y0++(cN K 0 0 R).1,(cN K 0 0 R).2)=(s++(cN Ki lt lv (R.drop i)).1,(cN Ki lt lv (R.drop i)).2)/\aZ wr B n Ki kvi m Di/\ag wr w.heap.size 244 #[.pointer (some ⟨n,0,none⟩)]/\ag wr W1.heap.size 127 #[.int .i64 lt,.int .u64 (lv:Int)]/\
  dE w wr (NF n m kv) (NF n m kvi)/\Below B w wr) (fun _ vi _=>R.length-(intOf vi).toNat)
 case atStart=>exact⟨0,y0,K,0,0,kv,D,Nat.zero_le _,rfl,rfl,by omega,by omega,by omega,by omega,by omega,by rw[List.drop_zero],hN2,k2,kl,hT2,hbB2⟩
 clear hN2 k2 kl hT2 hbB2 h
 generalize W1.heap.size=gl at*
 obtain⟨i,s,Ki,lt,lv,kvi,Di,hi,rfl,rfl,hsl,hKi,hlt0,hlt1,hlv,hP,hN,hk,hkl,hT,hbB⟩:=hrel
 rcases(show i<R.length\/i=R.length by omega) with hil|rfl
 ·have hfit:=hf R[i] (dK _);rw[List.drop_eq_getElem_cons hil] at hP;obtain⟨b,o,rfl,hRA⟩:=HC.out i _ (aV hil);have hAr:Below wA.heap.size wA wr:=hA.trans (hbB.mono hAB);have hLW:∀sl,aC wA sl R[i].labels->∀W,Below B wr W->aC W sl R[i].labels:=fun sl hsl W hW=>hsl.below (hAr.trans (hW.mono hAB));have hcell:∀{p:Addr} {v:Value},wA.cell? p=some v->wr.cell? p=some v:=fun h=>cu hAr h;obtain⟨hok,sl,e0,e1,hL,e2,e3,e4⟩:=hRA;have e0:=hcell e0;have e1:=hcell e1;have e2:=hcell e2;have e3:=hcell e3;have e4:=hcell e4;have HL:=af (hLW sl hL);obtain⟨va,vc,rfl,_⟩:=hL;have hP2:(y0++(cN K 0 0 R).1,(cN K 0 0 R).2)=(s++(fi Ki lt lv R[i]).1++(cN (fi Ki lt lv R[i]).2.1 (fi Ki lt lv R[i]).2.2.1 (fi Ki lt lv R[i]).2.2.2 (R.drop (i+1))).1,(cN (fi Ki lt lv R[i]).2.1 (fi Ki lt lv R[i]).2.2.1 (fi Ki lt lv R[i]).2.2.2 (R.drop (i+1))).2):=by
   rw[hP,List.append_assoc];rfl
  clear hLW hcell hP;generalize R[i]=x at*;have hB':B<=wr.heap.size:=aK hB hT.kept.size;have hb1:=ai wr (.cells #[.int .i64 x.kind,.slice va x.labels.length vc,.int .i64 x.t,.int .i64 x.u,.int .u64 (x.v:Int)] 108);have kr:ag (wr.alloc (.cells #[.int .i64 x.kind,.slice va x.labels.length vc,.int .i64 x.t,.int .i64 x.u,.int .u64 (x.v:Int)] 108)) wr.heap.size 108 #[.int .i64 x.kind,.slice va x.labels.length vc,.int .i64 x.t,.int .i64 x.u,.int .u64 (x.v:Int)]:=ag.new _ _ _;have hN1:=hN.below hb1;have hk1:=ag.below hk hb1 hk.lt;have hkl1:=ag.below hkl hb1 hkl.lt;have hT1:=hT.trans (dE.of_below hb1);have hbB1:=hbB.trans (Below.mono hb1 hB');have HL1:=af (fun W (hW:Below B (wr.alloc (.cells #[.int .i64 x.kind,.slice va x.labels.length vc,.int .i64 x.t,.int .i64 x.u,.int .u64 (x.v:Int)] 108)) W)=>HL.out W ((hb1.mono hB').trans hW));have hB1:=aK hB' hb1.size;have d0:=KN hk1;by_cases hk0:x.kind=0
  ·simp only[hk0] at kr hN1 hk1 hkl1 hT1 hbB1 HL1 hB1 d0 e0 hb1;have hO:fi Ki lt lv x=(Num.small 0++(cl Ki x.labels).1++Num.small (Num.zigI (x.t-lt)).toNat++Num.small (x.v^^^lv),(cl Ki x.labels).2,x.t,x.v):=by unfold fi;rw[if_pos hk0]
   have htm:=hfit.2.2 hk0;have hxb:x.v^^^lv<18446744073709551616:=Nat.xor_lt_two_pow (n:=64) hok.2.2.2.2.2.2 hlv;have hxr:=u64_xor_nat x.v lv hok.2.2.2.2.2.2 hlv;have hsw:IntKind.i64.wrap (x.t-lt)=x.t-lt:=by simp[IntKind.wrap,IntKind.bits,IntKind.signed];omega
   have hsw2:wrap64 (x.t-lt)=x.t-lt:=by unfold wrap64;omega
   have zb:=Num.zig_bd (x.t-lt) (by omega) (by omega);have q1:=af (fun W=>aT 0 W (by omega) (by omega));rw[show ((0:Int).toNat)=0 from rfl] at q1;have q2:=af (fun W=>(gN (x.t-lt) W (by omega) (by omega)).mono fun e w' ⟨h1,h2⟩=>(show e=Ending.returned (.int .u64 (Num.zigI (x.t-lt)))/\co W w' from⟨h1,h2▸bR⟩));have q3:=af (fun W=>aT (Num.zigI (x.t-lt)) W zb.1 zb.2);have q4:=af (fun W=>aT ((x.v^^^lv:Nat):Int) W (by omega) (by omega));rw[show (((x.v^^^lv:Nat):Int).toNat)=x.v^^^lv from rfl] at q4;have qP:=af (fun (W:World) (hNW:aZ W B n Ki kvi m Di) (hb:Below B (wr.alloc (.cells #[.int .i64 0,.slice va x.labels.length vc,.int .i64 x.t,.int .i64 x.u,.int .u64 (x.v:Int)] 108)) W)=>Dl x.labels (.slice va x.labels.length vc) hNW (HL1.out W hb) (by have:=hfit.2.1;omega) (by omega) (aK hB1 hb.size));have hpl:=nu Ki x.labels;have hpk:=jX Ki x.labels;have z1:=Num.small_len 0;have z2:=Num.small_len (Num.zigI (x.t-lt)).toNat;have z3:=Num.small_len (x.v^^^lv);rw[hO] at hP2;simp only at hP2;rcases hpp:cl Ki x.labels with⟨p1,K2⟩
   rw[hpp] at qP hpl hpk hP2;simp only at hpl hpk hP2;have hkl2:=hfit.2.1;clear hO hpp zb htm;generalize Num.small 0=y1 at*;generalize Num.small (Num.zigI (x.t-lt)).toNat=y2 at*;generalize Num.small (x.v^^^lv)=y3 at*;generalize Num.zigI (x.t-lt)=zt at*;generalize x.v^^^lv=xv at*;have a1:∀W,(Op.stringOp .add (bs y1) (bs p1)).run Tryz.prog W=.ok (.string (bs (y1++p1))) W:=fun W=>aJ (P:=Tryz.prog) _ _ (by omega) W;have a2:∀W,(Op.stringOp .add (bs (y1++p1)) (bs y2)).run Tryz.prog W=.ok (.string (bs (y1++p1++y2))) W:=fun W=>aJ (P:=Tryz.prog) _ _ (by simp;omega) W;have a3:∀W,(Op.stringOp .add (bs (y1++p1++y2)) (bs y3)).run Tryz.prog W=.ok (.string (bs (y1++p1++y2++y3))) W:=fun W=>aJ (P:=Tryz.prog) _ _ (by simp;omega) W;have a4:∀W,(Op.stringOp .add (bs s) (bs (y1++p1++y2++y3))).run Tryz.prog W=.ok (.string (bs (s++(y1++p1++y2++y3)))) W:=fun W=>aJ (P:=Tryz.prog) _ _ (by simp;omega) W;have hsl2:(s++(y1++p1++y2++y3)).length<=10+(i+1)*1000:=by simp;omega
   generalize s++(y1++p1++y2++y3)=s2 at*;generalize y1++p1++y2++y3=z3 at*;generalize y1++p1++y2=z2 at*;generalize y1++p1=z1 at*;have HP2:=af hP2;clear hP2;obtain⟨⟨r0,r1,r2,r3,r4⟩,_⟩:=CE kr;obtain⟨⟨l0,l1⟩,_⟩:=gh hkl1;have n1':=dV hN1 (aP hk1) (by decide) (by decide);have n2':=dV hN1 (aP kr) (by decide) (by decide);have n3':=dV hN1 (aP hkl1) (by decide) (by decide);have g0:=cL (h:=hN1) (K':=K2) d0 n1';have g1:=cL (h:=hN1) (K':=K2) r1 n2';have g2:=cL (h:=hN1) (K':=K2) r2 n2';have g4:=cL (h:=hN1) (K':=K2) r4 n2';have g5:=cL (h:=hN1) (K':=K2) l0 n3';have g6:=cL (h:=hN1) (K':=K2) l1 n3';have HQ:=af (fun (W:World) (hW:co (wr.alloc (.cells #[.int .i64 0,.slice va x.labels.length vc,.int .i64 x.t,.int .i64 x.u,.int .u64 (x.v:Int)] 108)) W)=>qP.out W (hN1.below hW) (Below.mono hW hB1));go_wp2_with fail
   refine dZ (qZ hN1 K2) [7] rfl (by kernel_rfl) (by kernel_rfl) (by kernel_rfl) (by kernel_rfl) ?_
   (refine jY fun K hK=>?_;go_big_quiet_step (fail);refine hK _ ?_;clear hK K)
   (refine IV (f:=32) (args:=#[.int .u64 0]) (v:=.string (bs y1)) (fun W hW=>q1.out W) fun K hK=>?_;go_big_quiet_step (fail);refine hK _ ?_;clear hK K);iterate 5 (refine jY fun K hK=>?_;go_big_quiet_step (fail);refine hK _ ?_;clear hK K)
   (refine AV 0 (f:=396) (args:=#[.pointer (some ⟨n,0,none⟩),.slice va x.labels.length vc]) (v:=.string (bs p1)) (fun W hW=>pM hW (HQ.out W)) fun K hK=>?_;go_big_quiet_step (fail);refine hK _ ?_;clear hK K);iterate 6 (refine jY fun K hK=>?_;go_big_quiet_step (fail);refine hK _ ?_;clear hK K)
   (refine IV (f:=181) (args:=#[.int .i64 (x.t-lt)]) (v:=.int .u64 zt) (fun W hW=>q2.out W) fun K hK=>?_;go_big_quiet_step (fail);refine hK _ ?_;clear hK K)
   (refine IV (f:=32) (args:=#[.int .u64 zt]) (v:=.string (bs y2)) (fun W hW=>q3.out W) fun K hK=>?_;go_big_quiet_step (fail);refine hK _ ?_;clear hK K);iterate 6 (refine jY fun K hK=>?_;go_big_quiet_step (fail);refine hK _ ?_;clear hK K)
   (refine IV (f:=32) (args:=#[.int .u64 (xv:Int)]) (v:=.string (bs y3)) (fun W hW=>q4.out W) fun K hK=>?_;go_big_quiet_step (fail);refine hK _ ?_;clear hK K);iterate 3 (refine jY fun K hK=>?_;go_big_quiet_step (fail);refine hK _ ?_;clear hK K)
   refine Dz ?_;rintro W2 _ hp;obtain⟨_,kv2,D2,hN2,hT2⟩:=hp.resolve_left (fun e=>by cases e.1);simp only[aB];have hk2:=hk1.keptK hT2.kept n1';have kr2:=kr.keptK hT2.kept n2';have hkl2':=hkl1.keptK hT2.kept n3';have hbb:=hbB1.trans (ak.below hT2.kept hB1 hN1.ge);obtain⟨⟨r0,r1,r2,r3,r4⟩,_⟩:=CE kr2;obtain⟨⟨l0,l1⟩,f0,f1⟩:=gh hkl2';have hkl3:ag ((W2.setCell ⟨gl,0,none⟩ (.int .i64 x.t)).setCell ⟨gl,1,none⟩ (.int .u64 (x.v:Int))) gl 127 #[.int .i64 x.t,.int .u64 (x.v:Int)]:=ag.set_ (ag.set_ hkl2' 0 _) 1 _;have hk23:ak W2 ((W2.setCell ⟨gl,0,none⟩ (.int .i64 x.t)).setCell ⟨gl,1,none⟩ (.int .u64 (x.v:Int))) (fun k=>k=gl):=ak.of_grown (bl (ap _ _ _ _) (ap _ _ _ _)) fun k e=>(az e).symm;have n4':=dV hN2 (aP hkl2') (by decide) (by decide);have hN3:=hN2.kept hk23 (fun k hk e=>n4' (e▸hk));have hk3:=hk2.keptK hk23 (by omega);have hT3:dE w ((W2.setCell ⟨gl,0,none⟩ (.int .i64 x.t)).setCell ⟨gl,1,none⟩ (.int .u64 (x.v:Int))) (NF n m kv) (NF n m kv2):=by
    have:=hT1.trans hT2;exact⟨this.kept.new_keep hk23 (by omega),this.grow⟩
   have hbb3:=hbb.trans (ak.below hk23 (aK hB1 hT2.kept.size) (fun k hk=>by omega));clear g0 g1 g2 g4 g5 g6 d0 q1 q2 q3 q4 qP HQ hk hkl hk1 hkl1 kr kr2;go_wp2_with fail
   go_roundw
   case rel=>exact⟨i+1,s2,K2,x.t,x.v,kv2,D2,by omega,by go_num,rfl,hsl2,by omega,(hfit.2.2 hk0).1,(hfit.2.2 hk0).2,hok.2.2.2.2.2.2,HP2.out,hN3,hk3,hkl3,hT3,hbb3⟩
   case measure=>simp[intOf];omega
  ·have hO:fi Ki lt lv x=((bI Ki x).1,(bI Ki x).2,lt,lv):=by unfold fi;rw[if_neg hk0]
   rw[hO] at hP2;simp only at hP2;have q:=af (zr x (.slice va x.labels.length vc) hN1 hok hfit.1 (fun W hW=>HL1.out W hW) (by have:=hfit.2.1;omega) (by omega) hB1);rw[show rS x (.slice va x.labels.length vc)=.agg #[.int .i64 x.kind,.slice va x.labels.length vc,.int .i64 x.t,.int .i64 x.u,.int .u64 (x.v:Int)] from rfl] at q;have hkk:=iI Ki x;have hll:=oE Ki x;have hkl2:=hfit.2.1;rcases hso:bI Ki x with⟨p1,K2⟩
   rw[hso] at q hP2 hkk hll;simp only at q hP2 hkk hll;have hadd:∀W,(Op.stringOp .add (bs s) (bs p1)).run Tryz.prog W=.ok (.string (bs (s++p1))) W:=fun W=>aJ (P:=Tryz.prog) _ _ (by omega) W;have hsl2:(s++p1).length<=10+(i+1)*1000:=by simp;omega
   generalize s++p1=s2 at*;have HP2:=af hP2;clear hP2 hO hso;obtain⟨⟨r0,r1,r2,r3,r4⟩,_⟩:=CE kr;have hkz:(x.kind != 0)=true:=by simpa using hk0
   have hkz2:(x.kind==0)=false:=by simpa using hk0
   go_wp2_with fail
   refine q.out.mono ?_;rintro e W2 ⟨rfl,kv2,D2,hN2,hT2⟩;have hk2:=hk1.keptK hT2.kept (dV hN1 (aP hk1) (by decide) (by decide));have hkl2':=hkl1.keptK hT2.kept (dV hN1 (aP hkl1) (by decide) (by decide));have hbb:=hbB1.trans (ak.below hT2.kept hB1 hN1.ge);clear q hk hkl hk1 hkl1 kr;go_wp2_with fail
   go_roundw
   case rel=>exact⟨i+1,s2,K2,lt,lv,kv2,D2,by omega,by go_num,rfl,hsl2,by omega,hlt0,hlt1,hlv,HP2.out,hN2,hk2,hkl2',hT1.trans hT2,hbb⟩
   case measure=>simp[intOf];omega
 ·rw[List.drop_length] at hP;have e1:=(Prod.mk.inj hP).1;have e2:=(Prod.mk.inj hP).2;rw[show cN Ki lt lv []=([],Ki) from rfl] at e1 e2;simp only[List.append_nil] at e1;simp only at e2;have HE:=af (HP.out s e1.symm);have HE2:=af e2;have q:=af (fun W=>ie s (by omega) W);clear hP e1 e2 HP HC;go_wp2_with fail
  refine(q.out _).mono ?_;rintro e W3 ⟨rfl,hb3⟩;go_wp2_with fail
  go_ret2;refine⟨?_,kvi,Di,by rw[HE2.out];exact hN.below hb3,hT.trans (dE.of_below hb3)⟩;rw[HE.out.1,HE.out.2];simp;omega
end
def Kz (lt:Int)(lv:Nat)(c:CS):(Int×Nat)×CS:=((wrap64 (lt+Num.zagI (sV c)),lv^^^(sV (sN c)).toNat),sN (sN c))
theorem uu{w0:World}{g:Nat}{cs:List CS}{c0:CS}{h0:cs[0]?=some c0}{hC:gz w0 g c0.1 c0.2}{p:Addr}{v:Value}(hp:w0.cell? p=some v)(hn:p.block≠g):∀x:PW (uv w0 g cs c0 h0 hC),x.w.cell? p=some v:=fun x=>by
 obtain⟨q,hk,_⟩:=x.2;exact hk.cell hp hn
def jB:Nat->List (List UInt8)->Int->Nat->CS->Option (List Rc×List (List UInt8))×CS
 |0,K,_,_,c=>(some ([],K),c)
 |q+1,K,lt,lv,c=>match rq (Kz lt lv) K c with
  |(none,c')=>(none,c')
  |(some (x,K'),c')=>if dI x 3≠0 then(none,c')
   else match jB q K' (if x.kind=0 then x.t else lt) (if x.kind=0 then x.v else lv) c' with
    |(none,c2)=>(none,c2)
    |(some (l,K2),c2)=>(some (x::l,K2),c2)
def Iz(K:List (List UInt8))(s:List UInt8):Option (List Rc×List (List UInt8))×Int:=
 if (aA s 20000).2.2≠0 then(none,(aA s 20000).2.2)
 else if sV ((aA s 20000).1,false)=0\/20000<sV ((aA s 20000).1,false) then(none,2)
 else match jB (sV ((aA s 20000).1,false)).toNat K 0 0 (sN ((aA s 20000).1,false)) with
  |(none,_)=>(none,2)
  |(some (l,K'),c)=>if nE c.1 c.2=false then(none,2) else(some (l,K'),0)
theorem vh(K:List (List UInt8))(c:CS)(L:List Lb)(K':List (List UInt8))(c':CS)(h:jo K c=(some (L,K'),c')):K'.length<=K.length+1/\∀k∈K',k∈K\/k.length<=600:=by
 unfold jo at h;split at h
 ·cases h
 ·split at h
  ·have h1:=(Prod.mk.inj h).1;cases ho:Lx (K.getD (sV c).toNat []) with
   |none=>rw[ho] at h1;cases h1
   |some L0=>
    rw[ho] at h1;simp only[Option.bind_some] at h1;split at h1
    ·obtain⟨_,rfl⟩:=Prod.mk.inj (az h1);exact⟨by omega,fun k hk=>.inl hk⟩
    ·cases h1
  ·split at h
   ·cases h
   ·have h1:=(Prod.mk.inj h).1;cases ho:Lx (tT (sN c) 600) with
    |none=>rw[ho] at h1;cases h1
    |some L0=>
     rw[ho] at h1;simp only[Option.map_some] at h1;obtain⟨_,rfl⟩:=Prod.mk.inj (az h1);refine⟨by simp,fun k hk=>?_⟩;rcases List.mem_append.1 hk with h|h
     ·exact .inl h
     ·obtain rfl:=List.mem_singleton.1 h;refine .inr ?_;unfold tT;split
      ·simp
      ·cases ht:Num.getText (sN c).1 600 with
       |none=>simp[gR]
       |some x=>
        obtain⟨x,j⟩:=x;have:=(Cj _ _ _ _ ht).1;simp[gR];omega
theorem ud(smp:CS->(Int×Nat)×CS)(K:List (List UInt8))(c:CS)(x:Rc)(K':List (List UInt8))(c':CS)(h:rq smp K c=(some (x,K'),c')):K'.length<=K.length+1/\∀k∈K',k∈K\/k.length<=600:=by
 unfold rq at h;split at h
 ·cases h
 ·split at h
  ·split at h
   ·cases h
   ·obtain⟨h1,_⟩:=Prod.mk.inj h;obtain⟨_,rfl⟩:=Prod.mk.inj (az h1);exact⟨by omega,fun k hk=>.inl hk⟩
  ·rcases hn:jo K (sN c) with⟨r,c2⟩
   rw[hn] at h;cases r with
   |none=>cases h
   |some z=>
    obtain⟨L,K2⟩:=z;have hk:=vh K (sN c) L K2 c2 hn;simp only at h;split at h
    ·split at h
     ·cases h
     ·obtain⟨h1,_⟩:=Prod.mk.inj h;obtain⟨_,rfl⟩:=Prod.mk.inj (az h1);exact hk
    ·split at h
     ·cases h
     ·obtain⟨h1,_⟩:=Prod.mk.inj h;obtain⟨_,rfl⟩:=Prod.mk.inj (az h1);exact hk
theorem Gj(lt:Int)(lv:Nat)(c:CS):(Kz lt lv c).2.1.length<=c.1.length:=aK (eu _ _) (eu _ _)
theorem u9(Z:List (Rc×Value)):(aU Z).length=Z.length*5:=by
 induction Z with
 |nil=>rfl
 |cons z Z ih=>unfold aU at*;rw[List.flatMap_cons,aG,ih,cY];simp[gq];omega
section
variable {w:World} {B n m:Nat} {K:List (List UInt8)} {kv:Value} {D:DataW Unit}
end
def oe(g:Int)(n:Nat):Value:=if g=1 then .iface 240 (.agg #[]) else if g=2 then .iface 242 (.agg #[.pointer (some ⟨n,0,none⟩)]) else .iface 244 (.agg #[.pointer (some ⟨n,0,none⟩)])
theorem rD(g:Int)(n:Nat)(w:World):Calls Tryz.prog 106 #[.int .i64 g,.pointer (some ⟨n,0,none⟩)] w fun e w'=>e=.returned (oe g n)/\w=w':=by
 by_cases h1:g=1
 ·subst h1;go_enter Tryz.func106,Tryz.ntmps106
  go_wp2;go_ret;exact⟨rfl,rfl⟩
 by_cases h2:g=2
 ·subst h2;go_enter Tryz.func106,Tryz.ntmps106
  go_wp2;go_ret;exact⟨rfl,rfl⟩
 have hv:oe g n=.iface 244 (.agg #[.pointer (some ⟨n,0,none⟩)]):=by unfold oe;rw[if_neg h1,if_neg h2]
 rw[hv];have e1:(g==1)=false:=by simpa using h1
 have e2:(g==2)=false:=by simpa using h2
 clear h1 h2 hv;go_enter Tryz.func106,Tryz.ntmps106
 go_wp2;go_ret;exact⟨rfl,rfl⟩
theorem nF:∀(l:List Lb) (last:List UInt8),fq last l=true->∀y∈l,y.1.length<=48/\y.2.length<=48
 |[],_,_,y,hy=>by cases hy
 |x::l,last,h,y,hy=>by
  unfold fq at h;simp only[Bool.and_eq_true] at h;obtain⟨_,h2,_,h4,h5⟩:=h;rcases List.mem_cons.1 hy with rfl|hy
  ·unfold mH at h2 h4;simp only[Bool.and_eq_true,decide_eq_true_eq] at h2 h4;exact⟨h2.2.2,h4.2.2⟩
  ·exact nF l _ h5 y hy
theorem yo(L:List Lb)(h:bD L=0):L.length<=6/\∀y∈L,y.1.length<=48/\y.2.length<=48:=by
 unfold bD at h;split at h
 ·rename_i hc;simp only[Bool.and_eq_true,decide_eq_true_eq] at hc;exact⟨hc.2.2,nF L _ hc.1⟩
 ·cases h
theorem tS:∀(L:List Lb),(∀y∈L,y.1.length<=48/\y.2.length<=48)->(de L).length<=L.length*116
 |[],_=>by simp[de]
 |x::L,h=>by
  have ih:=tS L fun y hy=>h y (List.mem_cons_of_mem _ hy);have hx:=h x List.mem_cons_self;have e:de (x::L)=Num.text x.1++Num.text x.2++de L:=by unfold de;rw[List.flatMap_cons]
  have s1:=Num.small_len x.1.length;have s2:=Num.small_len x.2.length;rw[e,aG,aG,Num.text_len,Num.text_len,cY];omega
theorem nM(x:Rc)(h:mg x=true):DG x/\DF x/\DE x:=by
 unfold mg at h;unfold DG DF DE;have hc:∀{b:Bool},(decide (bD x.labels=0)&&b)=true->x.labels.length<=6/\(de x.labels).length<=696:=fun hb=>by
  simp only[Bool.and_eq_true,decide_eq_true_eq] at hb;obtain⟨h1,h2⟩:=yo _ hb.1;have:=tS _ h2;exact⟨h1,by omega⟩
 by_cases k0:x.kind=0
 ·rw[if_pos k0] at h;obtain⟨h1,h2⟩:=hc h;unfold aX at h;simp only[Bool.and_eq_true,decide_eq_true_eq] at h;exact⟨⟨by omega,h1⟩,⟨.inl k0,by omega⟩,.inl k0,by omega,fun _=>⟨h.2.1.1,h.2.1.2⟩⟩
 ·rw[if_neg k0] at h;by_cases k1:x.kind=1
  ·rw[if_pos k1] at h;obtain⟨h1,h2⟩:=hc h;exact⟨⟨by omega,h1⟩,⟨.inr (.inl k1),by omega⟩,.inr (.inl k1),by omega,fun e=>absurd e k0⟩
  ·rw[if_neg k1] at h;by_cases k2:x.kind=2
   ·rw[if_pos k2] at h;simp only[Bool.and_eq_true,decide_eq_true_eq] at h;have hl:x.labels=[]:=List.length_eq_zero_iff.1 h.1;rw[hl];exact⟨⟨by omega,by simp⟩,⟨.inr (.inr k2),by simp[de]⟩,.inr (.inr k2),by simp[de],fun e=>absurd e k0⟩
   ·rw[if_neg k2] at h;cases h
theorem l9(x:Rc)(g:Int)(h:dI x g=0):mg x=true:=by
 unfold dI at h;split at h
 ·cases h
 ·rename_i hr;simpa using hr
theorem lw(K:List (List UInt8))(L:List Lb):∀k∈(cl K L).2,k∈K\/k=de L:=fun k hk=>by
 unfold cl at hk;split at hk
 ·exact .inl hk
 ·rcases List.mem_append.1 hk with h|h
  ·exact .inl h
  ·exact .inr (List.mem_singleton.1 h)
theorem oD(K:List (List UInt8))(x:Rc):∀k∈(bI K x).2,k∈K\/k=de x.labels:=fun k hk=>by
 unfold bI at hk;split at hk
 ·exact lw K _ k hk
 ·split at hk
  ·exact lw K _ k hk
  ·exact .inl hk
theorem nj:∀(R:List Rc) (K:List (List UInt8)),(∀x∈R,(de x.labels).length<=2000)->(bp K R).2.length<=K.length+R.length/\∀k∈(bp K R).2,k∈K\/k.length<=2000
 |[],K,_=>⟨by simp[bp],fun k hk=>.inl hk⟩
 |x::R,K,h=>by
  have h1:=iI K x;have h2:=oD K x;have hx:=h x List.mem_cons_self;have h3:∀k∈(bI K x).2,k∈K\/k.length<=2000:=fun k hk=>(h2 k hk).imp id fun e=>by rw[e];exact hx
  unfold bp;split
  ·exact⟨by simp;omega,h3⟩
  ·have ih:=nj R (bI K x).2 fun y hy=>h y (List.mem_cons_of_mem _ hy);refine⟨by simp;omega,fun k hk=>?_⟩;exact(ih.2 k hk).elim (h3 k) .inr
theorem AE(K:List (List UInt8))(lt:Int)(lv:Nat)(x:Rc)(hx:(de x.labels).length<=2000):(fi K lt lv x).2.1.length<=K.length+1/\∀k∈(fi K lt lv x).2.1,k∈K\/k.length<=2000:=by
 unfold fi;split
 ·exact⟨jX K _,fun k hk=>(lw K _ k hk).imp id fun e=>by rw[e];exact hx⟩
 ·exact⟨iI K x,fun k hk=>(oD K x k hk).imp id fun e=>by rw[e];exact hx⟩
theorem pn:∀(R:List Rc) (K:List (List UInt8)) (lt:Int) (lv:Nat),(∀x∈R,(de x.labels).length<=2000)->(cN K lt lv R).2.length<=K.length+R.length/\∀k∈(cN K lt lv R).2,k∈K\/k.length<=2000
 |[],K,_,_,_=>⟨by simp[cN],fun k hk=>.inl hk⟩
 |x::R,K,lt,lv,h=>by
  have h1:=AE K lt lv x (h x List.mem_cons_self);have ih:=pn R (fi K lt lv x).2.1 (fi K lt lv x).2.2.1 (fi K lt lv x).2.2.2 fun y hy=>h y (List.mem_cons_of_mem _ hy);unfold cN;refine⟨by simp only[cY];have:=ih.1;omega,fun k hk=>?_⟩;exact(ih.2 k hk).elim (h1.2 k) .inr
def jw(g:Int):List Rc->Int
 |[]=>0
 |x::R=>if dI x g=0 then jw g R else dI x g
def iP(g:Int)(K:List (List UInt8))(R:List Rc):Option (List UInt8)×List (List UInt8):=
 if g=1 then(some (nY R),K) else if g=2 then bp K R else(if (gi K R).1.2 then some (gi K R).1.1 else none,(gi K R).2)
def dd(g:Int)(K:List (List UInt8))(R:List Rc):List UInt8×Option (List (List UInt8))×Int:=
 if fX g=false then([],none,1) else if jw g R≠0 then([],none,jw g R)
 else match iP g K R with
  |(none,_)=>([],none,7)
  |(some s,K')=>(s,some K',0)
theorem Bz(g:Int)(K:List (List UInt8))(R:List Rc)(h:∀x∈R,(de x.labels).length<=2000):(iP g K R).2.length<=K.length+R.length/\∀k∈(iP g K R).2,k∈K\/k.length<=2000:=by
 unfold iP;split
 ·exact⟨by simp,fun k hk=>.inl hk⟩
 ·split
  ·exact nj R K h
  ·unfold gi;split
   ·exact⟨by simp,fun k hk=>.inl hk⟩
   ·exact pn R K 0 0 h
theorem jQ:∀(g:Int) (R:List Rc),jw g R=0->∀x∈R,dI x g=0
 |_,[],_,x,hx=>by cases hx
 |g,y::R,h,x,hx=>by
  unfold jw at h;by_cases hv:dI y g=0
  ·rw[if_pos hv] at h;rcases List.mem_cons.1 hx with rfl|hx
   ·exact hv
   ·exact jQ g R h x hx
  ·rw[if_neg hv] at h;exact absurd h hv
theorem Jj{W:World}{b:Nat}{T:TypeId}{u0 u1:Value}(h:ag W b T #[u0,u1])(v0 v1:Value):
 ag ((W.setCell ⟨b,0,none⟩ v0).setCell ⟨b,1,none⟩ v1) b T #[v0,v1]/\ak W ((W.setCell ⟨b,0,none⟩ v0).setCell ⟨b,1,none⟩ v1) (fun k=>k=b):=
 ⟨ag.set_ (ag.set_ h 0 v0) 1 v1,ak.of_grown (bl (ap _ _ _ _) (ap _ _ _ _)) fun _ e=>(az e).symm⟩
def FV (w:World)(B n m:Nat)(kv:Value)(r:Option (List UInt8)×List (List UInt8))(e:Ending)(w':World):Prop:=
 ∃s5,e=.returned (.tuple #[.string s5,.bool r.1.isSome])/\(∀s,r.1=some s->s5=bs s)/\∃kv' D',(r.1≠none->aZ w' B n r.2 kv' m D')/\dE w w' (NF n m kv) (NF n m kv')
section
variable {w wA:World} {B n m:Nat} {K:List (List UInt8)} {kv v:Value} {D:DataW Unit} {R:List Rc}
theorem Lp(hA:Below wA.heap.size wA w)(h:aZ w B n K kv m D)(hR:dw wA v R)(hf:∀x∈R,DG x):
 Calls Tryz.prog 400 #[.agg #[],v] w (FV w B n m kv (iP 1 K R)):=by
 refine(vq R v w (hR.below hA) hf).mono ?_
 rintro e w' ⟨rfl,hb⟩
 exact⟨_,rfl,fun s e=>by cases e;rfl,kv,D,fun _=>h.below hb,dE.of_below hb⟩
theorem Lo(hA:Below wA.heap.size wA w)(hAB:wA.heap.size<=B)(h:aZ w B n K kv m D)(hR:dw wA v R)(hf:∀x∈R,DF x)(hK:K.length+R.length<=1048576)(hB:B<=w.heap.size):
 Calls Tryz.prog 402 #[.agg #[.pointer (some ⟨n,0,none⟩)],v] w (FV w B n m kv (iP 2 K R)):=by
 refine(uV R v wA hA hAB h hR hf hK hB).mono ?_
 rintro e w' ⟨rfl,kv',D',h1,h2⟩
 have hp:iP 2 K R=bp K R:=rfl
 rw[hp]
 cases hs:(bp K R).1 with
 |none=>exact⟨⟨#[]⟩,(by rw[hs];rfl),(fun s (e:(bp K R).1=some s)=>by rw[hs] at e;cases e),kv',D',h1,h2⟩
 |some s0=>exact⟨bs s0,(by rw[hs];rfl),(fun s (e:(bp K R).1=some s)=>by rw[hs] at e;cases e;rfl),kv',D',h1,h2⟩
theorem Ln(hA:Below wA.heap.size wA w)(hAB:wA.heap.size<=B)(h:aZ w B n K kv m D)(hR:dw wA v R)(hf:∀x∈R,DE x)(hR1:R.length<=400)(hK:K.length<=1000000)(hB:B<=w.heap.size):
 Calls Tryz.prog 407 #[.agg #[.pointer (some ⟨n,0,none⟩)],v] w (FV w B n m kv (iP 3 K R)):=by
 refine(rX R v wA hA hAB h hR hf hR1 hK hB).mono ?_
 rintro e w' ⟨rfl,kv',D',h1,h2⟩
 have hp:iP 3 K R=(if (gi K R).1.2 then some (gi K R).1.1 else none,(gi K R).2):=rfl
 rw[hp]
 cases hs:(gi K R).1.2 with
 |false=>exact⟨_,rfl,fun s e=>by simp at e,kv',D',fun _=>h1,h2⟩
 |true=>exact⟨_,rfl,fun s e=>by simp at e;rw[e],kv',D',fun _=>h1,h2⟩
end
def DR(w:World)(g:Int)(kv:Value)(K:List (List UInt8))(R:List Rc)(e:Ending)(w':World):Prop:=
 Below w.heap.size w w'/\match (dd g K R).2.1 with
  |none=>e=.returned (.tuple #[.string ⟨#[]⟩,eo g kv,.int .i64 (dd g K R).2.2])
  |some K'=>∃kv',e=.returned (.tuple #[.string (bs (dd g K R).1),eo g kv',.int .i64 0])/\jC w' kv' K'/\∀b,kv'.ownBlock=some b->ng w' b=some (some 9)
theorem JW(g:Int)(kv v:Value)(K:List (List UInt8))(R:List Rc)(w:World)(hKA:jC w kv K)(hR:dw w v R)(hK:K.length<=1000000)(hR1:R.length<=400)(g1: -9223372036854775808<=g)(g2:g<=9223372036854775807):
 Calls Tryz.prog 34 #[eo g kv,v] w (DR w g kv K R):=by
 obtain⟨ka,kcap,rfl,_⟩:=id hKA
 have hb0:Below w.heap.size w ((w.alloc (.cells #[.int .i64 g,.slice ka K.length kcap] 78)).alloc (.cells #[.int .i64 0,.slice none 0 0] 78)):=((Below.refl _ w).alloc (aF _) _).alloc (by simp) _
 have hw0:ag ((w.alloc (.cells #[.int .i64 g,.slice ka K.length kcap] 78)).alloc (.cells #[.int .i64 0,.slice none 0 0] 78)) w.heap.size 78 #[.int .i64 g,.slice ka K.length kcap]:=(ag.new w _ _).alloc _
 have hr0:ag ((w.alloc (.cells #[.int .i64 g,.slice ka K.length kcap] 78)).alloc (.cells #[.int .i64 0,.slice none 0 0] 78)) (w.heap.size+1) 78 #[.int .i64 0,.slice none 0 0]:=by
  have:=ag.new (w.alloc (.cells #[.int .i64 g,.slice ka K.length kcap] 78)) 78 #[.int .i64 0,.slice none 0 0];rwa[aW] at this
 rw[show eo g (.slice ka K.length kcap)=.agg #[.int .i64 g,.slice ka K.length kcap] from rfl]
 generalize hW0:(w.alloc (.cells #[.int .i64 g,.slice ka K.length kcap] 78)).alloc (.cells #[.int .i64 0,.slice none 0 0] 78)=W0 at*
 have q1:=af (fun W=>vV g W)
 have HE:=af (show ∀(W W':World) (e:Int),(dd g K R).2=(none,e)->Below w.heap.size w W->ak W W' (fun k=>k=w.heap.size+1)->DR w g (.slice ka K.length kcap) K R (.returned (.tuple #[.string ⟨#[]⟩,.agg #[.int .i64 g,.slice ka K.length kcap],.int .i64 e])) W' from fun W W' e he hb hk=>by
  unfold DR
  rw[he]
  exact⟨hb.trans (ak.below hk hb.size (fun k hk=>by omega)),rfl⟩)
 cases hkn:fX g with
 |false=>
  have HP:=af (show (dd g K R).2=(none,1) by unfold dd;rw[if_pos hkn]);rw[hkn] at q1;obtain⟨⟨c0,c1⟩,_⟩:=gh hw0;go_enter Tryz.func34,Tryz.ntmps34
  go_wp2_with fail
  refine(q1.out _).mono ?_;rintro e _ ⟨rfl,rfl⟩;have e0:=gJ (T:=78) (cs':=#[.int .i64 g,.slice ka K.length kcap]) c0 (show w.heap.size≠w.heap.size+1 by omega);have e1:=gJ (T:=78) (cs':=#[.int .i64 g,.slice ka K.length kcap]) c1 (show w.heap.size≠w.heap.size+1 by omega);clear c0 c1 hW0;go_wp2_with fail
  refine dZ (Gh W0 (w.heap.size+1) 78 #[.int .i64 g,.slice ka K.length kcap]) [2] rfl (by kernel_rfl) (by kernel_rfl) (by kernel_rfl) (by kernel_rfl) ?_;iterate 2 (refine jY fun K hK=>?_;go_big_quiet_step (fail);refine hK _ ?_;clear hK K)
  refine i8 0 (by kernel_rfl) (by kernel_rfl) rfl (fun _ _ h=>by cases h) (by kernel_rfl) rfl (fun W hW=>?_) ?_
  ·have hWb:=(hW.resolve_right (fun e=>e.1 rfl)).2;have kW:=ag.below hr0 hWb hr0.lt;obtain⟨⟨r0,r1⟩,s0,s1⟩:=gh kW;have hs2:=Jj kW (.int .i64 g) (.slice ka K.length kcap);exact⟨_,by go_simp,trivial,.inr ⟨by omega,(ak.of_below hWb).trans hs2.2,hs2.1⟩⟩
  (refine jY fun K hK=>?_;go_big_quiet_step (fail);refine hK _ ?_;clear hK K);refine Dz ?_;rintro WE _ hp;obtain⟨_,hkE,kE⟩:=hp.resolve_left (fun e=>by cases e.1);simp only[aB];go_wp2_with fail
  (try simp only[Exit.inBlock,Exit.then]);refine bodyPost_ret (gL rfl _ _ (w.heap.size+1) 78 _ _ rfl kE Tryz.underlying78 rfl (by kernel_rfl)) rfl ?_;exact HE.out W0 WE 1 HP.out hb0 hkE
 |true=>
  rw[hkn] at q1;obtain⟨ra,rcap,rfl,hn,hrc⟩:=hR;have HC:=af hrc;clear hrc;obtain⟨⟨c0,c1⟩,_⟩:=gh hw0;go_enter Tryz.func34,Tryz.ntmps34
  go_wp2_with fail
  refine(q1.out _).mono ?_;rintro e _ ⟨rfl,rfl⟩;clear c0 c1 hW0 q1;go_wp2_with fail
  go_loopw [20] (fun vi wr=>∃i:Nat,i<=R.length/\vi=.int .i64 (i:Int)/\jw g R=jw g (R.drop i)/\Below W0.heap.size W0 wr) (fun vi _=>R.length-(intOf vi).toNat)
  case atStart=>exact⟨0,Nat.zero_le _,rfl,rfl,bR⟩
  obtain⟨i,hi,rfl,hfe,hb⟩:=hrel;have hw1:=ag.below hw0 hb hw0.lt;have hr1:=ag.below hr0 hb hr0.lt;have hbw:=ay hb0 hb;clear hw0 hr0;rcases(show i<R.length\/i=R.length by omega) with hil|rfl
  ·rw[List.drop_eq_getElem_cons hil] at hfe;obtain⟨b,o,rfl,hRA⟩:=HC.out i _ (aV hil);have hRA:=hRA.below hbw;generalize R[i]=x at*;obtain⟨hok,sl,e0,e1,hL,e2,e3,e4⟩:=hRA;obtain⟨va,vc,rfl,_⟩:=id hL;have hf2:jw g R=if dI x g=0 then jw g (R.drop (i+1)) else dI x g:=hfe
   obtain⟨⟨c0,c1⟩,_⟩:=gh hw1;have b2:=ai wr (.cells #[.int .i64 x.kind,.slice va x.labels.length vc,.int .i64 x.t,.int .i64 x.u,.int .u64 (x.v:Int)] 108);have c0':=cu b2 c0;have qV:=af (qj x (.slice va x.labels.length vc) g _ hok (hL.below b2) g1 g2);rw[show rS x (.slice va x.labels.length vc)=.agg #[.int .i64 x.kind,.slice va x.labels.length vc,.int .i64 x.t,.int .i64 x.u,.int .u64 (x.v:Int)] from rfl] at qV;have HF:=af hf2;clear hfe hf2;generalize dI x g=ve at*;go_wp2_with fail
   generalize wr.alloc (.cells #[.int .i64 x.kind,.slice va x.labels.length vc,.int .i64 x.t,.int .i64 x.u,.int .u64 (x.v:Int)] 108)=W2 at*;refine qV.out.mono ?_;rintro e W3 ⟨rfl,hb3⟩;have hb13:Below wr.heap.size wr W3:=ay b2 hb3;have hb03:=ay hb hb13;by_cases h0v:ve=0
   ·subst h0v;have HF2:=af (HF.out.trans (if_pos rfl));clear HE HF qV;go_wp2_with fail
    go_roundw
    case rel=>exact⟨i+1,by omega,by go_num,HF2.out,hb03⟩
    case measure=>simp[intOf];omega
   ·have hvz:(ve != 0)=true:=by simpa using h0v
    have hvz2:(ve==0)=false:=by simpa using h0v
    have hFe:jw g R=ve:=HF.out.trans (if_neg h0v);have HP:=af (show (dd g K R).2=(none,ve) by unfold dd;rw[if_neg (by rw[hkn];simp),if_pos (by rw[hFe];exact h0v),hFe]);have hw3:=ag.below hw1 hb13 hw1.lt;have hr3:=ag.below hr1 hb13 hr1.lt;clear c0 c1 c0' e0 e1 e2 e3 e4 qV hFe HF;obtain⟨⟨c0,c1⟩,_⟩:=gh hw3;have e0:=gJ (T:=78) (cs':=#[.int .i64 g,.slice ka K.length kcap]) c0 (show w.heap.size≠w.heap.size+1 by omega);have e1:=gJ (T:=78) (cs':=#[.int .i64 g,.slice ka K.length kcap]) c1 (show w.heap.size≠w.heap.size+1 by omega);clear c0 c1;go_wp2_with fail
    refine dZ (Gh W3 (w.heap.size+1) 78 #[.int .i64 g,.slice ka K.length kcap]) [3] rfl (by kernel_rfl) (by kernel_rfl) (by kernel_rfl) (by kernel_rfl) ?_;iterate 3 (refine jY fun K hK=>?_;go_big_quiet_step (fail);refine hK _ ?_;clear hK K)
    refine i8 0 (by kernel_rfl) (by kernel_rfl) rfl (fun _ _ h=>by cases h) (by kernel_rfl) rfl (fun W hW=>?_) ?_
    ·have hWb:=(hW.resolve_right (fun e=>e.1 rfl)).2;have kW:=ag.below hr3 hWb hr3.lt;obtain⟨⟨r0,r1⟩,s0,s1⟩:=gh kW;have hs2:=Jj kW (.int .i64 g) (.slice ka K.length kcap);exact⟨_,by go_simp,trivial,.inr ⟨by omega,(ak.of_below hWb).trans hs2.2,hs2.1⟩⟩
    (refine jY fun K hK=>?_;go_big_quiet_step (fail);refine hK _ ?_;clear hK K);refine Dz ?_;rintro WE _ hp;obtain⟨_,hkE,kE⟩:=hp.resolve_left (fun e=>by cases e.1);simp only[aB];go_wp2_with fail
    (try simp only[Exit.inBlock,Exit.then]);refine bodyPost_ret (gL rfl _ _ (w.heap.size+1) 78 _ _ rfl kE Tryz.underlying78 rfl (by kernel_rfl)) rfl ?_;exact HE.out W3 WE ve HP.out (ay hb0 hb03) hkE
  ·rw[List.drop_length] at hfe;have hF0:jw g R=0:=hfe;have hval:=jQ g R hF0;have hfits:=fun x hx=>nM x (l9 x g (hval x hx));have hPw:dd g K R=match iP g K R with
    |(none,_)=>([],none,7)
    |(some s,K')=>(s,some K',0):=by unfold dd;rw[if_neg (by rw[hkn];simp),if_neg (by rw[hF0];simp)]
   have hpk:=Bz g K R (fun x hx=>aK (hfits x hx).2.2.2.1 (by omega));have q2:=af (GM g (.slice ka K.length kcap) K wr (hKA.below hbw));rw[show eo g (.slice ka K.length kcap)=.agg #[.int .i64 g,.slice ka K.length kcap] from rfl] at q2;obtain⟨⟨c0,c1⟩,_⟩:=gh hw1;go_wp2_with fail
   refine q2.out.mono ?_;rintro e W4 ⟨n,m,kv4,D4,rfl,hN4,hb4⟩;have hw4:=ag.below hw1 hb4 hw1.lt;have hr4:=ag.below hr1 hb4 hr1.lt;clear c0 c1 q2 hw1 hr1;obtain⟨⟨c0,c1⟩,_⟩:=gh hw4;have q3:=af (fun W=>rD g n W);have hAW:Below w.heap.size w W4:=ay hbw hb4;have hRw:dw w (.slice ra R.length rcap) R:=⟨ra,rcap,rfl,hn,HC.out⟩
   have hg3:g=1\/g=2\/g=3:=by
    unfold fX at hkn;simp only[Bool.and_eq_true,decide_eq_true_eq] at hkn;omega
   clear hval hF0 hfe HC hkn;have K1:=fun (h1:g=1)=>And.intro (show oe g n=.iface 240 (.agg #[]) from by rw[h1];rfl) (af (show Calls Tryz.prog 400 #[.agg #[],.slice ra R.length rcap] W4 (FV W4 wr.heap.size n m kv4 (iP g K R)) from by rw[h1];exact Lp hAW hN4 hRw (fun x hx=>(hfits x hx).1)));have K2:=fun (h1:g=2)=>And.intro (show oe g n=.iface 242 (.agg #[.pointer (some ⟨n,0,none⟩)]) from by rw[h1];rfl) (af (show Calls Tryz.prog 402 #[.agg #[.pointer (some ⟨n,0,none⟩)],.slice ra R.length rcap] W4 (FV W4 wr.heap.size n m kv4 (iP g K R)) from by rw[h1];exact Lo hAW hbw.size hN4 hRw (fun x hx=>(hfits x hx).2.1) (by omega) hb4.size));have K3:=fun (h1:g=3)=>And.intro (show oe g n=.iface 244 (.agg #[.pointer (some ⟨n,0,none⟩)]) from by rw[h1];rfl) (af (show Calls Tryz.prog 407 #[.agg #[.pointer (some ⟨n,0,none⟩)],.slice ra R.length rcap] W4 (FV W4 wr.heap.size n m kv4 (iP g K R)) from by rw[h1];exact Ln hAW hbw.size hN4 hRw (fun x hx=>(hfits x hx).2.2) hR1 hK hb4.size));rcases hg3 with h1|h1|h1
   case' inl=>obtain⟨hc,q4⟩:=K1 h1
   case' inr.inl=>obtain⟨hc,q4⟩:=K2 h1
   case' inr.inr=>obtain⟨hc,q4⟩:=K3 h1
   all_goals
    rw[hc] at q3
    clear hc h1 K1 K2 K3
    clear hfits
    rcases hpb:iP g K R with⟨r,K'⟩
    rw[hpb] at q4 hPw hpk
    go_wp2_with fail
    refine(q3.out _).mono ?_
    rintro e _ ⟨rfl,rfl⟩
    go_wp2_with fail
    refine q4.out.mono ?_
    rintro e W5 ⟨s5,rfl,hs5,kv5,D5,hN5,hT5⟩
    simp only at hs5 hN5 hpk
    have hw5:=hw4.keptK hT5.kept (dV hN4 (aP hw4) (by decide) (by decide))
    have hr5:=hr4.keptK hT5.kept (dV hN4 (aP hr4) (by decide) (by decide))
    have hbW5:=(hbw.mono (aF _)).trans ((hb4.mono hbw.size).trans ((ak.below hT5.kept hb4.size hN4.ge).mono hbw.size))
    clear q4 q3 hw4 hr4 c0 c1 hN4 hT5 hb4
    obtain⟨⟨c0,c1⟩,_⟩:=gh hw5
    cases r with
    |none=>
     have HP:=af (show (dd g K R).2=(none,7) by rw[hPw]);have e0:=gJ (T:=78) (cs':=#[.int .i64 g,.slice ka K.length kcap]) c0 (show w.heap.size≠w.heap.size+1 by omega);have e1:=gJ (T:=78) (cs':=#[.int .i64 g,.slice ka K.length kcap]) c1 (show w.heap.size≠w.heap.size+1 by omega);clear c0 c1 hPw;go_wp2_with fail
     refine dZ (Gh W5 (w.heap.size+1) 78 #[.int .i64 g,.slice ka K.length kcap]) [2] rfl (by kernel_rfl) (by kernel_rfl) (by kernel_rfl) (by kernel_rfl) ?_;iterate 2 (refine jY fun K hK=>?_;go_big_quiet_step (fail);refine hK _ ?_;clear hK K)
     refine i8 0 (by kernel_rfl) (by kernel_rfl) rfl (fun _ _ h=>by cases h) (by kernel_rfl) rfl (fun W hW=>?_) ?_
     ·have hWb:=(hW.resolve_right (fun e=>e.1 rfl)).2;have kW:=ag.below hr5 hWb hr5.lt;obtain⟨⟨r0,r1⟩,s0,s1⟩:=gh kW;have hs2:=Jj kW (.int .i64 g) (.slice ka K.length kcap);exact⟨_,by go_simp,trivial,.inr ⟨by omega,(ak.of_below hWb).trans hs2.2,hs2.1⟩⟩
     (refine jY fun K hK=>?_;go_big_quiet_step (fail);refine hK _ ?_;clear hK K);refine Dz ?_;rintro WE _ hp;obtain⟨_,hkE,kE⟩:=hp.resolve_left (fun e=>by cases e.1);simp only[aB];go_wp2_with fail
     (try simp only[Exit.inBlock,Exit.then]);refine bodyPost_ret (gL rfl _ _ (w.heap.size+1) 78 _ _ rfl kE Tryz.underlying78 rfl (by kernel_rfl)) rfl ?_;exact HE.out W5 WE 7 HP.out hbW5 hkE
    |some s0=>
     obtain rfl:=hs5 s0 rfl;have hN5:=hN5 (by simp);obtain⟨na,nc,rfl⟩:=hN5.form;have n0:=(gh hN5.blk).1.1;have hnw:n≠w.heap.size+1:=fun e=>by
      have:=aP hN5.blk;rw[e,aP hr5] at this;simp at this
     have e0:=gJ (T:=78) (cs':=#[.int .i64 g,.slice na K'.length nc]) c0 (show w.heap.size≠w.heap.size+1 by omega);have e1:=gJ (T:=78) (cs':=#[.int .i64 g,.slice na K'.length nc]) n0 hnw;have HP:=af (show dd g K R=(s0,some K',0) by rw[hPw]);have hKA5:jC W5 (.slice na K'.length nc) K':=nP hN5.row (by omega) (fun x hx=>(hpk.2 x hx).elim (fun h=>by
      obtain⟨i,hi⟩:=List.getElem?_of_mem h
      obtain⟨_,_,_,_,hq⟩:=hKA
      exact(hq i x hi).1) (fun h=>by omega))
     have hnk:=dV hN5 (aP hr5) (by decide) (by decide);have hrowt:=hN5.row;clear c0 c1 n0 hPw;go_wp2_with fail
     refine dZ (Gh W5 (w.heap.size+1) 78 #[.int .i64 g,.slice na K'.length nc]) [9] rfl (by kernel_rfl) (by kernel_rfl) (by kernel_rfl) (by kernel_rfl) ?_;iterate 7 (refine jY fun K hK=>?_;go_big_quiet_step (fail);refine hK _ ?_;clear hK K)
     (refine Lh (v:=.agg #[.int .i64 g,.slice na K'.length nc]) (fun W hW=>by skip;go_simp) fun K hK=>?_;go_big_quiet_step (fail);refine hK _ ?_;clear hK K)
     (refine jY fun K hK=>?_;go_big_quiet_step (fail);refine hK _ ?_;clear hK K);refine i8 0 (by kernel_rfl) (by kernel_rfl) rfl (fun _ _ h=>by cases h) (by kernel_rfl) rfl (fun W hW=>?_) ?_
     ·have hWb:=(hW.resolve_right (fun e=>e.1 rfl)).2;have kW:=ag.below hr5 hWb hr5.lt;obtain⟨⟨r0,r1⟩,s0,s1⟩:=gh kW;have hs2:=Jj kW (.int .i64 g) (.slice na K'.length nc);exact⟨_,by go_simp,trivial,.inr ⟨by omega,(ak.of_below hWb).trans hs2.2,hs2.1⟩⟩
     (refine jY fun K hK=>?_;go_big_quiet_step (fail);refine hK _ ?_;clear hK K);refine Dz ?_;rintro WE _ hp;obtain⟨_,hkE,kE⟩:=hp.resolve_left (fun e=>by cases e.1);simp only[aB];go_wp2_with fail
     (try simp only[Exit.inBlock,Exit.then]);refine bodyPost_ret (gL rfl _ _ (w.heap.size+1) 78 _ _ rfl kE Tryz.underlying78 rfl (by kernel_rfl)) rfl ?_;unfold DR;rw[HP.out];refine⟨hbW5.trans (ak.below hkE hbW5.size (fun k hk=>by omega)),_,rfl,?_⟩;have hrowE:=aw hrowt hkE (fun b hb e=>hnk (by rw[<-e];exact .inr (.inr hb)));refine⟨?_,fun b hb=>bg hrowE hb⟩;exact nP hrowE (by omega) (fun x hx=>(hpk.2 x hx).elim (fun h=>by
      obtain⟨i,hi⟩:=List.getElem?_of_mem h
      obtain⟨_,_,_,_,hq⟩:=hKA
      exact(hq i x hi).1) (fun h=>by omega))
theorem Gn(c:CS)(h:(sN c).2=false):(sN c).1.length<c.1.length:=by
 unfold sN Num.nxt at*;split at h
 ·rename_i h1;rw[h1] at h;cases h
 ·rename_i h1;rw[if_neg h1];cases hg:Num.getSmall c.1 with
  |none=>rw[hg] at h;cases h
  |some x=>
   obtain⟨v,k⟩:=x;obtain⟨_,h2,h3⟩:=Num.getSmall_only _ _ _ hg;have:=Num.small_len v;have:=congrArg List.length h3;simp only[aG,List.length_drop] at this⊢;omega
theorem uf(smp:CS->(Int×Nat)×CS)(hs:∀c,(smp c).2.1.length<=c.1.length)(K:List (List UInt8))(c:CS)(x:Rc)(K':List (List UInt8))(c':CS)(h:rq smp K c=(some (x,K'),c')):c'.1.length<c.1.length:=by
 by_cases hb:(sN c).2=true\/2<sV c
 ·unfold rq at h;rw[if_pos hb] at h;cases h
 ·have hb2:(sN c).2=false:=by
   cases he:(sN c).2 with
   |false=>rfl
   |true=>exact absurd (.inl he) hb
  have h1:=Gn c hb2;refine Nat.lt_of_le_of_lt ?_ h1;have h2:=xP K (sN c);unfold rq at h;rw[if_neg hb] at h;split at h
  ·split at h
   ·cases h
   ·rw[<-(Prod.mk.inj h).2];exact eu _ _
  ·rcases hn:jo K (sN c) with⟨r,c2⟩
   rw[hn] at h h2;cases r with
   |none=>cases h
   |some z=>
    obtain⟨L,K2⟩:=z;dsimp only at h;split at h
    ·split at h
     ·cases h
     ·rw[<-(Prod.mk.inj h).2];exact aK (hs _) h2
    ·split at h
     ·cases h
     ·rw[<-(Prod.mk.inj h).2];exact aK (aK (eu _ _) (eu _ _)) h2
theorem Gk(c:CS):(Lc c).2.1.length<=c.1.length:=aK (eu _ _) (eu _ _)
theorem lT:∀(q:Nat) (K:List (List UInt8)) (lt:Int) (lv:Nat) (c:CS) (l:List Rc) (K':List (List UInt8)) (c':CS),jB q K lt lv c=(some (l,K'),c')->K'.length+c'.1.length<=K.length+c.1.length/\l.length+c'.1.length<=c.1.length/\∀k∈K',k∈K\/k.length<=600
 |0,K,lt,lv,c,l,K',c',h=>by
  obtain⟨h1,rfl⟩:=Prod.mk.inj h;obtain⟨rfl,rfl⟩:=Prod.mk.inj (az h1);exact⟨aF _,by simp,fun k hk=>.inl hk⟩
 |q+1,K,lt,lv,c,l,K',c',h=>by
  unfold jB at h;rcases hg:rq (Kz lt lv) K c with⟨r,c1⟩
  rw[hg] at h;cases r with
  |none=>cases h
  |some z=>
   obtain⟨x,K1⟩:=z;have h1:=uf _ (Gj lt lv) K c x K1 c1 hg;have h2:=ud _ K c x K1 c1 hg;dsimp only at h;split at h
   ·cases h
   ·rcases hr:jB q K1 (if x.kind=0 then x.t else lt) (if x.kind=0 then x.v else lv) c1 with⟨r2,c2⟩
    rw[hr] at h;cases r2 with
    |none=>cases h
    |some z2=>
     obtain⟨l2,K2⟩:=z2;have ih:=lT q K1 _ _ c1 l2 K2 c2 hr;obtain⟨h3,rfl⟩:=Prod.mk.inj h;obtain⟨rfl,rfl⟩:=Prod.mk.inj (az h3);refine⟨by omega,by simp only[cY];omega,fun k hk=>?_⟩;exact(ih.2.2 k hk).elim (h2.2 k) .inr
theorem nA(s:List UInt8)(m:Nat)(h:(aA s m).2.2=0):(aA s m).1.length+(aA s m).2.1.length<s.length:=by
 unfold aA at h⊢;cases hg:Num.getSmall s with
 |none=>
  rw[hg] at h;simp only at h;split at h<;>cases h
 |some z=>
  obtain⟨n,k⟩:=z;rw[hg] at h;simp only at h⊢;split at h
  ·cases h
  ·rename_i h1;rw[if_neg h1];split at h
   ·cases h
   ·rename_i h2;rw[if_neg h2];split at h
    ·rename_i h3;rw[if_pos h3];simp only[dp,List.length_drop] at h2⊢;omega
    ·cases h
def rp(g:Int)(K:List (List UInt8))(s:List UInt8):Option (List Rc×List (List UInt8)×List UInt8)×Int:=
 if g=1 then match fY s with
  |(none,e)=>(none,e)
  |(some x,e)=>(some ([x],K,s.drop 186),e)
 else if g=2 then match yX K s with
  |(none,e)=>(none,e)
  |(some (x,K'),e)=>(some ([x],K',(aA s 20000).2.1),e)
 else match Iz K s with
  |(none,e)=>(none,e)
  |(some (l,K'),e)=>(some (l,K',(aA s 20000).2.1),e)
theorem Cm(g:Int)(K:List (List UInt8))(s:List UInt8)(l:List Rc)(K':List (List UInt8))(r:List UInt8)(e:Int)(h:rp g K s=(some (l,K',r),e)):K'.length+r.length<=K.length+s.length/\l.length+r.length<=s.length/\r.length<s.length/\∀k∈K',k∈K\/k.length<=600:=by
 unfold rp at h;split at h
 ·unfold fY at h;split at h
  ·cases h
  ·rename_i x e2 hf;obtain⟨h1,_⟩:=Prod.mk.inj h;obtain⟨rfl,h2⟩:=Prod.mk.inj (az h1);obtain⟨rfl,rfl⟩:=Prod.mk.inj h2;split at hf
   ·cases hf
   ·refine⟨by simp,by simp;omega,by simp;omega,fun k hk=>.inl hk⟩
 ·split at h
  ·split at h
   ·cases h
   ·rename_i x K2 e2 hf;obtain⟨h1,_⟩:=Prod.mk.inj h;obtain⟨rfl,h2⟩:=Prod.mk.inj (az h1);obtain⟨rfl,rfl⟩:=Prod.mk.inj h2;unfold yX at hf;split at hf
    ·cases hf
    ·rename_i hz;have hc:=nA s 20000 (by simpa using hz);split at hf
     ·cases hf
     ·rename_i x3 K3 c3 hp;split at hf
      ·cases hf
      ·obtain⟨h4,_⟩:=Prod.mk.inj hf;obtain⟨rfl,rfl⟩:=Prod.mk.inj (az h4);have h5:=uf _ Gk _ _ _ _ _ hp;have h6:=ud _ _ _ _ _ _ hp;simp only at h5;refine⟨by omega,by simp only[cY,List.length_nil];omega,by omega,h6.2⟩
  ·split at h
   ·cases h
   ·rename_i l2 K2 e2 hf;obtain⟨h1,_⟩:=Prod.mk.inj h;obtain⟨rfl,h2⟩:=Prod.mk.inj (az h1);obtain⟨rfl,rfl⟩:=Prod.mk.inj h2;unfold Iz at hf;split at hf
    ·cases hf
    ·rename_i hz;have hc:=nA s 20000 (by simpa using hz);split at hf
     ·cases hf
     ·split at hf
      ·cases hf
      ·rename_i x3 K3 c3 hp;split at hf
       ·cases hf
       ·obtain⟨h4,_⟩:=Prod.mk.inj hf;obtain⟨rfl,rfl⟩:=Prod.mk.inj (az h4);have h5:=lT _ _ _ _ _ _ _ _ hp;have h6:(sN ((aA s 20000).1,false)).1.length<=(aA s 20000).1.length:=eu _ _;refine⟨by omega,by omega,by omega,h5.2.2⟩
def dm(g:Int):Nat->List (List UInt8)->List UInt8->Option (List Rc×List (List UInt8)×List UInt8×Bool)
 |0,K,s=>some ([],K,s,false)
 |q+1,K,s=>if s=[] then some ([],K,s,false) else match rp g K s with
  |(none,e)=>if e=2 then none else some ([],K,s,true)
  |(some (l,K',r),_)=>match dm g q K' r with
   |none=>none
   |some (l2,K2,r2,t)=>some (l++l2,K2,r2,t)
structure Sg where
 gen:Int
 flags:Int
 recs:List Rc
 keys:List (List UInt8)
 used:Int
 torn:Bool
def ep(s:List UInt8):Option Sg×Int:=
 match cW s cv with
 |(g,f,r,e)=>if e≠0 then(none,e) else match dm g r.length [] r with
  |none=>(none,9)
  |some (l,K,r2,t)=>(some ⟨g,f,l,K,(s.length:Int)-r2.length,t⟩,0)
def ip(Z:List Rc):Option (List Rc×List (List UInt8)×List UInt8×Bool)->Option (List Rc×List (List UInt8)×List UInt8×Bool)
 |none=>none
 |some (l,K,r,t)=>some (Z++l,K,r,t)
theorem AB(x:Option (List Rc×List (List UInt8)×List UInt8×Bool)):ip [] x=x:=by
 cases x<;>rfl
theorem AC(a b:List Rc)(x:Option (List Rc×List (List UInt8)×List UInt8×Bool)):ip a (ip b x)=ip (a++b) x:=by
 cases x with
 |none=>rfl
 |some z=>simp[ip]
theorem ED(s:List UInt8)(h:(cW s cv).2.2.2=0):1<=(cW s cv).1/\(cW s cv).1<=3/\(cW s cv).2.1<=3/\(cW s cv).2.2.1=s.drop 10/\10<=s.length:=by
 unfold cW at h⊢;split
 ·rename_i h1;rw[if_pos h1] at h;cases h
 ·rename_i h1;rw[if_neg h1] at h;split at h
  ·cases h
  ·rename_i b hb;split at h
   ·cases h
   ·rename_i h2;split at h
    ·cases h
    ·rename_i h3;split at h
     ·cases h
     ·rename_i h4;simp only[if_neg h2,if_neg h3,if_neg h4];have:cv.length=4:=rfl;refine⟨by omega,by omega,by omega,rfl,by omega⟩
def Lw (w:World)(B n m:Nat)(kv:Value)(s:List UInt8)(r:Option (List Rc×List (List UInt8)×List UInt8)×Int)(e:Ending)(w':World):Prop:=
 Below B w w'/\match r.1 with
  |none=>e=.returned (.tuple #[.slice none 0 0,.string (bs s),.int .i64 r.2])/\(r.2=2\/(r.2=1/\Below w.heap.size w w'))
  |some (l,K',rest)=>∃v Z kv' D',e=.returned (.tuple #[v,.string (bs rest),.int .i64 0])/\IL w' v Z/\Z.map (·.1)=l/\aZ w' B n K' kv' m D'/\dE w w' (NF n m kv) (NF n m kv')
theorem Fi(s:List UInt8)(h:(fY s).1=none):(fY s).2=2\/(fY s).2=1:=by
 unfold fY at*;split
 ·exact .inr rfl
 ·rename_i h1;rw[if_neg h1] at h;split
  ·exact .inl rfl
  ·rename_i h2;rw[if_neg h2] at h;cases h
section
variable {w:World} {B n m:Nat} {K:List (List UInt8)} {kv:Value} {D:DataW Unit}
theorem Lq(s:List UInt8)(h:aZ w B n K kv m D)(hl:s.length<=1000000)(hB:B<=w.heap.size):
 Calls Tryz.prog 398 #[.agg #[],.string (bs s)] w (Lw w B n m kv s (rp 1 K s)):=by
 refine(vr s w hl).mono ?_
 rintro e w' ⟨h1,hb⟩
 have hp:rp 1 K s=match fY s with
  |(none,e)=>(none,e)
  |(some x,e)=>(some ([x],K,s.drop 186),e):=rfl
 have hs:=Fi s
 unfold rN at h1
 rw[hp]
 rcases hf:fY s with⟨r,e1⟩
 rw[hf] at h1 hs
 cases r with
 |none=>exact⟨hb.mono hB,h1,(hs rfl).imp id fun h=>⟨h,hb⟩⟩
 |some x=>
  obtain⟨v,sl,rfl,hg⟩:=h1;exact⟨hb.mono hB,v,_,kv,D,rfl,hg,rfl,h.below hb,dE.of_below hb⟩
end
theorem np:∀(Z:List (Rc×Value)) (i:Nat) (z:Rc×Value),Z[i]?=some z->∀j u,(gq z.1 z.2)[j]?=some u->(aU Z)[i*5+j]?=some u
 |[],i,z,h,_,_,_=>by simp at h
 |y::Z,0,z,h,j,u,hj=>by
  obtain rfl:y=z:=by simpa using h
  unfold aU;rw[List.flatMap_cons,Nat.zero_mul,Nat.zero_add,List.getElem?_append_left,hj];exact(List.getElem?_eq_some_iff.1 hj).1
 |y::Z,i+1,z,h,j,u,hj=>by
  have ih:=np Z i z (by simpa using h) j u hj;unfold aU at*;rw[List.flatMap_cons,show (i+1)*5+j=5+(i*5+j) by omega,show 5+(i*5+j)=(gq y.1 y.2).length+(i*5+j) from rfl,List.getElem?_append_right (by omega),Nat.add_sub_cancel_left];exact ih
theorem Bv{w:World}{B:Nat}{v:Value}{Z:List (Rc×Value)}(h:w.ownsRow B 108 5 v Z.length (aU Z))(hn:Z.length<=1048576)(hl:∀z∈Z,z.1.ok/\cT w z.2 z.1.labels):dw w v (Z.map (·.1)):=by
 have hcells:∀g,v.ownBlock=some g->∀j u,(aU Z)[j]?=some u->w.cell? ((⟨g,0,none⟩:Addr).add j)=some u:=fun g hg=>h.cells (g:=g) hg;rcases h.2 with⟨e,e0⟩|⟨g,cap,cur,e,e1,e2,e3⟩
 ·refine⟨none,0,by rw[e,List.length_map,e0],by rwa[List.length_map],fun i x hx=>?_⟩;rw[List.length_eq_zero_iff.1 e0] at hx;simp at hx
 ·refine⟨some ⟨g,0,none⟩,cap,by rw[List.length_map];exact e,by rwa[List.length_map],fun i x hx=>?_⟩;rw[List.getElem?_map] at hx;cases hz:Z[i]? with
  |none=>rw[hz] at hx;cases hx
  |some z=>
   rw[hz] at hx;obtain rfl:z.1=x:=by simpa using hx
   obtain⟨hok,hL⟩:=hl z (List.mem_of_getElem? hz);have hc:∀j u,(gq z.1 z.2)[j]?=some u->w.cell? ⟨g,0+i*5+j,none⟩=some u:=fun j u hj=>by
    have:=hcells g (by rw[e];rfl) (i*5+j) u (np Z i z hz j u hj);rw[eY] at this;rw[show 0+i*5+j=i*5+j by omega];exact this
   refine⟨g,0,rfl,hok,z.2,?_,?_,hL.1,?_,?_,?_⟩
   ·exact hc 0 _ rfl
   ·exact hc 1 _ rfl
   ·exact hc 2 _ rfl
   ·exact hc 3 _ rfl
   ·exact hc 4 _ rfl
theorem gG{W:World}{b:Nat}{T:TypeId}{u0 u1 u2 u3 u4 u5:Value}(h:ag W b T #[u0,u1,u2,u3,u4,u5]):
 (W.cell? ⟨b,0,none⟩=some u0/\W.cell? ⟨b,1,none⟩=some u1/\W.cell? ⟨b,2,none⟩=some u2/\W.cell? ⟨b,3,none⟩=some u3/\W.cell? ⟨b,4,none⟩=some u4/\W.cell? ⟨b,5,none⟩=some u5)/\
  W.frozen? ⟨b,0,none⟩=false/\W.frozen? ⟨b,1,none⟩=false/\W.frozen? ⟨b,2,none⟩=false/\W.frozen? ⟨b,3,none⟩=false/\W.frozen? ⟨b,4,none⟩=false/\W.frozen? ⟨b,5,none⟩=false:=
 ⟨⟨(ag.cell h 0).trans rfl,(ag.cell h 1).trans rfl,(ag.cell h 2).trans rfl,(ag.cell h 3).trans rfl,(ag.cell h 4).trans rfl,(ag.cell h 5).trans rfl⟩,ag.frozen h 0,ag.frozen h 1,ag.frozen h 2,ag.frozen h 3,ag.frozen h 4,ag.frozen h 5⟩
theorem uZ{w:World}(Z:List (Rc×Value))(h:∀z∈Z,z.1.ok/\cT w z.2 z.1.labels):∀u∈aU Z,u.oneCell'=true:=fun u hu=>by
 unfold aU at hu;obtain⟨z,hz,hu⟩:=List.mem_flatMap.1 hu;obtain⟨a,c,e,_⟩:=(h z hz).2.1;rw[e] at hu;simp only[gq,List.mem_cons,List.not_mem_nil,or_false] at hu;rcases hu with rfl|rfl|rfl|rfl|rfl<;>rfl
theorem KC{W:World}{b:Nat}{T:TypeId}{u0 u1 u2 u3 u4 u5:Value}(h:ag W b T #[u0,u1,u2,u3,u4,u5])(v0 v1 v2 v3 v4 v5:Value):
 ag ((((((W.setCell ⟨b,0,none⟩ v0).setCell ⟨b,1,none⟩ v1).setCell ⟨b,2,none⟩ v2).setCell ⟨b,3,none⟩ v3).setCell ⟨b,4,none⟩ v4).setCell ⟨b,5,none⟩ v5) b T #[v0,v1,v2,v3,v4,v5]/\
  ak W ((((((W.setCell ⟨b,0,none⟩ v0).setCell ⟨b,1,none⟩ v1).setCell ⟨b,2,none⟩ v2).setCell ⟨b,3,none⟩ v3).setCell ⟨b,4,none⟩ v4).setCell ⟨b,5,none⟩ v5) (fun k=>k=b):=
 ⟨ag.set_ (ag.set_ (ag.set_ (ag.set_ (ag.set_ (ag.set_ h 0 v0) 1 v1) 2 v2) 3 v3) 4 v4) 5 v5,
  ak.of_grown (bl (bl (bl (bl (bl (ap _ _ _ _) (ap _ _ _ _)) (ap _ _ _ _)) (ap _ _ _ _)) (ap _ _ _ _)) (ap _ _ _ _)) fun _ e=>(az e).symm⟩
theorem Hv{W:World}{p gx:Nat}{Z:List (Rc×Value)}{T:TypeId}{a0 a1 a2 a4 a5:Value}{t:Bool}(hpc:∀j u,(aU Z)[j]?=some u->W.cell? ((⟨p,0,none⟩:Addr).add j)=some u)(hx:ag W gx T #[a0,a1,a2,.bool t,a4,a5]):
 ∀(j:Nat) (u:Value),(aU Z)[j]?=some u->p≠gx:=fun j u hj e=>by
 cases Z with
 |nil=>cases hj
 |cons z Z=>
  have:=hpc 3 (.int .i64 z.1.u) rfl;rw[eY,e] at this;have:=this.symm.trans (gG hx).1.2.2.2.1;cases this
def om(s:List UInt8)(e:Ending)(w':World):Prop:=match (ep s).1 with
 |none=>e=.returned (.tuple #[.agg #[.int .i64 0,.slice none 0 0,.int .i64 0,.bool false,.int .i64 0,.slice none 0 0],.int .i64 (ep s).2])
 |some x=>∃rv kv,e=.returned (.tuple #[.agg #[.int .i64 x.flags,rv,.int .i64 x.used,.bool x.torn,.int .i64 x.gen,kv],.int .i64 0])/\dw w' rv x.recs/\jC w' kv x.keys
def Gf:Value->Nat
 |.string b=>b.size
 |_=>0
def kU(w:World)(g:Nat):Nat:=match w.cell? ⟨g,3,none⟩ with
 |some (.bool true)=>0
 |_=>1
theorem IH(s:List UInt8)(w:World)(hl:s.length<=1000000)(h1g:(cW s cv).2.2.2=0->(cW s cv).1=1):
 Calls Tryz.prog 139 #[.string (bs s)] w fun e w'=>om s e w'/\Below w.heap.size w w':=by
 have b0:=ai w (.cells #[.int .i64 0,.slice none 0 0,.int .i64 0,.bool false,.int .i64 0,.slice none 0 0] 204)
 have k0:ag (w.alloc (.cells #[.int .i64 0,.slice none 0 0,.int .i64 0,.bool false,.int .i64 0,.slice none 0 0] 204)) w.heap.size 204 #[.int .i64 0,.slice none 0 0,.int .i64 0,.bool false,.int .i64 0,.slice none 0 0]:=ag.new _ _ _
 have q0:=af (fun W=>AL s cv (by omega) (by decide) W)
 have hm:(⟨#[65,87,65,76]⟩:ByteArray)=bs cv:=rfl
 have hR0:ep s=match cW s cv with
  |(g,f,r,e)=>if e≠0 then(none,e) else match dm g r.length [] r with
   |none=>(none,9)
   |some (l,K,r2,t)=>(some ⟨g,f,l,K,(s.length:Int)-r2.length,t⟩,0):=rfl
 have hgen:=ED s
 have HB:=af (show ∀w' x,ep s=(none,x)->Below w.heap.size w w'->om s (.returned (.tuple #[.agg #[.int .i64 0,.slice none 0 0,.int .i64 0,.bool false,.int .i64 0,.slice none 0 0],.int .i64 x])) w'/\Below w.heap.size w w' from fun w' x e hb=>by
  unfold om
  rw[e]
  exact⟨rfl,hb⟩)
 have HT:=af (show ∀w' x rv kv,ep s=(some x,0)->Below w.heap.size w w'->dw w' rv x.recs->jC w' kv x.keys->om s (.returned (.tuple #[.agg #[.int .i64 x.flags,rv,.int .i64 x.used,.bool x.torn,.int .i64 x.gen,kv],.int .i64 0])) w'/\Below w.heap.size w w' from fun w' x rv kv e hb h1 h2=>by
  unfold om
  rw[e]
  exact⟨⟨rv,kv,rfl,h1,h2⟩,hb⟩)
 generalize ep s=R at*
 rcases hop:cW s cv with⟨g,f,r0,e0⟩
 rw[hop] at q0 hR0 hgen h1g
 rw[show oO (g,f,r0,e0)=.tuple #[.int .i64 (g:Int),.int .i64 (f:Int),.string (bs r0),.int .i64 e0] from rfl] at q0
 simp only at hR0 hgen h1g
 clear hop
 by_cases he:e0=0
 ·subst he;rw[if_neg (by simp)] at hR0;obtain⟨hg1,hg3,hf3,hr0,hs10⟩:=hgen rfl;have hr0l:r0.length+10<=s.length:=by rw[hr0,List.length_drop];omega
  have HR:=af hR0;have H1:=af (h1g rfl);clear hR0 hgen hr0 h1g;go_enter Tryz.func139,Tryz.ntmps139
  go_wp2_with fail
  refine(q0.out _).mono ?_;rintro e W1 ⟨rfl,hb1⟩;have k1:=ag.below k0 hb1 k0.lt;have hbw1:=ay b0 hb1;have qo:=af (GM 0 (.slice none 0 0) [] W1 ⟨none,0,rfl,by simp,fun i x hx=>by simp at hx⟩);rw[show eo 0 (.slice none 0 0)=.agg #[.int .i64 0,.slice none 0 0] from rfl] at qo;clear k0 b0 hb1 q0;go_wp2_with fail
  refine qo.out.mono ?_;rintro e W2 ⟨n,m,kv,D,rfl,hN,hb2⟩;have k2:=ag.below k1 hb2 k1.lt;have hbw2:=ay hbw1 hb2;have qc:=af (fun W=>rD (g:Int) n W);have hB2:=hb2.size;have hBw:=k1.lt;clear k1 hb2 qo;generalize W1.heap.size=B at*;go_wp2_with fail
  refine(qc.out _).mono ?_;rintro e _ ⟨rfl,rfl⟩;have kx:ag (W2.alloc (.cells #[.int .i64 (f:Int),.slice none 0 0,.int .i64 0,.bool false,.int .i64 0,.slice none 0 0] 204)) W2.heap.size 204 #[.int .i64 (f:Int),.slice none 0 0,.int .i64 0,.bool false,.int .i64 0,.slice none 0 0]:=ag.new _ _ _;have hb3:=ai W2 (.cells #[.int .i64 (f:Int),.slice none 0 0,.int .i64 0,.bool false,.int .i64 0,.slice none 0 0] 204);have hlk:=k2.lt;clear qc;go_wp2_with fail
  generalize W2.alloc (.cells #[.int .i64 (f:Int),.slice none 0 0,.int .i64 0,.bool false,.int .i64 0,.slice none 0 0] 204)=W3 at*;have k3:=ag.below k2 hb3 hlk;have hN3:=hN.below hb3;have hbw3:=ay hbw2 hb3;have hB3:B<=W3.heap.size:=aK hB2 hb3.size;clear k2 hN hbw2 hb3;generalize W2.heap.size=gx at*;have hrow0:W3.ownsRow w.heap.size 108 5 (.slice none 0 0) ([]:List (Rc×Value)).length (aU []):=eE;generalize hwb:w.heap.size=bw at*;go_loopw [6] (fun v6 wr=>∃(r:List UInt8) (Z:List (Rc×Value)) (Ki:List (List UInt8)) (kvi:Value) (Di:DataW Unit) (t:Bool) (rv:Value),v6=.string (bs r)/\r.length<=r0.length/\
   (if t then dm g r0.length [] r0=some (Z.map (·.1),Ki,r,true) else ∃q,r.length<=q/\dm g r0.length [] r0=ip (Z.map (·.1)) (dm g q Ki r))/\
   aZ wr B n Ki kvi m Di/\Ki.length+r.length<=r0.length/\Z.length+r.length<=r0.length/\(∀k∈Ki,k.length<=600)/\
   ag wr gx 204 #[.int .i64 (f:Int),rv,.int .i64 0,.bool t,.int .i64 0,.slice none 0 0]/\wr.ownsRow bw 108 5 rv Z.length (aU Z)/\
   (∀z∈Z,z.1.ok/\cT wr z.2 z.1.labels)/\ag wr bw 204 #[.int .i64 0,.slice none 0 0,.int .i64 0,.bool false,.int .i64 0,.slice none 0 0]/\B<=wr.heap.size/\Below bw w wr) (fun v6 wr=>Gf v6*2+kU wr gx)
  case atStart=>
   refine⟨r0,[],[],kv,D,false,.slice none 0 0,rfl,aF _,?_,hN3,by simp,by simp,by simp,kx,hrow0,by simp,k3,hB3,hbw3⟩;exact⟨r0.length,aF _,(AB _).symm⟩
  clear hN3 hrow0 k3 kx hB3 hbw3 hB2 hbw1;obtain⟨r,Z,Ki,kvi,Di,t,rv,rfl,hrl,hP,hN,hKi,hZl,hKil,hx,hrow,hZ,hk,hB,hbw⟩:=hrel;obtain⟨⟨c0,c1,c2,c3,c4,c5⟩,f0,f1,f2,f3,f4,f5⟩:=gG hx;have hxn:=dV hN (aP hx) (by decide) (by decide);have hkn:=dV hN (aP hk) (by decide) (by decide);have HQ:(r=[]\/t=true)->dm g r0.length [] r0=some (Z.map (·.1),Ki,r,t):=fun h=>by
   cases t with
   |true=>exact hP
   |false=>
    have hre:r=[]:=h.resolve_right (by simp);obtain⟨q,_,hq⟩:=hP;rw[hq,hre];cases q with
    |zero=>simp[dm,ip]
    |succ q=>simp[dm,ip]
  have hxk:gx≠bw:=by omega
  have hrv:∃a c,rv=.slice a Z.length c:=aH hrow;by_cases hend:r=[]\/t=true
  ·have hF:R=(some ⟨g,f,Z.map (·.1),Ki,(s.length:Int)-r.length,t⟩,0):=by rw[HR.out,HQ hend]
   have hF:=af hF;obtain⟨na,nc,rfl⟩:=hN.form;have n0:=(gh hN.blk).1.1;have hwl:IntKind.i64.wrap ((s.length:Int)-(r.length:Int))=(s.length:Int)-(r.length:Int):=by simp[IntKind.wrap,IntKind.bits,IntKind.signed];omega
   have hs1:=ag.set_ hx 2 (.int .i64 ((s.length:Int)-(r.length:Int)));have hs2:=ag.set_ (ag.set_ hs1 4 (.int .i64 (g:Int))) 5 (.slice na Ki.length nc);have hk1:ak wr (wr.setCell ⟨gx,2,none⟩ (.int .i64 ((s.length:Int)-(r.length:Int)))) (fun k=>k=gx):=ak.of_grown (ap _ _ _ _) fun _ e=>(az e).symm;have hk2:ak wr (((wr.setCell ⟨gx,2,none⟩ (.int .i64 ((s.length:Int)-(r.length:Int)))).setCell ⟨gx,4,none⟩ (.int .i64 (g:Int))).setCell ⟨gx,5,none⟩ (.slice na Ki.length nc)) (fun k=>k=gx):=hk1.trans ((ak.of_grown (ap _ _ _ _) fun _ e=>(az e).symm).trans (ak.of_grown (ap _ _ _ _) fun _ e=>(az e).symm));have kb4:=hk.keptK hk2 (by omega);have n1:=hk1.cell n0 (fun (e:n=gx)=>hxn (.inl e.symm));obtain⟨⟨y0,y1,y2,y3,y4,y5⟩,g0,g1,g2,g3',g4,g5⟩:=gG hs1;obtain⟨⟨x0,x1,x2,x3,x4,x5⟩,_⟩:=gG hs2;obtain⟨⟨d0,d1,d2,d3,d4,d5⟩,e0,e1,e2,e3,e4,e5⟩:=gG kb4;have hs3:=KC kb4 (.int .i64 (f:Int)) rv (.int .i64 ((s.length:Int)-(r.length:Int))) (.bool t) (.int .i64 (g:Int)) (.slice na Ki.length nc);have hk5:=(hk2.weaken (T:=fun k=>k=gx\/k=bw) (fun _ e=>.inl e)).trans (hs3.2.weaken (fun _ e=>.inr e));have hnS:∀k,(k=gx\/k=bw)->ng wr k=some (some 204):=fun k hk'=>by
    rcases hk' with rfl|rfl
    ·exact aP hx
    ·exact aP hk
   have hRA:=Bv (aw hrow hk5 (fun b hb e=>by have:=hnS b e;rw[bg hrow hb] at this;simp at this)) (by omega) (fun z hz=>⟨(hZ z hz).1,(hZ z hz).2.kept hk5 (fun b hb e=>by have:=hnS b e;rw[hb] at this;simp at this)⟩);have hKA:=nP (aw hN.row hk5 (fun b hb e=>dV hN (hnS b e) (by decide) (by decide) (.inr (.inr hb)))) (by omega) (fun x hx=>by have:=hKil x hx;omega);have HE:=af (HT.out _ _ rv (.slice na Ki.length nc) hF.out (hbw.trans (ak.below hk5 (by omega) (fun k hk=>by omega))) hRA hKA);clear HT HB HR HQ hP hRA hKA hk1 hk2 hs1 hs2 hnS hk5 hN hx hk hrow hZ n0 hF;obtain⟨rva,rvc,rfl⟩:=hrv;cases hre:r.isEmpty with
   |true=>
    go_wp2_with fail
    (try simp only[Exit.inBlock,Exit.then]);refine bodyPost_ret (lq rfl _ _ bw 204 _ _ rfl hs3.1 Tryz.underlying204 rfl (by kernel_rfl)) rfl ?_;exact HE.out
   |false=>
    have htt:t=true:=hend.resolve_left (fun e=>by rw[e] at hre;cases hre);subst htt;go_wp2_with fail
    (try simp only[Exit.inBlock,Exit.then]);refine bodyPost_ret (lq rfl _ _ bw 204 _ _ rfl hs3.1 Tryz.underlying204 rfl (by kernel_rfl)) rfl ?_;exact HE.out
  ·have htf:t=false:=by
    cases t with
    |true=>exact absurd (.inr rfl) hend
    |false=>rfl
   subst htf;have hrne:r≠[]:=fun e=>hend (.inl e);have hre:r.isEmpty=false:=by cases r with
    |nil=>exact absurd rfl hrne
    |cons=>rfl
   obtain⟨q,hq,hP⟩:=hP;have hq0:q≠0:=fun e=>hrne (List.length_eq_zero_iff.1 (by omega));obtain⟨q,rfl⟩:=Nat.exists_eq_succ_of_ne_zero hq0;have HP1:=af (show dm g r0.length [] r0=ip (Z.map (·.1)) (match rp g Ki r with
    |(none,e)=>if e=2 then none else some ([],Ki,r,true)
    |(some (l,K',r2),_)=>match dm g q K' r2 with
     |none=>none
     |some (l2,K2,r3,t)=>some (l++l2,K2,r3,t)) by
    rw[hP,dm,if_neg hrne]
    try rfl)
   clear hP HQ hend hrne;obtain⟨rva,rvc,rfl⟩:=hrv;have h1:=H1.out;have hrl2:r.length<=1000000:=by omega
   have hKb:Ki.length<=1000000:=by omega
   have hKlb:∀k∈Ki,k.length<=1000000:=fun k hk=>by have:=hKil k hk;omega
   ·have hc:oe (g:Int) n=.iface 240 (.agg #[]):=by rw[h1];rfl
    have q4:=af (show Calls Tryz.prog 398 #[.agg #[],.string (bs r)] wr (Lw wr B n m kvi r (rp (g:Int) Ki r)) by rw[h1];exact Lq r hN hrl2 hB);rw[hc];clear hc h1;go_wp2_with fail
    refine q4.out.mono ?_;clear q4;rintro e W5 ⟨hbB5,hpost⟩;have hcons:=Cm (g:Int) Ki r;have HP2:=HP1.out;rcases hgb:rp (g:Int) Ki r with⟨x,sh⟩
    rw[hgb] at HP2 hpost hcons;have hxt:=aP hx;have hc3:=(gG hx).1.2.2.2.1;have hxr:∀k,(Value.slice rva Z.length rvc).ownBlock=some k->ng wr k=some (some 108):=fun k hk'=>bg hrow hk';have hlo:∀k,(Value.slice rva Z.length rvc).ownBlock=some k->bw<=k:=fun k hk'=>(hrow.lt k hk').1;have hbwW:bw<=wr.heap.size:=by omega
    have hb5s:=hbB5.size;have hbw5:=hbw.trans (hbB5.mono (Nat.le_of_lt hBw));have hk5:=ag.below hk hbB5 hBw;clear HP1 c0 c1 c2 c3 c4 c5 f0 f1 f2 f3 f4 f5;cases x with
    |none=>
     obtain⟨rfl,hsh⟩:=hpost;rcases hsh with hsh|⟨hsh,hb5⟩
     ·simp only at hsh;subst hsh;have hF:R=(none,9):=by rw[HR.out,HP2];rfl
      have HE:=af (fun w'=>HB.out w' 9 hF);obtain⟨⟨d0,d1,d2,d3,d4,d5⟩,g0,g1,g2,g3',g4,g5⟩:=gG hk5;have hs3:=KC hk5 (.int .i64 0) (.slice none 0 0) (.int .i64 0) (.bool false) (.int .i64 0) (.slice none 0 0);clear HP2 hF HB HT HR hgb hcons;go_wp2_with fail
      (try simp only[Exit.inBlock,Exit.then]);refine bodyPost_ret (lq rfl _ _ bw 204 _ _ rfl hs3.1 Tryz.underlying204 rfl (by kernel_rfl)) rfl ?_;subst hwb;exact HE.out _ (hbw5.trans (ak.below hs3.2 (aK hbwW hb5s) (fun k hk=>by omega)))
     ·simp only at hsh;subst hsh;have HP3:=af (show dm g r0.length [] r0=some (Z.map (·.1),Ki,r,true) by rw[HP2];simp[ip]);have hx5:=ag.below hx hb5 hx.lt;have hN5:=hN.below hb5;have hrow5:=aw hrow (ak.of_below (S:=fun _=>False) hb5) (fun _ _ e=>e);have hZ5:∀z∈Z,z.1.ok/\cT W5 z.2 z.1.labels:=fun z hz=>⟨(hZ z hz).1,(hZ z hz).2.below hb5⟩
      have hk6:ak W5 (W5.setCell ⟨gx,3,none⟩ (.bool true)) (fun k=>k=gx):=ak.of_grown (ap _ _ _ _) fun _ e=>(az e).symm;have hx6:=ag.set_ hx5 3 (.bool true);have hx5r:∀k,(Value.slice rva Z.length rvc).ownBlock=some k->k≠gx:=fun k hk' e=>by have:=hxr k hk';rw[e,hxt] at this;simp at this
      have hrow6:=aw hrow5 hk6 (fun b hb e=>hx5r b hb e);have hx7:=ag.set_ hx6 1 (.slice rva Z.length rvc);have hk7:ak W5 ((W5.setCell ⟨gx,3,none⟩ (.bool true)).setCell ⟨gx,1,none⟩ (.slice rva Z.length rvc)) (fun k=>k=gx):=hk6.trans (ak.of_grown (ap _ _ _ _) fun _ e=>(az e).symm);have hrow7:=aw hrow5 hk7 (fun b hb e=>hx5r b hb e);have hN7:=hN5.kept hk7 (fun k hk e=>by rw[e] at hk;exact hxn hk);have hZ7:∀z∈Z,z.1.ok/\cT ((W5.setCell ⟨gx,3,none⟩ (.bool true)).setCell ⟨gx,1,none⟩ (.slice rva Z.length rvc)) z.2 z.1.labels:=fun z hz=>⟨(hZ5 z hz).1,(hZ5 z hz).2.kept hk7 (fun b hb e=>by have:=aP hx5;rw[<-e,hb] at this;simp at this)⟩
      have hkk:=hk5.keptK hk7 (by omega);have hbw7:=hbw5.trans (ak.below hk7 (by have:=hb5.size;omega) (fun k hk=>by omega));obtain⟨⟨d0,d1,d2,d3,d4,d5⟩,g0,g1,g2,g3',g4,g5⟩:=gG hx5;obtain⟨⟨d0',d1',d2',d3',d4',d5'⟩,g0',g1',g2',g3'',g4',g5'⟩:=gG hx6;have ⟨i0,hin,_⟩:=info_parts (show (Tryz.prog.info? 108).map (fun i=>(i.zero,i.size,i.bytes))=some (some (.agg #[.int .i64 0,.slice none 0 0,.int .i64 0,.int .i64 0,.int .u64 0]),5,56) by kernel_rfl);have hB7:B<=((W5.setCell ⟨gx,3,none⟩ (.bool true)).setCell ⟨gx,1,none⟩ (.slice rva Z.length rvc)).heap.size:=aK hB (aK hb5.size hk7.size);clear HP2 HB HT HR hgb hcons hk6 hrow5 hN hZ hZ5 hN5 hrow hk hk5 hx hbw hbw5 hb5 hk7;go_wp2_with (at_builtin;refine wpList_append_own_none rfl _ _ 22 rfl bw 108 i0 5 Tryz.underlying22 hin _ _ _ rfl hrow6 rfl ?_)
      go_roundw
      case rel=>
       refine⟨r,Z,Ki,kvi,Di,true,.slice rva Z.length rvc,rfl,hrl,?_,hN7,hKi,hZl,hKil,hx7,hrow7,hZ7,hkk,hB7,?_⟩
       ·exact HP3.out
       ·subst hwb;exact hbw7
      case measure=>
       have t1:kU wr gx=1:=by unfold kU;rw[hc3]
       have t2:kU ((W5.setCell ⟨gx,3,none⟩ (.bool true)).setCell ⟨gx,1,none⟩ (.slice rva Z.length rvc)) gx=0:=by
        unfold kU;rw[(gG hx7).1.2.2.2.1]
       rw[t1,t2];omega
    |some z=>
     obtain⟨l,K',rest⟩:=z;obtain⟨v,Z2,kv2,D2,rfl,hg,hZ2,hN5,hT5⟩:=hpost;obtain⟨h4,h5,h6,h7⟩:=hcons l K' rest sh rfl;subst hZ2;rw[List.length_map] at h5;obtain⟨⟨p,pc,rfl,hpc⟩,hZok⟩:=hg;dsimp only at HP2;have HP3:=af (show ∃q,rest.length<=q/\dm g r0.length [] r0=ip ((Z++Z2).map (·.1)) (dm g q K' rest) from⟨q,by omega,by
      rw[HP2,List.map_append,<-AC]
      cases dm g q K' rest<;>rfl⟩)
     have hx5:=hx.keptK hT5.kept hxn;have hrow5:=aw hrow hT5.kept (fun b hb e=>dV hN (hxr b hb) (by decide) (by decide) e);have hZ5:∀z∈Z,z.1.ok/\cT W5 z.2 z.1.labels:=fun z hz=>⟨(hZ z hz).1,(hZ z hz).2.kept hT5.kept (fun b hb e=>dV hN hb (by decide) (by decide) e)⟩
     have hk6:ak W5 (W5.setCell ⟨gx,3,none⟩ (.bool false)) (fun k=>k=gx):=ak.of_grown (ap _ _ _ _) fun _ e=>(az e).symm;have hx6:=ag.set_ hx5 3 (.bool false);have hxt5:=aP hx5;have hxt6:=aP hx6;have hrow6:=aw hrow5 hk6 (fun b hb e=>by have:=bg hrow5 hb;rw[e,hxt5] at this;simp at this);have hN6:=hN5.kept hk6 (fun k hk' e=>by rw[e] at hk';exact dV hN5 hxt5 (by decide) (by decide) hk');have hLx:∀(z:Rc×Value),z.1.ok/\cT W5 z.2 z.1.labels->z.1.ok/\cT (W5.setCell ⟨gx,3,none⟩ (.bool false)) z.2 z.1.labels:=fun z hz=>⟨hz.1,hz.2.kept hk6 (fun b hb e=>by rw[e,hxt5] at hb;simp at hb)⟩
     have hZ6:∀z∈Z++Z2,z.1.ok/\cT (W5.setCell ⟨gx,3,none⟩ (.bool false)) z.2 z.1.labels:=fun z hz=>hLx z ((List.mem_append.1 hz).elim (hZ5 z) (hZok z));have hkb6:=hk5.keptK hk6 (by omega);have hbw6:=hbw5.trans (ak.below hk6 (by omega) (fun k hk=>by omega));have hB6:B<=(W5.setCell ⟨gx,3,none⟩ (.bool false)).heap.size:=aK hB (aK hb5s hk6.size);have hpx:=Hv hpc hx5;have hpc6:∀j u,(aU Z2)[j]?=some u->(W5.setCell ⟨gx,3,none⟩ (.bool false)).cell? ((⟨p,0,none⟩:Addr).add j)=some u:=fun j u hj=>hk6.cell (hpc j u hj) (fun e=>hpx j u hj (by rw[eY] at e;exact e));have hx6r:∀k,(Value.slice rva Z.length rvc).ownBlock=some k->k≠gx:=fun k hk' e=>by have:=bg hrow6 hk';rw[e,hxt6] at this;simp at this
     have HK8:=af (show ∀w8,(W5.setCell ⟨gx,3,none⟩ (.bool false)).grownBy w8 (Value.slice rva Z.length rvc).ownBlock->ak (W5.setCell ⟨gx,3,none⟩ (.bool false)) w8 (fun k=>(Value.slice rva Z.length rvc).ownBlock=some k) from fun w8 h=>ak.of_grown h fun k e=>e);have hk6s:=hk6.size;have H1:=af (uZ Z2 hZok);obtain⟨⟨d0,d1,d2,d3,d4,d5⟩,g0,g1,g2,g3',g4,g5⟩:=gG hx5;obtain⟨⟨d0',d1',d2',d3',d4',d5'⟩,g0',g1',g2',g3'',g4',g5'⟩:=gG hx6;have ⟨i0,hin,hz0,hz1,hz2⟩:=info_parts (show (Tryz.prog.info? 108).map (fun i=>(i.zero,i.size,i.bytes))=some (some (.agg #[.int .i64 0,.slice none 0 0,.int .i64 0,.int .i64 0,.int .u64 0]),5,56) by kernel_rfl);clear HP2 HB HT HR hgb hcons hrow5 hN hZ hZ5 hN5 hrow hk hk5 hx hbw hbw5 hk6 hZok hLx hT5;go_wp2_with (at_builtin;refine wpList_append_own_at _ rfl _ _ 22 rfl bw 108 i0 (.agg #[.int .i64 0,.slice none 0 0,.int .i64 0,.int .i64 0,.int .u64 0]) 5 56 Tryz.underlying22 hin hz0 hz1 hz2 rfl (by decide) _ _ _ rfl hrow6 ⟨p,0,none⟩ Z2.length pc (aU Z2) rfl (u9 _) hpc6 H1.out (by unfold maxLen;omega) (by omega) (by omega) ?_;intro v' w8 hown' hgrow hnil hloc;obtain⟨va',vc',rfl⟩:=aH hown';have hk8:=HK8.out w8 hgrow;have hx8:=hx6.keptK hk8 (fun e=>hx6r gx e rfl);obtain⟨⟨z0,z1,z2,z3,z4,z5⟩,y0,y1,y2,y3,y4,y5⟩:=gG hx8)
     have hw8r:∀k,(Value.slice va' (Z.length+Z2.length) vc').ownBlock=some k->k≠gx:=fun k hk' e=>by have h1:=bg hown' hk';rw[e,aP hx8] at h1;simp at h1
     have hk9:ak w8 (w8.setCell ⟨gx,1,none⟩ (.slice va' (Z.length+Z2.length) vc')) (fun k=>k=gx):=ak.of_grown (ap _ _ _ _) fun _ e=>(az e).symm;have hx9:=ag.set_ hx8 1 (.slice va' (Z.length+Z2.length) vc');have hrow9:=aw hown' hk9 (fun b hb e=>hw8r b hb e);have hk69:=(hk8.weaken (T:=fun k=>(Value.slice rva Z.length rvc).ownBlock=some k\/k=gx) (fun _ e=>.inl e)).trans (hk9.weaken (fun _ e=>.inr e));have hrt:∀k,((Value.slice rva Z.length rvc).ownBlock=some k\/k=gx)->ng (W5.setCell ⟨gx,3,none⟩ (.bool false)) k=some (some 108)\/ng (W5.setCell ⟨gx,3,none⟩ (.bool false)) k=some (some 204):=fun k hk'=>hk'.imp (fun h=>bg hrow6 h) (fun h=>by rw[h];exact hxt6);have hN9:=hN6.kept hk69 (fun k hk' e=>(hrt k e).elim (fun t=>dV hN6 t (by decide) (by decide) hk') (fun t=>dV hN6 t (by decide) (by decide) hk'));have hZ9:∀z∈Z++Z2,z.1.ok/\cT (w8.setCell ⟨gx,1,none⟩ (.slice va' (Z.length+Z2.length) vc')) z.2 z.1.labels:=fun z hz=>⟨(hZ6 z hz).1,(hZ6 z hz).2.kept hk69 (fun b hb e=>by rcases hrt b e with t|t<;>(rw[hb] at t;simp at t))⟩
     have hkb9:=hkb6.keptK hk69 (fun e=>by rcases e with e|e;(have:=bg hrow6 e;rw[aP hkb6] at this;simp at this);omega);have hbw9:=hbw6.trans (ak.below hk69 (by have:=hk6s;omega) (fun k hk'=>hk'.elim (hlo k) (fun e=>by omega)));have hrec:aU (Z++Z2)=aU Z++aU Z2:=by unfold aU;rw[List.flatMap_append]
     refine⟨⟨rest,Z++Z2,K',kv2,D2,false,.slice va' (Z.length+Z2.length) vc',rfl,by omega,?_,hN9,by omega,by rw[aG];omega,fun k hk'=>(h7 k hk').elim (hKil k) id,hx9,?_,hZ9,hkb9,aK hB6 hk69.size,?_⟩,?_⟩
     ·exact HP3.out
     ·rw[aG,hrec];exact hrow9
     ·subst hwb;exact hbw9
     ·have t1:kU wr gx=1:=by unfold kU;rw[hc3]
      have t2:kU (w8.setCell ⟨gx,1,none⟩ (.slice va' (Z.length+Z2.length) vc')) gx=1:=by
       unfold kU;rw[(gG hx9).1.2.2.2.1]
      rw[t1,t2];simp only[Gf,aq];omega
 ·rw[if_pos he] at hR0;have HE:=af (fun w'=>HB.out w' e0 hR0);have hz:(e0 != 0)=true:=by simpa using he
  have hz2:(e0==0)=false:=by simpa using he
  clear hR0 HB HT hgen h1g;go_enter Tryz.func139,Tryz.ntmps139
  go_wp2_with fail
  refine(q0.out _).mono ?_;rintro e W1 ⟨rfl,hb1⟩;have k1:=ag.below k0 hb1 k0.lt;have hbw1:=ay b0 hb1;obtain⟨⟨d0,d1,d2,d3,d4,d5⟩,g0,g1,g2,g3',g4,g5⟩:=gG k1;have hs3:=KC k1 (.int .i64 0) (.slice none 0 0) (.int .i64 0) (.bool false) (.int .i64 0) (.slice none 0 0);clear k0 b0 hb1 q0;go_wp2_with fail
  (try simp only[Exit.inBlock,Exit.then]);refine bodyPost_ret (lq rfl _ _ w.heap.size 204 _ _ rfl hs3.1 Tryz.underlying204 rfl (by kernel_rfl)) rfl ?_;exact HE.out _ (hbw1.trans (ak.below hs3.2 hbw1.size (fun k hk=>by omega)))
end
end Go.Proofs.YtcdgfajdlaeodaaGreatDoor
namespace Go.Proofs.YtcdgfajdlaeodaaGreatDoor
end Go.Proofs.YtcdgfajdlaeodaaGreatDoor
namespace Go.Proofs.YtcdgfajdlaeodaaGreatDoor
section
open Go.RowKit
end
section
open Go.RowKit
attribute [local go_sem] am aq
theorem jU(c:CS):(wN c).1.length<=c.1.length:=eu c _
structure En where
 labels:List Lb
 last:Int
 off:Int
 len:Int
def aR:En:=⟨[],0,0,0⟩
def dG(x:En):Bool:=decide (bD x.labels=0)&&decide (0<=x.last/\x.last<=1125899906842624/\0<=x.off/\x.off<=1073741824/\0<=x.len/\x.len<=1073741824)
def dN(a b:List Lb):Bool:=Op.bytesLess (de a) (de b)
def cO:Option (List Lb)->List En->Bool
 |_,[]=>true
 |p,x::l=>(dG x&&(match p with|none=>true|some q=>dN q x.labels))&&cO (some x.labels) l
def kI(l:List En)(g:Int):Bool:=l.any fun x=>decide (cZ g<(a8 x.labels:Int))
def dq(l:List En)(g:Int):Int:=if g<1\/3<g\/20<l.length then 1 else if cO none l=false then 1 else if kI l g then 3 else 0
def ci(l:List En):List (List UInt8):=l.flatMap fun x=>x.labels.flatMap fun y=>[y.1,y.2]
def gp (l:List En):List (List UInt8):=Lib.compact ((ci l).mergeSort fun x y=>decide (x<=y))
def lO(y:Lb):List UInt8:=Num.fixed y.1 12++Num.fixed y.2 12
def kN(x:En):List UInt8:=(UInt8.ofNat x.labels.length::x.labels.flatMap lO)++((Num.wide (aS x.last)++Num.wide (aS x.off))++Num.wide (aS x.len))
def EE (l:List En):List UInt8:=Num.wide l.length++l.flatMap kN
def bP:List UInt8->List UInt8->Nat
 |a::s,b::t=>if a=b then bP s t+1 else 0
 |_,_=>0
def kD (g:Int):List UInt8->List (List UInt8)->List UInt8
 |_,[]=>[]
 |last,s::l=>(if g=3 then Num.small (bP last s)++Num.text (s.drop (bP last s)) else Num.text s)++kD g s l
def cz(sy:List (List UInt8))(s:List UInt8):Nat:=sy.idxOf s
def kL(sy:List (List UInt8))(y:Lb):List UInt8:=Num.small (cz sy y.1)++Num.small (cz sy y.2)
def iA(g:Int)(a x:En):List UInt8:=
 if g=3 then(Num.small (Num.zigI (x.last-a.last)).toNat++Num.small (Num.zigI (x.off-a.off-a.len)).toNat)++Num.small (aS x.len)
 else(Num.small (aS x.last)++Num.small (aS x.off))++Num.small (aS x.len)
def wv(g:Int)(sy:List (List UInt8))(a x:En):List UInt8:=Num.small x.labels.length++(x.labels.flatMap (kL sy)++iA g a x)
def df(g:Int)(sy:List (List UInt8)):En->List En->List UInt8
 |_,[]=>[]
 |a,x::l=>wv g sy a x++df g sy x l
def nx(l:List En)(g:Int):List UInt8:=Num.small (gp l).length++(kD g [] (gp l)++(Num.small l.length++df g (gp l) aR l))
def cJ(l:List En):List (Lb×Nat):=(List.range l.length).flatMap fun i=>(l.getD i aR).labels.map fun z=>(z,i)
def cC(S:List (Lb×Nat))(y:Lb):List Nat:=(S.filter fun p=>decide (p.1=y)).map fun p=>p.2
def Dm(l:List En)(y:Lb):List Nat:=cC (cJ l) y
def n7:Nat->List Nat->List UInt8
 |_,[]=>[]
 |a,b::l=>Num.small (b-a)++n7 b l
def gr(x y:Lb):Int:=if Lib.compareBytes x.1 y.1≠0 then Lib.compareBytes x.1 y.1 else Lib.compareBytes x.2 y.2
def jW(L:List Lb):List Lb:=L.mergeSort fun x y=> !decide (gr y x<0)
def eG(S:List Lb):List Lb:=S.foldl (fun a y=>if y∈a then a else a++[y]) []
def ic(l:List En):List Lb:=jW (eG ((cJ l).map fun p=>p.1))
def vN(l:List En):List UInt8:=(ic l).flatMap fun y=>Num.small (Dm l y).length++n7 0 (Dm l y)
def re(l:List En)(g:Int):List UInt8:=nx l g++if g=3 then vN l else[]
def kP(l:List En)(g:Int):List UInt8:=if g=1 then EE l else re l g
def ls (l:List En)(g:Int):List UInt8×Int:=if dq l g=0 then(kP l g++dj (kP l g),0) else([],dq l g)
def gP(n:Int)(most:Nat)(c:CS):Nat×CS:=if (most:Int)<n then(0,(c.1,true)) else(n.toNat,c)
def gk(n:Int):Int:=IntKind.i64.wrap n
def IW (c:CS):List UInt8:=Num.ans [] c (Num.getFixed c.1 12)
def vp (c:CS):CS:=Num.nxt c (Num.getFixed c.1 12)
def L5 (c:CS):List UInt8:=Num.ans [] c (Num.getText c.1 48)
def LP (c:CS):CS:=Num.nxt c (Num.getText c.1 48)
def Jf (c:CS):List UInt8:=Num.ans [] c (Num.getTake c.1 1)
def Be (c:CS):CS:=Num.nxt c (Num.getTake c.1 1)
def eN:Nat->CS->List Lb×CS
 |0,c=>([],c)
 |q+1,c=>((IW c,IW (vp c))::(eN q (vp (vp c))).1,(eN q (vp (vp c))).2)
def dy(c:CS):En×CS:=
 if (Be c).2 then(aR,Be c)
 else
  let m:=gP (((Jf c).getD 0 0).toNat:Int) 6 (Be c)
  let r:=eN m.1 m.2
  (⟨r.1,gk (wV r.2),gk (wV (wN r.2)),gk (wV (wN (wN r.2)))⟩,wN (wN (wN r.2)))
def Bi (sy:List (List UInt8))(c:CS):List UInt8×CS:=if (sy.length:Int)<=sV c then([],((sN c).1,true)) else(sy.getD (sV c).toNat [],sN c)
def Cd(sy:List (List UInt8)):Nat->CS->List Lb×CS
 |0,c=>([],c)
 |q+1,c=>(((Bi sy c).1,(Bi sy (Bi sy c).2).1)::(Cd sy q (Bi sy (Bi sy c).2).2).1,(Cd sy q (Bi sy (Bi sy c).2).2).2)
def Ai(g:Int)(sy:List (List UInt8))(a:En)(c:CS):En×CS:=
 let m:=gP (sV c) 6 (sN c)
 let r:=Cd sy m.1 m.2
 (⟨r.1,if g=3 then gk (a.last+Num.zagI (sV r.2)) else gk (sV r.2),if g=3 then gk (gk (a.off+a.len)+Num.zagI (sV (sN r.2))) else gk (sV (sN r.2)),gk (sV (sN (sN r.2)))⟩,sN (sN (sN r.2)))
def Kw (g:Int):Nat->List UInt8->CS->List (List UInt8)×CS
 |0,_,c=>([],c)
 |q+1,last,c=>
  let m:=if g=3 then gP (sV c) last.length (sN c) else(0,c)
  let s:=last.take m.1++L5 m.2
  (s::(Kw g q s (LP m.2)).1,(Kw g q s (LP m.2)).2)
def yf:Nat->CS->Option (List En)×CS
 |0,c=>(some [],c)
 |q+1,c=>if (dy c).2.2 then(none,(dy c).2) else match yf q (dy c).2 with
  |(none,d)=>(none,d)
  |(some l,d)=>(some ((dy c).1::l),d)
def H9(g:Int)(sy:List (List UInt8)):Nat->En->CS->Option (List En)×CS
 |0,_,c=>(some [],c)
 |q+1,a,c=>if (Ai g sy a c).2.2 then(none,(Ai g sy a c).2) else match H9 g sy q (Ai g sy a c).1 (Ai g sy a c).2 with
  |(none,d)=>(none,d)
  |(some l,d)=>(some ((Ai g sy a c).1::l),d)
def pZ (g:Int)(c:CS):Option (List En)×CS:=
 if g=1 then
  let m:=gP (wV c) 20 (wN c)
  yf m.1 m.2
 else
  let t:=gP (sV c) 240 (sN c)
  let sy:=Kw g t.1 [] t.2
  let m:=gP (sV sy.2) 20 (sN sy.2)
  H9 g sy.1 m.1 aR m.2
def jv (s:List UInt8)(g:Int):List En×Int:=
 if g<1\/3<g then([],1)
 else match eB s with
  |none=>([],9)
  |some b=>if (pZ g (b,false)).2.2=true\/ls ((pZ g (b,false)).1.getD []) g≠(s,0) then([],9) else((pZ g (b,false)).1.getD [],0)
theorem AJ{s:List UInt8}{m:Nat}(h:mH s m=true):s.length<=48:=by
 unfold mH at h;simp only[Bool.and_eq_true,decide_eq_true_eq] at h;exact h.2.2
theorem DL:∀(L:List Lb) (last:List UInt8),fq last L=true->∀y∈L,y.1.length<=48/\y.2.length<=48
 |[],_,_,y,hy=>by cases hy
 |x::L,last,h,y,hy=>by
  unfold fq at h;simp only[Bool.and_eq_true] at h;rcases List.mem_cons.1 hy with rfl|hy
  ·exact⟨AJ h.2.1,AJ h.2.2.2.1⟩
  ·exact DL L x.1 h.2.2.2.2 y hy
theorem Aq{L:List Lb}(h:bD L=0):L.length<=6/\∀y∈L,y.1.length<=48/\y.2.length<=48:=by
 unfold bD at h;split at h
 ·rename_i h1;simp only[Bool.and_eq_true,decide_eq_true_eq] at h1;exact⟨h1.2.2,DL L [] h1.1⟩
 ·cases h
theorem nU:∀(l:List En) (p:Option (List Lb)),cO p l=true->∀x∈l,dG x=true
 |[],_,_,x,hx=>by cases hx
 |z::l,p,h,x,hx=>by
  unfold cO at h;simp only[Bool.and_eq_true] at h;rcases List.mem_cons.1 hx with rfl|hx
  ·exact h.1.1
  ·exact nU l _ h.2 x hx
theorem qI{l:List En}{g:Int}(h:dq l g=0):1<=g/\g<=3/\l.length<=20/\cO none l=true/\∀x∈l,dG x=true/\(a8 x.labels:Int)<=cZ g:=by
 unfold dq at h;split at h
 ·cases h
 ·rename_i h1;split at h
  ·cases h
  ·rename_i h2;split at h
   ·cases h
   ·rename_i h3;have hg:cO none l=true:=by simpa using h2
    refine⟨by omega,by omega,by omega,hg,fun x hx=>⟨nU l none hg x hx,?_⟩⟩;unfold kI at h3;by_cases hc:cZ g<(a8 x.labels:Int)
    ·exact absurd (List.any_eq_true.2 ⟨x,hx,by simpa using hc⟩) h3
    ·omega
theorem jJ{x:En}(h:dG x=true):bD x.labels=0/\0<=x.last/\x.last<=1125899906842624/\0<=x.off/\x.off<=1073741824/\0<=x.len/\x.len<=1073741824:=by
 unfold dG at h;simp only[Bool.and_eq_true,decide_eq_true_eq] at h;exact⟨h.1,h.2⟩
theorem zI{α:Type}[Inhabited α][DecidableEq α](zs:List α)(x:α):x∈Lib.compact zs↔x∈zs:=by
 have hat:∀j (h:j<zs.length),zs.toArray[j]! =zs[j]:=fun j h=>by simp[h]
 unfold Lib.compact Lib.compactUpTo;rw[List.mem_map];constructor
 ·rintro⟨j,hj,rfl⟩;have:=List.mem_range.1 (List.mem_filter.1 hj).1;rw[hat j this];exact dK _
 ·intro hx;obtain⟨j,hj,rfl⟩:=List.mem_iff_getElem.1 hx;clear hx;induction j with
  |zero=>exact⟨0,List.mem_filter.2 ⟨List.mem_range.2 hj,by simp[Lib.keeps]⟩,hat 0 hj⟩
  |succ j ih=>
   by_cases h:zs[j+1]=zs[j]
   ·rw[h];exact ih (by omega)
   ·refine⟨j+1,List.mem_filter.2 ⟨List.mem_range.2 hj,?_⟩,hat _ hj⟩;unfold Lib.keeps;rw[decide_eq_true_eq];refine .inr ?_;rw[hat _ hj,show j+1-1=j by omega,hat _ (by omega)];exact h
theorem jp(l:List En)(s:List UInt8):s∈gp l↔s∈ci l:=by
 unfold gp;rw[zI,List.mem_mergeSort]
theorem oK{sy:List (List UInt8)}{s:List UInt8}(h:s∈sy):cz sy s<sy.length/\sy.getD (cz sy s) []=s:=by
 unfold cz;have hl:sy.idxOf s<sy.length:=List.idxOf_lt_length_iff.2 h;refine⟨hl,?_⟩;rw[List.getD_eq_getElem?_getD,aV hl,Option.getD_some];exact List.getElem_idxOf hl
theorem pG(l:List En)(h:∀x∈l,x.labels.length<=6):(ci l).length<=l.length*12:=by
 unfold ci;induction l with
 |nil=>exact aF _
 |cons x l ih=>
  rw[List.flatMap_cons,aG,cY];have h1:=ih fun y hy=>h y (List.mem_cons_of_mem _ hy);have h2:=h x List.mem_cons_self;have h3:(x.labels.flatMap fun y=>[y.1,y.2]).length=x.labels.length*2:=by
   generalize x.labels=L;induction L with
   |nil=>rfl
   |cons y L ih=>
    rw[List.flatMap_cons,aG,ih];simp;omega
  omega
theorem mB{α:Type}[Inhabited α][DecidableEq α](zs:List α):(Lib.compact zs).length<=zs.length:=by
 unfold Lib.compact Lib.compactUpTo;rw[List.length_map];have:=List.length_filter_le (Lib.keeps zs.toArray) (List.range zs.length);rwa[List.length_range] at this
theorem pW:∀s t:List UInt8,bP s t<=s.length/\bP s t<=t.length/\s.take (bP s t)=t.take (bP s t)
 |[],t=>by unfold bP;exact⟨aF _,Nat.zero_le _,rfl⟩
 |a::s,[]=>by unfold bP;exact⟨Nat.zero_le _,aF _,rfl⟩
 |a::s,b::t=>by
  unfold bP;by_cases h:a=b
  ·subst h;rw[if_pos rfl];obtain⟨h1,h2,h3⟩:=pW s t;exact⟨by simp;omega,by simp;omega,by rw[List.take_succ_cons,List.take_succ_cons,h3]⟩
  ·rw[if_neg h];exact⟨Nat.zero_le _,Nat.zero_le _,rfl⟩
def BN(x:En):Prop:=0<=x.last/\x.last<=1125899906842624/\0<=x.off/\x.off<=1073741824/\0<=x.len/\x.len<=1073741824
theorem tq{x:En}(h:dG x=true):BN x:=(jJ h).2
theorem mM{l:List En}{x:En}{y:Lb}(hx:x∈l)(hy:y∈x.labels):y.1∈ci l/\y.2∈ci l:=by
 unfold ci;constructor
 ·exact List.mem_flatMap.2 ⟨x,hx,List.mem_flatMap.2 ⟨y,hy,by simp⟩⟩
 ·exact List.mem_flatMap.2 ⟨x,hx,List.mem_flatMap.2 ⟨y,hy,by simp⟩⟩
theorem mb{l:List En}(h:∀x∈l,dG x=true):∀s∈ci l,s.length<=48:=by
 intro s hs;unfold ci at hs;obtain⟨x,hx,hs⟩:=List.mem_flatMap.1 hs;obtain⟨y,hy,hs⟩:=List.mem_flatMap.1 hs;have:=(Aq (jJ (h x hx)).1).2 y hy;simp only[List.mem_cons,List.not_mem_nil,or_false] at hs;rcases hs with rfl|rfl
 ·exact this.1
 ·exact this.2
theorem xd{l:List En}(h:∀x∈l,x.labels.length<=6)(h2:l.length<=20):(gp l).length<=240:=by
 have h3:=pG l h;have h4:=mB ((ci l).mergeSort fun x y=>decide (x<=y));rw[List.length_mergeSort] at h4;unfold gp;omega
theorem xJ{l:List En}{g:Int}(h:dq l g=0):ls l g=(kP l g++dj (kP l g),0):=by
 unfold ls;rw[if_pos h]
theorem zo{l:List En}{g:Int}(h:dq l g≠0):ls l g=([],dq l g):=by
 unfold ls;rw[if_neg h]
theorem Fe{s:List UInt8}{g:Int}(h:(jv s g).2=0):ls (jv s g).1 g=(s,0)/\dq (jv s g).1 g=0:=by
 have key:ls (jv s g).1 g=(s,0):=by
  unfold jv at h⊢;split at h
  ·cases h
  ·rename_i h1;rw[if_neg h1];split at h
   ·cases h
   ·rename_i b hb;split at h
    ·cases h
    ·rename_i h2;rw[if_neg h2];show ls ((pZ g (b,false)).1.getD []) g=(s,0);by_cases hp:ls ((pZ g (b,false)).1.getD []) g=(s,0)
     ·exact hp
     ·exact absurd (.inr hp) h2
 refine⟨key,?_⟩;by_cases hv:dq (jv s g).1 g=0
 ·exact hv
 ·rw[zo hv] at key;exact absurd (Prod.mk.inj key).2 hv
end
section
open Go.RowKit Go.Maps Go.WideMaps
attribute [local go_sem] am aq
def uN(w:World)(v:Value)(L:List Int):Prop:=
 ∃a c,v=.slice a L.length c/\(a=none->c=0)/\L.length<=100000/\(∀x∈L,-9223372036854775808<=x/\x<=9223372036854775807)/\∀(i:Nat) x,L[i]?=some x->∃b o,a=some ⟨b,o,none⟩/\w.cell? ⟨b,o+i,none⟩=some (.int .i64 x)
theorem uN.below{w w':World}{v:Value}{L:List Int}(h:uN w v L)(hb:Below w.heap.size w w'):uN w' v L:=by
 obtain⟨a,c,h1,h2,h3,h4,h5⟩:=h;refine⟨a,c,h1,h2,h3,h4,fun i x hx=>?_⟩;obtain⟨b,o,h6,h7⟩:=h5 i x hx;exact⟨b,o,h6,cu hb h7⟩
theorem dt{W:World}{b:Nat}{T:TypeId}{u0 u1 u2 u3:Value}(h:ag W b T #[u0,u1,u2,u3]):
 (W.cell? ⟨b,0,none⟩=some u0/\W.cell? ⟨b,1,none⟩=some u1/\W.cell? ⟨b,2,none⟩=some u2/\W.cell? ⟨b,3,none⟩=some u3)/\W.frozen? ⟨b,0,none⟩=false/\W.frozen? ⟨b,1,none⟩=false/\W.frozen? ⟨b,2,none⟩=false/\W.frozen? ⟨b,3,none⟩=false:=
 ⟨⟨(ag.cell h 0).trans rfl,(ag.cell h 1).trans rfl,(ag.cell h 2).trans rfl,(ag.cell h 3).trans rfl⟩,ag.frozen h 0,ag.frozen h 1,ag.frozen h 2,ag.frozen h 3⟩
theorem ro{α:Type}[Inhabited α](enc:α->Value)(w:World)(q g:Nat)(d:Array α):ak w (Go.Sort.putRow enc (Go.Sort.ahead w q) g 0 d) (fun k=>k=g):=
 ⟨rfl,rfl,rfl,by simp[Go.Sort.ahead],fun i _ hi=>by simp[Go.Sort.putRow,Go.Sort.mapBlock,Go.Sort.ahead,Array.getElem?_modify,show g≠i from fun e=>hi e.symm]⟩
theorem mR(w:World)(os:Array Obj)(S:Nat->Prop):ak w (Go.Sort.grow w os) S:=
 ⟨rfl,rfl,rfl,by simp[Go.Sort.grow],fun i hi _=>by simp[Go.Sort.grow,Array.getElem?_append,hi]⟩
theorem fj{P:Program}{w:World}{ops:Array Oper}{rest:List Oper}{o:Oper}{a:Act}{Q:Exit->Act->World->Prop}(hgd:o.guard=none)(s x:Operand)(t:TypeId)
 (ho:o.op=.call {callee:=.builtin .append,args:=#[s,x],argTypes:=#[t,t]})
 (base:Nat) (e:TypeId) (i:TypeInfo) (z:Value) (size bytes:Nat) (ht:P.underlying t=some (.slice e)) (hi:P.info? e=some i) (hz:i.zero=some z)
 (hsize:i.size=size) (hby:i.bytes=bytes) (hzs:z.cells.size=size) (hsz:0<size)
 (v:Value) (n:Nat) (xs:List Value) (hs:a.eval s=v) (hown:w.ownsRow base e size v n xs)
 (ad:Option Addr) (m c:Nat) (news:List Value) (hx:a.eval x=.slice ad m c) (h0:ad=none->m=0/\c=0) (hl:news.length=m*size) (hnews:∀a',ad=some a'->∀j u,news[j]?=some u->w.cell? (a'.add j)=some u) (h1:∀u∈news,u.oneCell'=true)
 (h63:n+m<=maxLen) (hbytes:(n+m)*bytes<=140737488355328) (hbase:base<=w.heap.size)
 (h:∀v' w',w'.ownsRow base e size v' (n+m) (xs++news)->w.grownBy w' v.ownBlock->(v'.ownBlock=v.ownBlock\/v'.ownBlock=some w.heap.size)->wpList P ops Q rest (a.put o.dst v') w'):wpList P ops Q (o::rest) a w:=by
 cases ad with
 |none=>
  obtain⟨rfl,rfl⟩:=h0 rfl;obtain rfl:news=[]:=List.length_eq_zero_iff.1 (by simpa using hl);exact wpList_append_own_none hgd s x t ho base e i size ht hi v n xs hs hown hx (h v w (by simpa using hown) ⟨rfl,rfl,rfl,aF _,fun _ _ _=>rfl⟩ (.inl rfl))
 |some a'=>
  exact wpList_append_own_at w hgd s x t ho base e i z size bytes ht hi hz hsize hby hzs hsz v n xs hs hown a' m c news hx hl (hnews a' rfl) h1 h63 hbytes hbase fun v' w' h2 h3 _ h5=>h v' w' h2 h3 h5
theorem Ji{W:World}{b:Nat}{T:TypeId}{u0 u1 u2 u3:Value}(h:ag W b T #[u0,u1,u2,u3])(v0 v1 v2 v3:Value):
 ag ((((W.setCell ⟨b,0,none⟩ v0).setCell ⟨b,1,none⟩ v1).setCell ⟨b,2,none⟩ v2).setCell ⟨b,3,none⟩ v3) b T #[v0,v1,v2,v3]/\
  ak W ((((W.setCell ⟨b,0,none⟩ v0).setCell ⟨b,1,none⟩ v1).setCell ⟨b,2,none⟩ v2).setCell ⟨b,3,none⟩ v3) (fun k=>k=b):=
 ⟨ag.set_ (ag.set_ (ag.set_ (ag.set_ h 0 v0) 1 v1) 2 v2) 3 v3,ak.of_grown (bl (bl (bl (ap _ _ _ _) (ap _ _ _ _)) (ap _ _ _ _)) (ap _ _ _ _)) fun _ e=>(az e).symm⟩
def En.ok(x:En):Prop:=(-9223372036854775808<=x.last/\x.last<=9223372036854775807)/\(-9223372036854775808<=x.off/\x.off<=9223372036854775807)/\(-9223372036854775808<=x.len/\x.len<=9223372036854775807)
def FY (lv:Value)(x:En):List Value:=[lv,.int .i64 x.last,.int .i64 x.off,.int .i64 x.len]
def Kb (lv:Value)(x:En):Value:=.agg #[lv,.int .i64 x.last,.int .i64 x.off,.int .i64 x.len]
def DW(w:World)(b o:Nat)(x:En):Prop:=
 ∃a c,w.cell? ⟨b,o,none⟩=some (.slice a x.labels.length c)/\aC w (.slice a x.labels.length c) x.labels/\w.cell? ⟨b,o+1,none⟩=some (.int .i64 x.last)/\w.cell? ⟨b,o+2,none⟩=some (.int .i64 x.off)/\w.cell? ⟨b,o+3,none⟩=some (.int .i64 x.len)
theorem DW.below{w w':World}{b o:Nat}{x:En}(h:DW w b o x)(hb:Below w.heap.size w w'):DW w' b o x:=by
 obtain⟨a,c,h0,h1,h2,h3,h4⟩:=h;exact⟨a,c,cu hb h0,h1.below hb,cu hb h2,cu hb h3,cu hb h4⟩
def dR(w:World)(v:Value)(E:List En):Prop:=
 ∃a c,v=.slice a E.length c/\(a=none->c=0)/\E.length<=100000/\E.length<=c/\∀(i:Nat) x,E[i]?=some x->x.ok/\∃b o,a=some ⟨b,o,none⟩/\DW w b (o+i*4) x
theorem dR.below{w w':World}{v:Value}{E:List En}(h:dR w v E)(hb:Below w.heap.size w w'):dR w' v E:=by
 obtain⟨a,c,h1,h2,h3,h4,h5⟩:=h;refine⟨a,c,h1,h2,h3,h4,fun i x hx=>?_⟩;obtain⟨h6,b,o,h7,h8⟩:=h5 i x hx;exact⟨h6,b,o,h7,h8.below hb⟩
theorem jx(w:World):dR w (.slice none 0 0) []:=⟨none,0,rfl,fun _=>rfl,by simp,by simp,fun i x hx=>by simp at hx⟩
def rR (S:List (List UInt8)):List Value:=S.map fun s=>.string (bs s)
end
section
open Go.RowKit Go.ChangeShapes Go.WideShapes Go.Deep
theorem gV{α β:Type}{R:α->β->Prop}:∀(L:List α),(∀x∈L,∃y,R x y)->∃l:List β,l.length=L.length/\∀(i:Nat) y,l[i]?=some y->∃x,L[i]?=some x/\R x y
 |[],_=>⟨[],rfl,fun i y h=>by simp at h⟩
 |x::L,h=>by
  obtain⟨y,hy⟩:=h x (by simp);obtain⟨l,h1,h2⟩:=gV L fun x hx=>h x (by simp[hx]);refine⟨y::l,by simp[h1],fun i z hz=>?_⟩;cases i with
  |zero=>
   obtain rfl:y=z:=by simpa using hz
   exact⟨x,rfl,hy⟩
  |succ i=>simpa using h2 i z (by simpa using hz)
section
variable {H:Type} {enc:TypeId×Value->H} {P:Program} {w:World} {base:Nat} {sp:Nat->Bool} {held:Bool}
theorem i5{t e n:Nat}{fuel:Nat}{sa:Option Addr}{sl sc:Nat}{x:DataW H×List MemPlace}(ht:P.underlying t=some (.slice e))(hn:P.cellsOf e=n)(hpos:0<n)
 (h:DataW.trod enc P w base sp held fuel t [.slice sa sl sc]=some x):
 sl<=maxLen/\∃L:List (List Value),L.length=sl/\(∀(i:Nat) cs,L[i]?=some cs->cs.length=n/\∃b o,sa=some ⟨b,o,none⟩/\∀(j:Nat) u,cs[j]?=some u->w.cell? ⟨b,o+i*n+j,none⟩=some u)/\
  ∀cs∈L,∃m y,DataW.trod enc P w base sp held m e cs=some y:=by
 rcases open_slice ht h with⟨h0,_⟩|⟨a,len,cap,m,k,D,Pl,h0,hb,hl,hm,hmm,rfl,hx⟩
 ·simp only[List.cons.injEq,Value.slice.injEq,and_true] at h0;obtain⟨rfl,rfl,rfl⟩:=h0;exact⟨by simp,[],rfl,fun i cs h=>by simp at h,fun cs h=>by cases h⟩
 ·simp only[List.cons.injEq,Value.slice.injEq,and_true] at h0;obtain⟨rfl,rfl,rfl⟩:=h0;have hlm:sl<=m:=by rw[hmm];split<;>omega
  have each:∀i∈List.range sl,∃cs:List Value,(w.cells? base (a.add (i*n)) n=some cs)/\∃m y,DataW.trod enc P w base sp held m e cs=some y:=fun i hi=>by
   obtain⟨cs,h1,h2⟩:=hx i (by have:=List.mem_range.1 hi;omega);rw[hn] at h1;exact⟨cs,h1,k,_,h2⟩
  have hspot0:0<sl->a.spot=none:=fun h0=>by
   obtain⟨cs,h1,_⟩:=hx 0 (by omega);rw[hn] at h1;obtain⟨_,hlen,hcell⟩:=World.cells?_some h1;have h3:=hcell 0 hpos;rw[aV (by omega)] at h3;simpa[Addr.add] using World.cell?_spot h3
  obtain⟨L,h1,h2⟩:=gV (List.range sl) each;refine⟨by omega,L,by simpa using h1,fun i cs hi=>?_,fun cs hc=>?_⟩
  ·obtain⟨i',e1,e2,_⟩:=h2 i cs hi;have hlt:i<sl:=by
    have:=(List.getElem?_eq_some_iff.1 hi).1;simpa[h1] using this
   obtain rfl:i=i':=by simpa[hlt] using e1
   obtain⟨_,hlen,hcell⟩:=World.cells?_some e2;obtain⟨b,o,spot⟩:=a;have hspot:spot=none:=hspot0 (by omega);subst hspot;refine⟨hlen,b,o,rfl,fun j u hj=>?_⟩;have hjl:j<cs.length:=(List.getElem?_eq_some_iff.1 hj).1;have h4:=hcell j (by omega);rw[add_add,Addr.add_lit] at h4;rw[show o+i*n+j=o+(i*n+j) by omega,h4,hj]
  ·obtain⟨i,hi⟩:=List.getElem?_of_mem hc;obtain⟨_,_,_,e3⟩:=h2 i cs hi;exact e3
def Ka(P:Program)(fs:Array Field):Bool:=(List.range fs.size).all fun i=>match fs[i]? with
 |some f=>decide (f.offset=i)&&decide (P.cellsOf f.type=1)
 |none=>true
theorem jg{t fuel:Nat}{fs:Array Field}{cs:List Value}{x:DataW H×List MemPlace}(ht:P.underlying t=some (.struct fs))(hB:Ka P fs=true)(hc:P.cellsOf t=fs.size)(h:DataW.trod enc P w base sp held fuel t cs=some x):
 cs.length=fs.size/\∃k,∀(i:Nat) f v,fs[i]?=some f->cs[i]?=some v->∃y,DataW.trod enc P w base sp held k f.type [v]=some y:=by
 obtain⟨xs,k,_,_,hlen,hxl,hf⟩:=DataW.trod_struct ht h
 refine⟨hlen.trans hc,k,fun i f v hi hv=>?_⟩
 have hlt:i<fs.size:=(Array.getElem?_eq_some_iff.1 hi).1
 unfold Ka at hB
 have:=List.all_eq_true.1 hB i (List.mem_range.2 hlt)
 rw[hi] at this
 simp only[Bool.and_eq_true,decide_eq_true_eq] at this
 have h1:=hf i f hi
 rw[this.1,this.2] at h1
 have hvl:i<cs.length:=(List.getElem?_eq_some_iff.1 hv).1
 have h2:(cs.drop i).take 1=[v]:=by
  rw[List.drop_eq_getElem_cons hvl];have:cs[i]=v:=by rw[aV hvl] at hv;exact az hv
  simp[this]
 rw[h2] at h1
 rw[aV (by rw[hxl];exact hlt)] at h1
 exact⟨_,h1⟩
end
end
section
open Go.RowKit Go.Maps Go.WideMaps Go.ChangeShapes Go.WideShapes Go.Deep
attribute [local go_sem] am aq
def fL(w:World)(v:Value)(L:List Lb):Prop:=
 ∃a c,v=.slice a L.length c/\L.length<=maxLen/\∀(i:Nat) x,L[i]?=some x->∃b o,a=some ⟨b,o,none⟩/\w.cell? ⟨b,o+i*2,none⟩=some (.string (bs x.1))/\w.cell? ⟨b,o+i*2+1,none⟩=some (.string (bs x.2))/\x.1.length<=maxLen/\x.2.length<=maxLen
theorem fL.below{w w':World}{v:Value}{L:List Lb}(h:fL w v L)(hb:Below w.heap.size w w'):fL w' v L:=by
 obtain⟨a,c,h1,h2,h3⟩:=h;refine⟨a,c,h1,h2,fun i x hx=>?_⟩;obtain⟨b,o,h4,h5,h6,h7⟩:=h3 i x hx;have f:∀{p:Addr} {v:Value},w.cell? p=some v->w'.cell? p=some v:=fun h=>cu hb h;exact⟨b,o,h4,f h5,f h6,h7⟩
def Fl (L:List Lb):Prop:=L.length<=10/\∀x∈L,x.1.length<=300/\x.2.length<=300
theorem fL.at{w:World}{v:Value}{L:List Lb}(h:fL w v L)(hf:Fl L):aC w v L:=by
 obtain⟨a,c,h1,h2,h3⟩:=h;refine⟨a,c,h1,by have:=hf.1;omega,fun i x hx=>?_⟩;obtain⟨b,o,h4,h5,h6,h7⟩:=h3 i x hx;have:=hf.2 x (List.mem_of_getElem? hx);exact⟨by omega,by omega,b,o,h4,h5,h6⟩
section
variable {H:Type} {enc:TypeId×Value->H} {w:World} {base:Nat} {sp:Nat->Bool} {held:Bool}
theorem oY{fuel:Nat}{v:Value}{x:DataW H×List MemPlace}(h:DataW.trod enc Tryz.prog w base sp held fuel 65 [v]=some x)(hv:∃sa sl sc,v=.slice sa sl sc):∃L,fL w v L:=by
 obtain⟨sa,sl,sc,rfl⟩:=hv;obtain⟨h1,L,h2,h3,h4⟩:=i5 Tryz.underlying65 (n:=2) (by kernel_rfl) (by omega) h;obtain⟨l,k1,k2⟩:=gV (R:=fun cs (a:Lb)=>cs=[.string (bs a.1),.string (bs a.2)]/\a.1.length<=maxLen/\a.2.length<=maxLen) L fun cs hc=>by
  obtain⟨m,y,hy⟩:=h4 cs hc;obtain⟨hlen,k,hf⟩:=jg Tryz.underlying73 (by kernel_rfl) (by kernel_rfl) hy;match cs,hlen with
  |[v0,v1],_=>
   obtain⟨y0,g0⟩:=hf 0 _ v0 rfl rfl;obtain⟨y1,g1⟩:=hf 1 _ v1 rfl rfl;obtain⟨sA,e1,_,w1⟩:=DataW.trod_string Tryz.underlying9 g0;obtain⟨sB,e2,_,w2⟩:=DataW.trod_string Tryz.underlying9 g1;obtain⟨lA,rfl⟩:=Ke sA;obtain⟨lB,rfl⟩:=Ke sB;rw[aq] at w1 w2;simp only[List.cons.injEq,and_true] at e1 e2;subst e1 e2;exact⟨(lA,lB),rfl,w1,w2⟩
 refine⟨l,sa,sc,by rw[k1,h2],by omega,fun i a ha=>?_⟩;obtain⟨cs,e1,rfl,e2,e3⟩:=k2 i a ha;obtain⟨_,b,o,f1,f2⟩:=h3 i _ e1;exact⟨b,o,f1,by simpa using f2 0 _ rfl,f2 1 _ rfl,e2,e3⟩
end
theorem DV{w:World}{v:Value}{L:List Lb}(h:fL w v L):
 Calls Tryz.prog 80 #[v] w fun e w'=>∃b,e=.returned (.bool b)/\Below w.heap.size w w'/\(b=true->Fl L):=by
 obtain⟨a,c,rfl,hn,hc⟩:=h
 have HC:=af hc
 unfold maxLen at hn
 clear hc
 go_enter Tryz.func80,Tryz.ntmps80
 go_wp2
 go_loopw [3] (fun vi wr=>∃i:Nat,i<=L.length/\i<=11/\vi=.int .i64 (i:Int)/\(∀x∈L.take i,x.1.length<=300/\x.2.length<=300)/\Below w.heap.size w wr) (fun vi _=>11-(intOf vi).toNat)
 case atStart=>exact⟨0,Nat.zero_le _,by omega,rfl,by simp,bR⟩
 obtain⟨i,hi,hi2,rfl,hp,hb⟩:=hrel
 have HP:=af hp
 clear hp
 by_cases hil:i<L.length
 ·by_cases hi3:i<=10
  ·obtain⟨b,o,rfl,d0,d1,l0,l1⟩:=HC.out i _ (aV hil);have HT:=af (show L.take i++[L[i]]=L.take (i+1) from(eM hil).symm);have e0:=cu hb d0;have e1:=cu hb d1;generalize L[i]=x at*;clear d0 d1;unfold maxLen at l0 l1;by_cases h1:300<x.1.length
   ·have f1:decide ((300:Int)<(x.1.length:Int))=true:=by simp;omega
    have f1':decide (300<x.1.length)=true:=by simpa using h1
    go_wp2;go_ret;exact⟨false,rfl,hb,fun e=>by cases e⟩
   have f1:decide ((300:Int)<(x.1.length:Int))=false:=by simp;omega
   have f1':decide (300<x.1.length)=false:=by simpa using h1
   by_cases h2:300<x.2.length
   ·have f2:decide ((300:Int)<(x.2.length:Int))=true:=by simp;omega
    have f2':decide (300<x.2.length)=true:=by simpa using h2
    go_wp2;go_ret;exact⟨false,rfl,hb,fun e=>by cases e⟩
   have f2:decide ((300:Int)<(x.2.length:Int))=false:=by simp;omega
   have f2':decide (300<x.2.length)=false:=by simpa using h2
   go_wp2;go_roundw
   case rel=>
    refine⟨i+1,by omega,by omega,by go_num,fun y hy=>?_,hb⟩;rw[<-HT.out] at hy;rcases List.mem_append.1 hy with hy|hy
    ·exact HP.out y hy
    ·obtain rfl:=List.mem_singleton.1 hy;exact⟨by omega,by omega⟩
   case measure=>simp[intOf];omega
  ·have f1:decide ((i:Int)<=10)=false:=by simp;omega
   have f1':decide (i<=10)=false:=by simpa using hi3
   have f2:decide ((L.length:Int)<=10)=false:=by simp;omega
   have f2':decide (L.length<=10)=false:=by simp;omega
   go_wp2;go_ret;exact⟨false,rfl,hb,fun e=>by cases e⟩
 ·obtain rfl:i=L.length:=by omega
  rw[List.take_length] at HP;go_wp2;go_ret;exact⟨_,rfl,hb,fun e=>⟨by (have h:(L.length:Int)<=10:=by simpa using e);omega,HP.out⟩⟩
def JV(w:World)(b o:Nat)(x:Rc):Prop:=x.ok/\∃sl,w.cell? ⟨b,o,none⟩=some (.int .i64 x.kind)/\w.cell? ⟨b,o+1,none⟩=some sl/\fL w sl x.labels/\w.cell? ⟨b,o+2,none⟩=some (.int .i64 x.t)/\w.cell? ⟨b,o+3,none⟩=some (.int .i64 x.u)/\w.cell? ⟨b,o+4,none⟩=some (.int .u64 (x.v:Int))
def iw(w:World)(v:Value)(R:List Rc):Prop:=
 ∃a c,v=.slice a R.length c/\R.length<=maxLen/\∀(i:Nat) x,R[i]?=some x->∃b o,a=some ⟨b,o,none⟩/\JV w b (o+i*5) x
theorem iw.below{w w':World}{v:Value}{R:List Rc}(h:iw w v R)(hb:Below w.heap.size w w'):iw w' v R:=by
 obtain⟨a,c,h1,h2,h3⟩:=h;refine⟨a,c,h1,h2,fun i x hx=>?_⟩;obtain⟨b,o,h4,h5,sl,e0,e1,hL,e2,e3,e4⟩:=h3 i x hx;have f:∀{p:Addr} {v:Value},w.cell? p=some v->w'.cell? p=some v:=fun h=>cu hb h;exact⟨b,o,h4,h5,sl,f e0,f e1,hL.below hb,f e2,f e3,f e4⟩
def KL (R:List Rc):Prop:=R.length<=40/\∀x∈R,Fl x.labels
theorem iw.at{w:World}{v:Value}{R:List Rc}(h:iw w v R)(hf:KL R):dw w v R:=by
 obtain⟨a,c,h1,h2,h3⟩:=h;refine⟨a,c,h1,by have:=hf.1;omega,fun i x hx=>?_⟩;obtain⟨b,o,h4,h5,sl,e0,e1,hL,e2,e3,e4⟩:=h3 i x hx;exact⟨b,o,h4,h5,sl,e0,e1,hL.at (hf.2 x (List.mem_of_getElem? hx)),e2,e3,e4⟩
section
variable {H:Type} {enc:TypeId×Value->H} {w:World} {base:Nat} {sp:Nat->Bool} {held:Bool}
theorem xH{fuel:Nat}{sa:Option Addr}{sl sc:Nat}{x:DataW H×List MemPlace}(h:DataW.trod enc Tryz.prog w base sp held fuel 22 [.slice sa sl sc]=some x):∃R,iw w (.slice sa sl sc) R:=by
 obtain⟨h1,L,h2,h3,h4⟩:=i5 Tryz.underlying22 (n:=5) (by kernel_rfl) (by omega) h;obtain⟨l,k1,k2⟩:=gV (R:=fun cs (a:Rc)=>a.ok/\∃kv,cs=[.int .i64 a.kind,kv,.int .i64 a.t,.int .i64 a.u,.int .u64 (a.v:Int)]/\fL w kv a.labels) L fun cs hc=>by
  obtain⟨m,y,hy⟩:=h4 cs hc;obtain⟨hlen,k,hf⟩:=jg Tryz.underlying108 (by kernel_rfl) (by kernel_rfl) hy;match cs,hlen with
  |[v0,v1,v2,v3,v4],_=>
   obtain⟨y0,g0⟩:=hf 0 _ v0 rfl rfl;obtain⟨y1,g1⟩:=hf 1 _ v1 rfl rfl;obtain⟨y2,g2⟩:=hf 2 _ v2 rfl rfl;obtain⟨y3,g3⟩:=hf 3 _ v3 rfl rfl;obtain⟨y4,g4⟩:=hf 4 _ v4 rfl rfl;obtain⟨K,e0,_,w0⟩:=DataW.trod_int Tryz.underlying3 g0;obtain⟨T,e2,_,w2⟩:=DataW.trod_int Tryz.underlying2 g2;obtain⟨U,e3,_,w3⟩:=DataW.trod_int Tryz.underlying2 g3;obtain⟨V,e4,_,w4⟩:=DataW.trod_int Tryz.underlying67 g4;have e1:∃sa sl sc,v1=.slice sa sl sc:=by
    rcases open_slice Tryz.underlying65 g1 with⟨e,_⟩|⟨_,_,_,_,_,_,_,e,_⟩
    ·exact⟨_,_,_,by simpa using e⟩
    ·exact⟨_,_,_,by simpa using e⟩
   obtain⟨ks,hks⟩:=oY g1 e1;simp only[List.cons.injEq,and_true] at e0 e2 e3 e4;subst e0 e2 e3 e4;obtain⟨n,rfl,hn⟩:∃k:Nat,V=k/\k<18446744073709551616:=by
    have:=bounds_u64 w4;exact⟨V.toNat,by omega,by omega⟩
   have b0:=bounds_i64 w0;have b2:=bounds_i64 w2;have b3:=bounds_i64 w3;exact⟨⟨K,ks,T,U,n⟩,⟨b0.1,b0.2,b2.1,b2.2,b3.1,b3.2,hn⟩,v1,rfl,hks⟩
 refine⟨l,sa,sc,by rw[k1,h2],by omega,fun i a ha=>?_⟩;obtain⟨cs,e1,hok,kv,rfl,e2⟩:=k2 i a ha;obtain⟨_,b,o,f1,f2⟩:=h3 i _ e1;exact⟨b,o,f1,hok,kv,by simpa using f2 0 _ rfl,f2 1 _ rfl,e2,f2 2 _ rfl,f2 3 _ rfl,f2 4 _ rfl⟩
end
theorem AP{w:World}{v:Value}{R:List Rc}(h:iw w v R):
 Calls Tryz.prog 31 #[v] w fun e w'=>∃b,e=.returned (.bool b)/\Below w.heap.size w w'/\(b=true->KL R):=by
 obtain⟨a,c,rfl,hn,hc⟩:=h
 have HC:=af hc
 unfold maxLen at hn
 clear hc
 go_enter Tryz.func31,Tryz.ntmps31
 go_wp2
 go_loopw [3] (fun vi wr=>∃i:Nat,i<=R.length/\i<=41/\vi=.int .i64 (i:Int)/\(∀x∈R.take i,Fl x.labels)/\Below w.heap.size w wr) (fun vi _=>41-(intOf vi).toNat)
 case atStart=>exact⟨0,Nat.zero_le _,by omega,rfl,by simp,bR⟩
 obtain⟨i,hi,hi2,rfl,hp,hb⟩:=hrel
 have HP:=af hp
 clear hp
 by_cases hil:i<R.length
 ·by_cases hi3:i<=40
  ·obtain⟨b,o,rfl,hok,sl,d0,d1,hL,_⟩:=HC.out i _ (aV hil);have HT:=af (show R.take i++[R[i]]=R.take (i+1) from(eM hil).symm);have e1:=cu hb d1;have q:=af (DV (hL.below (hb.mono (aF _))));generalize R[i]=x at*;obtain⟨va,vc,rfl,_⟩:=hL;clear d0 d1;go_wp2_with fail
   refine q.out.mono ?_;rintro e W2 ⟨b2,rfl,hb2,hf⟩;have HF:=af hf;clear hf q;have hbb:=ay hb hb2;cases b2 with
   |false=>
    go_wp2;go_ret;exact⟨false,rfl,hbb,fun e=>by cases e⟩
   |true=>
    go_wp2;go_roundw
    case rel=>
     refine⟨i+1,by omega,by omega,by go_num,fun y hy=>?_,hbb⟩;rw[<-HT.out] at hy;rcases List.mem_append.1 hy with hy|hy
     ·exact HP.out y hy
     ·obtain rfl:=List.mem_singleton.1 hy;exact HF.out trivial
    case measure=>simp[intOf];omega
  ·have f1:decide ((i:Int)<=40)=false:=by simp;omega
   have f1':decide (i<=40)=false:=by simpa using hi3
   have f2:decide ((R.length:Int)<=40)=false:=by simp;omega
   have f2':decide (R.length<=40)=false:=by simp;omega
   go_wp2;go_ret;exact⟨false,rfl,hb,fun e=>by cases e⟩
 ·obtain rfl:i=R.length:=by omega
  rw[List.take_length] at HP;go_wp2;go_ret;exact⟨_,rfl,hb,fun e=>⟨by (have h:(R.length:Int)<=40:=by simpa using e);omega,HP.out⟩⟩
end
section
open Go.RowKit
def Ac (n:Nat)(R:List Bool):Option (Nat×List Bool):=if n<=R.length then some (jF (R.take n),R.drop n) else none
def dH (x:Int):Int:=IntKind.i64.wrap x
theorem tW(x:Int):dH x=(x+9223372036854775808)%18446744073709551616-9223372036854775808:=by
 unfold dH;simp only[IntKind.wrap,IntKind.bits,IntKind.signed];simp;omega
theorem su(x:Int): -9223372036854775808<=dH x/\dH x<=9223372036854775807:=by rw[tW];omega
structure AK where
 n:Nat
 t:Int
 d:Int
def gY(i:Nat):Int:=if i=0 then 0 else if i=1 then-63 else if i=2 then-255 else-2047
def oA(i:Nat):Int:=if i=0 then 0 else if i=1 then 64 else if i=2 then 256 else 2048
def kZ(i:Nat):Nat:=if i=0 then 0 else if i=1 then 7 else if i=2 then 9 else 12
def nh(c:Int)(i:Nat):Bool:=decide (gY i<=c/\c<=oA i)
def fe(c:Int):Nat:=if nh c 0 then 0 else if nh c 1 then 1 else if nh c 2 then 2 else if nh c 3 then 3 else 4
theorem pH(c:Int):fe c<=4:=by unfold fe;split<;>(try split)<;>(try split)<;>(try split)<;>omega
def bG(s:AK)(t:Int):AK:=if s.n=0 then⟨1,t,0⟩ else⟨s.n+1,t,dH (t-s.t)⟩
def dX(s:AK)(t:Int):Int:=dH (dH (t-s.t)-s.d)
def FA (c:Int):List Bool:=
 if fe c=4 then bH 15 4++bH (aS c) 64
 else bH (2^(fe c+1)-2) (fe c+1)++bH (aS (c-gY (fe c))) (kZ (fe c))
def sU (s:AK)(t:Int):List Bool:=if s.n=0 then bH (aS t) 64 else FA (dX s t)
def ld:AK->List Int->List Bool
 |_,[]=>[]
 |s,t::l=>sU s t++ld (bG s t) l
def J3:Nat->Nat->List Bool->Option (Nat×List Bool)
 |0,i,R=>some (i,R)
 |_+1,_,[]=>none
 |k+1,i,b::R=>if b then J3 k (i+1) R else some (i,R)
def LL (s:AK)(R:List Bool):Option (Int×List Bool):=
 if s.n=0 then(Ac 64 R).map fun p=>(dH p.1,p.2)
 else match J3 4 0 R with
  |none=>none
  |some (i,R1)=>match Ac (if i<4 then kZ i else 64) R1 with
   |none=>none
   |some (v,R2)=>
    let c:=dH (dH v+if i<4 then gY i else 0)
    if fe c=i then some (dH (dH (s.t+s.d)+c),R2) else none
theorem vD{c:Int}{i:Nat}(h:fe c=i)(hi:i<4):gY i<=c/\c<=oA i:=by
 unfold fe nh at h;subst h;split at hi
 ·rename_i h1;rw[if_pos h1];simpa using h1
 ·rename_i h1;split at hi
  ·rename_i h2;rw[if_neg h1,if_pos h2];simpa using h2
  ·rename_i h2;split at hi
   ·rename_i h3;rw[if_neg h1,if_neg h2,if_pos h3];simpa using h3
   ·rename_i h3;split at hi
    ·rename_i h4;rw[if_neg h1,if_neg h2,if_neg h3,if_pos h4];simpa using h4
    ·omega
def Dk:Nat->AK->List Bool->Option (List Int×List Bool)
 |0,_,R=>some ([],R)
 |k+1,s,R=>match LL s R with
  |none=>none
  |some (t,R1)=>match Dk k (bG s t) R1 with
   |none=>none
   |some (l,R2)=>some (t::l,R2)
def Ij(R:List Bool):Bool:=decide (R.length<8)&&decide (jF R=0)
def kV(l:List Int):List UInt8:=ed (ld ⟨0,0,0⟩ l)
def Kt(s:List UInt8)(n:Nat):Option (List Int):=match Dk n ⟨0,0,0⟩ (Kf s) with
 |none=>none
 |some (l,R)=>if Ij R then some l else none
def kK(x:Nat):Nat:=64-Lib.bitLen x
def fW(x:Nat):Nat:=Lib.ctz 64 x
theorem wK{x:Nat}(h:x<2^64):Lib.bitLen x<=64:=Lib.bitLen_le x 64 (aF _) h
theorem JC{x:Nat}(h:x<2^64)(h0:x≠0):x<2^(64-kK x):=by
 obtain⟨_,_,h3⟩:=Lib.bitLenAux_bounds 64 x h h0;have:=wK h;unfold kK;rw[show 64-(64-Lib.bitLen x)=Lib.bitLen x by omega];exact h3
theorem Ga{x:Nat}(h:x<2^64)(h0:x≠0):∃m,x=2^fW x*m/\m≠0/\fW x<64:=by
 obtain⟨m,h1,h2⟩:=Lib.ctzFrom_spec 64 x (by omega) h;have e:fW x=Lib.ctzFrom 64 x:=by unfold fW Lib.ctz;rw[if_neg h0]
 exact⟨2*m+1,by rw[e];exact h1,by omega,by rw[e];exact h2⟩
theorem tP{x:Nat}(h:x<2^64)(h0:x≠0):kK x+fW x<64:=by
 obtain⟨m,h1,h2,h3⟩:=Ga h h0;have h4:=JC h h0;have h5:2^fW x<=x:=by
  conv=>rhs;rw[h1]
  exact Nat.le_mul_of_pos_right _ (by omega)
 have h6:=(Nat.pow_lt_pow_iff_right (a:=2) (by decide)).1 (Nat.lt_of_le_of_lt h5 h4);omega
structure l5 where
 n:Nat
 v:Nat
 lead:Nat
 trail:Nat
def l5.begin:l5:=⟨0,0,64,0⟩
def BL (s:l5):Bool:=if s.lead=64 then decide (s.trail=0) else decide (s.lead<64/\s.trail<64-s.lead)
theorem KI{s:l5}(h:BL s=true):s.lead+s.trail<=64:=by
 unfold BL at h;split at h
 ·have:=of_decide_eq_true h;omega
 ·have:=of_decide_eq_true h;omega
def fM (s:l5)(x:Nat):Nat×Nat×Nat:=
 if s.n=0 then(0,s.lead,s.trail) else if x=0 then(1,s.lead,s.trail)
 else if s.lead<64/\s.lead<=kK x/\s.trail<=fW x then(2,s.lead,s.trail) else(3,kK x,fW x)
def A6 (s:l5)(v:Nat):List Bool:=
 let w:=fM s (v^^^s.v)
 let x:=v^^^s.v
 if w.1=0 then bH v 64 else if w.1=1 then bH 0 1
 else if w.1=2 then bH 2 2++bH (x >>> w.2.2) (64-w.2.1-w.2.2)
 else((bH 3 2++bH w.2.1 6)++bH (64-w.2.1-w.2.2-1) 6)++bH (x >>> w.2.2) (64-w.2.1-w.2.2)
def eS(s:l5)(v:Nat):l5:=⟨s.n+1,v,(fM s (v^^^s.v)).2.1,(fM s (v^^^s.v)).2.2⟩
def kT:l5->List Nat->List Bool
 |_,[]=>[]
 |s,v::l=>A6 s v++kT (eS s v) l
def F4(s:l5)(how lead trail:Nat)(R:List Bool):Option (l5×List Bool):=match Ac (64-lead-trail) R with
 |none=>none
 |some (v,R2)=>if fM s (v*2^trail)=(how,lead,trail) then some (⟨s.n+1,s.v^^^(v*2^trail),lead,trail⟩,R2) else none
def LJ (s:l5)(R:List Bool):Option (l5×List Bool):=
 if s.n=0 then(Ac 64 R).map fun p=>(⟨1,p.1,s.lead,s.trail⟩,p.2)
 else match Ac 1 R with
  |none=>none
  |some (b,R1)=>if b=0 then some (⟨s.n+1,s.v,s.lead,s.trail⟩,R1) else match Ac 1 R1 with
   |none=>none
   |some (f,R2)=>if f=1 then match Ac 6 R2 with
    |none=>none
    |some (a,R3)=>match Ac 6 R3 with
     |none=>none
     |some (c,R4)=>if 63<a+c then none else F4 s 3 a (63-a-c) R4
    else F4 s 2 s.lead s.trail R2
theorem yF{a b:Nat}(ha:a<2^64)(hb:b<2^64):a^^^b<2^64:=Nat.xor_lt_two_pow ha hb
theorem yL(s:l5)(v:Nat)(hs:BL s=true)(h1:s.v<2^64)(h2:v<2^64):BL (eS s v)=true:=by
 have hx:=yF h2 h1;unfold eS fM;split
 ·exact hs
 ·split
  ·exact hs
  ·split
   ·exact hs
   ·rename_i hn h0 hc;have:=tP hx h0;unfold BL;dsimp only;rw[if_neg (by omega)];simp;omega
def Dg:Nat->l5->List Bool->Option (List Nat×List Bool)
 |0,_,R=>some ([],R)
 |k+1,s,R=>match LJ s R with
  |none=>none
  |some (t,R1)=>match Dg k t R1 with
   |none=>none
   |some (l,R2)=>some (t.v::l,R2)
def iZ(l:List Nat):List UInt8:=ed (kT l5.begin l)
def I1(s:List UInt8)(n:Nat):Option (List Nat):=match Dg n l5.begin (Kf s) with
 |none=>none
 |some (l,R)=>if Ij R then some l else none
abbrev cH:=Int×Nat
def ew(x:cH):Prop:=(-9223372036854775808<=x.1/\x.1<=9223372036854775807)/\x.2<18446744073709551616
def nL:Option Int->List cH->Bool
 |_,[]=>true
 |p,x::l=>(match p with|none=>true|some t=>decide (t<x.1))&&nL (some x.1) l
def dh(l:List cH):Bool:=nL none l
def pg:Int->List cH->List UInt8
 |_,[]=>[]
 |a,x::l=>(Num.small (Num.zigI (dH (x.1-a))).toNat++Num.wide x.2)++pg x.1 l
def ni(x:cH):List UInt8:=Num.wide (aS x.1)++Num.wide x.2
def dz(l:List cH)(g:Int):List UInt8:=
 if g=1 then Num.wide l.length++l.flatMap ni
 else if g=2 then Num.small l.length++pg 0 l
 else(Num.small l.length++Num.text (kV (l.map fun x=>x.1)))++Num.text (iZ (l.map fun x=>x.2))
def Im(l:List cH)(g:Int):Bool:=decide (1<=g/\g<=3)&&(dh l&&decide (l.length<=200))
def fh(l:List cH)(g:Int):List UInt8×Int:=if Im l g then(dz l g++dj (dz l g),0) else([],1)
def gQ(one:Int->CS->cH×CS):Nat->Int->CS->List cH×CS
 |0,_,c=>([],c)
 |k+1,a,c=>((one a c).1::(gQ one k (one a c).1.1 (one a c).2).1,(gQ one k (one a c).1.1 (one a c).2).2)
def nt(_:Int)(c:CS):cH×CS:=((dH (wV c),(wV (wN c)).toNat),wN (wN c))
def Lf(a:Int)(c:CS):cH×CS:=((dH (a+Num.zagI (sV c)),(wV (sN c)).toNat),wN (sN c))
def LT (c:CS):List UInt8:=Num.ans [] c (Num.getText c.1 100000)
def Lr (c:CS):CS:=Num.nxt c (Num.getText c.1 100000)
def il(g:Int)(c:CS):List cH×CS:=
 if g=1 then gQ nt (min (wV c).toNat 201) 0 (wN c)
 else if g=2 then gQ Lf (min (sV c).toNat 201) 0 (sN c)
 else
  let n:=min (sV c).toNat 201
  match Kt (LT (sN c)) n,I1 (LT (Lr (sN c))) n with
  |some t,some v=>(t.zip v,Lr (Lr (sN c)))
  |_,_=>([],((Lr (Lr (sN c))).1,true))
def nD(c:CS):Bool:= !c.2&&c.1.isEmpty
def fZ(s:List UInt8)(g:Int):List cH×Int:=
 if g<1\/3<g then([],1)
 else match eB s with
  |none=>([],9)
  |some b=>if nD (il g (b,false)).2&&(decide ((il g (b,false)).1.length<=200)&&dh (il g (b,false)).1) then((il g (b,false)).1,0) else([],9)
theorem Ip(c:Int):(FA c).length<=68:=by
 unfold FA;split
 ·rw[aG,bN,bN];omega
 ·have:=pH c;rw[aG,bN,bN];unfold kZ;split<;>(try split)<;>(try split)<;>omega
theorem yV(s:AK)(t:Int):(sU s t).length<=68:=by
 unfold sU;split
 ·rw[bN];omega
 ·exact Ip _
theorem sW:∀(l:List Int) (s:AK),(ld s l).length<=l.length*68
 |[],_=>aF _
 |t::l,s=>by
  have h1:=yV s t;have h2:=sW l (bG s t);rw[ld,aG,cY];omega
theorem sM(l:List Int):(kV l).length<=l.length*9:=by
 unfold kV;rw[pK];have:=sW l ⟨0,0,0⟩;omega
theorem yK(s:l5)(v:Nat):(A6 s v).length<=78:=by
 unfold A6;dsimp only;split
 ·rw[bN];omega
 ·split
  ·rw[bN];omega
  ·split
   ·rw[aG,bN,bN];omega
   ·rw[aG,aG,aG,bN,bN,bN,bN];omega
theorem sK:∀(l:List Nat) (s:l5),(kT s l).length<=l.length*78
 |[],_=>aF _
 |t::l,s=>by
  have h1:=yK s t;have h2:=sK l (eS s t);rw[kT,aG,cY];omega
theorem qH(l:List Nat):(iZ l).length<=l.length*10:=by
 unfold iZ;rw[pK];have:=sK l l5.begin;omega
theorem rG{l:List cH}{g:Int}(hl:l.length<=200):(dz l g).length<=5000:=by
 have k1:∀m:List cH,(m.flatMap ni).length=m.length*16:=fun m=>by
  induction m with
  |nil=>rfl
  |cons x m ih=>rw[List.flatMap_cons,aG,ih,cY];unfold ni;rw[aG,Num.wide_len,Num.wide_len];omega
 have k2:∀(m:List cH) (a:Int),(pg a m).length<=m.length*18:=fun m=>by
  induction m with
  |nil=>intro a;exact aF _
  |cons x m ih=>
   intro a;have h1:=ih x.1;have h2:=(Num.small_len (Num.zigI (dH (x.1-a))).toNat).2;rw[pg,aG,aG,Num.wide_len,cY];omega
 have k3:=(Num.small_len l.length).2;unfold dz;split
 ·rw[aG,Num.wide_len,k1];omega
 ·split
  ·have:=k2 l 0;rw[aG];omega
  ·have h1:=sM (l.map fun x=>x.1);have h2:=qH (l.map fun x=>x.2);rw[List.length_map] at h1 h2;have h3:=(Num.small_len (kV (l.map fun x=>x.1)).length).2;have h4:=(Num.small_len (iZ (l.map fun x=>x.2)).length).2;rw[aG,aG,Num.text_len,Num.text_len];omega
end
section
open Go.RowKit
attribute [local go_sem] am aq
theorem kQ(L M:List Lb)(v u:Value)(w:World)(h1:aC w v L)(h2:aC w u M):
 Calls Tryz.prog 66 #[v,u] w fun e w'=>e=.returned (.bool (dN L M))/\Below w.heap.size w w':=by
 have q1:=af (pz L v w h1)
 have q2:=af (fun W h=>pz M u W h)
 have HL:=af (show dN L M=Op.bytesLess (de L) (de M) from rfl)
 generalize dN L M=R at*
 generalize de L=a at*
 generalize de M=b at*
 go_enter Tryz.func66,Tryz.ntmps66
 go_wp2_with fail
 refine bL q1.out fun w1 b1=>?_
 have h3:=h2.below b1
 go_wp2_with fail
 refine(q2.out _ h3).mono ?_
 rintro e w2 ⟨rfl,b2⟩
 go_wp2
 go_ret
 exact⟨by rw[HL.out];rfl,ay b1 b2⟩
def hU(L M:List Lb):Bool:=decide (L.length=M.length)&&(de L==de M)
theorem m5(L M:List Lb)(v u:Value)(w:World)(h1:aC w v L)(h2:aC w u M):
 Calls Tryz.prog 71 #[v,u] w fun e w'=>e=.returned (.bool (hU L M))/\Below w.heap.size w w':=by
 have q1:=af (pz L v w h1)
 have q2:=af (fun W h=>pz M u W h)
 have HL:=af (show hU L M=(decide (L.length=M.length)&&(de L==de M)) from rfl)
 generalize hU L M=R at*
 obtain⟨a,c,rfl,_⟩:=id h1
 obtain⟨a',c',rfl,_⟩:=id h2
 generalize de L=s at*
 generalize de M=t at*
 by_cases hl:L.length=M.length
 ·have f1:((L.length:Int)==(M.length:Int))=true:=by simp[hl]
  have HR:=af (show R=(s==t) by rw[HL.out,hl];simp);have HLL:=af hl;clear HL hl;go_enter Tryz.func71,Tryz.ntmps71
  go_wp2_with fail
  refine bL q1.out fun w1 b1=>?_;have h3:=h2.below b1;go_wp2_with fail
  refine(q2.out _ h3).mono ?_;rintro e w2 ⟨rfl,b2⟩;go_wp2;go_ret;exact⟨by rw[HR.out];rfl,ay b1 b2⟩
 ·have f1:((L.length:Int)==(M.length:Int))=false:=by simpa using(fun e=>hl (by omega):¬(L.length:Int)=(M.length:Int))
  have f2:(L.length==M.length)=false:=by simpa using hl
  have HR:=af (show R=false by rw[HL.out,decide_eq_false hl];rfl);clear HL hl;go_enter Tryz.func71,Tryz.ntmps71
  go_wp2;go_ret;exact⟨by rw[HR.out];rfl,bR⟩
end
section
open Go.RowKit
structure aO where
 labels:List Lb
 samples:List cH
 last:Int
structure kt where
 ser:List aO
 floor:Int
def cy:aO:=⟨[],[],0⟩
def aO.ok(x:aO):Prop:=(∀y∈x.samples,ew y)/\ -9223372036854775808<=x.last/\x.last<=9223372036854775807
def cP(S:List aO)(l:List Lb):Option Nat:=S.findIdx? fun x=>hU x.labels l
def fU(S:List aO)(l:List Lb):Nat:=(S.findIdx? fun x=> !dN x.labels l).getD S.length
def ek(l:List cH)(a b:Int):List cH:=l.filter fun x=>decide (a<=x.1)&&decide (x.1<=b)
def bV(l:List cH)(a b:Int):List cH:=l.filter fun x=>decide (x.1<a)||decide (b<x.1)
def cI(s:kt)(l:List Lb)(x:cH)(g:Int):Int×Bool:=
 if bD l≠0 then(2,false)
 else if cZ g<(a8 l:Int) then(3,false)
 else if aX x.1=false then(1,false)
 else if x.1<s.floor then(6,false)
 else match cP s.ser l with
  |none=>if 20<=s.ser.length then(7,false) else(0,false)
  |some i=>
   let y:=s.ser.getD i cy
   if x.1<y.last then(4,false)
   else if x.1=y.last then(if x∈y.samples then(0,true) else(5,false))
   else if 200<=y.samples.length then(7,false) else(0,false)
def tw (s:kt)(l:List Lb)(x:cH):kt:=match cP s.ser l with
 |some i=>⟨s.ser.set i ⟨(s.ser.getD i cy).labels,(s.ser.getD i cy).samples++[x],x.1⟩,s.floor⟩
 |none=>⟨s.ser.take (fU s.ser l)++(⟨l,[x],x.1⟩::s.ser.drop (fU s.ser l)),s.floor⟩
def v8(s:kt)(t:Int):kt:=⟨(s.ser.map fun x=>(⟨x.labels,ek x.samples t 9223372036854775807,x.last⟩:aO)).filter fun x=> !x.samples.isEmpty||decide (t<=x.last),t⟩
def bT(s:kt)(r:Rc):kt×Int:=
 if r.kind=0 then(if cI s r.labels (r.t,r.v) 3=(0,false) then(tw s r.labels (r.t,r.v),0) else(s,9))
 else if r.kind=1 then match cP s.ser r.labels with
  |none=>(s,9)
  |some i=>
   let y:=s.ser.getD i cy
   if (bV y.samples r.t r.u).length=y.samples.length then(s,9) else(⟨s.ser.set i ⟨y.labels,bV y.samples r.t r.u,y.last⟩,s.floor⟩,0)
 else if r.kind=2 then(if aX r.t&&decide (s.floor<r.t) then(v8 s r.t,0) else(s,9))
 else(s,9)
def dJ(x:aO)(f:Int):Bool:=
 (decide (bD x.labels=0)&&(decide (x.samples.length<=200)&&(dh x.samples&&decide (x.last<=1125899906842624))))&&
 match x.samples with
 |[]=>decide (f<=x.last)
 |y::l=>decide (f<=y.1)&&decide (((y::l).getLast (by simp)).1<=x.last)
def dS(f:Int):Option (List Lb)->List aO->Bool
 |_,[]=>true
 |p,x::l=>dJ x f&&((match p with|none=>true|some q=>dN q x.labels)&&dS f (some x.labels) l)
def fx(s:kt):Bool:=aX s.floor&&(decide (s.ser.length<=20)&&dS s.floor none s.ser)
def fm(x y:aO):Bool:=decide (x.last=y.last)&&(hU x.labels y.labels&&decide (x.samples=y.samples))
def jk:List aO->List aO->Bool
 |[],[]=>true
 |x::l,y::m=>fm x y&&jk l m
 |_,_=>false
def vG(a b:kt):Bool:=decide (a.floor=b.floor)&&jk a.ser b.ser
structure nd where
 floor:Int
 gone:List Rc
 ser:List aO
def aY:nd:=⟨0,[],[]⟩
def ey(b:nd):Nat:=b.ser.foldl (fun n x=>max n (a8 x.labels)) (b.gone.foldl (fun n x=>max n (a8 x.labels)) 0)
def gD(x:aO):Bool:= !decide (bD x.labels=0)||(!dh x.samples||(decide (200<x.samples.length)|| !aX x.last))
def lu(g:Int)(x:Rc):Bool:= !decide (x.kind=1)||decide (dI x g=1)
def gC:Option (List Lb)->List aO->Bool
 |_,[]=>true
 |p,x::l=>(match p with|none=>true|some q=>dN q x.labels)&&gC (some x.labels) l
def dB(b:nd)(g:Int):Int:=
 if g<1\/3<g\/aX b.floor=false\/400<b.gone.length\/20<b.ser.length\/b.gone.any (lu g)=true\/b.ser.any gD=true then 1
 else if gC none b.ser=false then 1
 else if cZ g<(ey b:Int) then 3 else 0
def el(S:List aO)(f:Int):List aO:=S.filter fun x=> !(x.samples.isEmpty&&decide (x.last<f))
def mj (S:List aO)(x:aO):List aO:=match cP S x.labels with
 |some i=>S.set i x
 |none=>S.take (fU S x.labels)++(x::S.drop (fU S x.labels))
def eC(S:List aO)(r:Rc):List aO:=match cP S r.labels with
 |none=>S
 |some i=>
  let y:=S.getD i cy
  mj S ⟨y.labels,bV y.samples r.t r.u,y.last⟩
def fk(S:List aO)(x:aO):List aO:=match cP S x.labels with
 |none=>mj S x
 |some i=>mj S ⟨x.labels,(S.getD i cy).samples++x.samples,x.last⟩
def kM(S:List aO)(f:Int):List aO:=el (S.map fun x=>(⟨x.labels,ek x.samples f 9223372036854775807,x.last⟩:aO)) f
def Dq(s:kt)(b:nd):kt:=
 let S1:=b.gone.foldl eC s.ser
 let f:=max s.floor b.floor
 let S2:=if s.floor<b.floor then kM S1 b.floor else S1
 ⟨el (b.ser.foldl fk S2) f,f⟩
def jN(s:kt)(b:nd):kt×Int:=if fx (Dq s b) then(Dq s b,0) else(s,9)
def iy:Option (Int×Int)->List (cH×Bool)->List (Int×Int)
 |none,[]=>[]
 |some p,[]=>[p]
 |none,(x,true)::l=>iy (some (x.1,x.1)) l
 |none,(_,false)::l=>iy none l
 |some p,(x,true)::l=>iy (some (p.1,x.1)) l
 |some p,(_,false)::l=>p::iy none l
def gK(S:List aO)(l:List Lb):List cH:=match cP S l with
 |none=>[]
 |some i=>(S.getD i cy).samples
def tQ(S:List aO)(l:List Lb):Option Int:=(cP S l).map fun i=>(S.getD i cy).last
def lP(a b:kt):nd:=
 let f:=if a.floor<b.floor then b.floor else 0
 ⟨f,a.ser.flatMap fun x=>(iy none (x.samples.map fun y=>(y,decide (f<=y.1)&& !decide (y∈gK b.ser x.labels)))).map fun p=>⟨1,x.labels,p.1,p.2,0⟩,
   b.ser.filterMap fun x=>
    let l:=x.samples.filter fun y=> !decide (y∈gK a.ser x.labels)
    if l≠[]\/tQ a.ser x.labels≠some x.last then some ⟨x.labels,l,x.last⟩ else none⟩
def nK(x y:Rc):Bool:=decide (x.kind=y.kind)&&(decide (x.t=y.t)&&(decide (x.u=y.u)&&(decide (x.v=y.v)&&hU x.labels y.labels)))
def rZ:List Rc->List Rc->Bool
 |[],[]=>true
 |x::l,y::m=>nK x y&&rZ l m
 |_,_=>false
def qR(a b:nd):Bool:=decide (a.floor=b.floor)&&(rZ a.gone b.gone&&jk a.ser b.ser)
end
section
open Go.RowKit
attribute [local go_sem] am aq
def iu {α:Type}(sz:Nat)(At:World->Nat->Nat->α->Prop)(w:World)(v:Value)(L:List α):Prop:=
 ∃a c,v=.slice a L.length c/\(a=none->c=0)/\L.length<=100000/\L.length<=c/\∀(i:Nat) x,L[i]?=some x->∃b o,a=some ⟨b,o,none⟩/\At w b (o+i*sz) x
section
variable {α:Type} {sz:Nat} {At:World->Nat->Nat->α->Prop} {w w':World} {v:Value} {L:List α}
theorem iu.below(hA:∀{w w':World} {b o:Nat} {x:α},At w b o x->Below w.heap.size w w'->At w' b o x)(h:iu sz At w v L)(hb:Below w.heap.size w w'):iu sz At w' v L:=by
 obtain⟨a,c,h1,h2,h3,h4,h5⟩:=h;refine⟨a,c,h1,h2,h3,h4,fun i x hx=>?_⟩;obtain⟨b,o,h7,h8⟩:=h5 i x hx;exact⟨b,o,h7,hA h8 hb⟩
theorem iu.len(h:iu sz At w v L):L.length<=100000:=by
 obtain⟨_,_,_,_,h3,_⟩:=h;exact h3
theorem iu.nil(w:World):iu sz At w (.slice none 0 0) []:=⟨none,0,rfl,fun _=>rfl,by simp,by simp,fun i x hx=>by simp at hx⟩
def aL{β:Type}(enc:β->List Value)(Z:List β):List Value:=Z.flatMap enc
theorem dO{β:Type}(enc:β->List Value)(A B:List β):aL enc (A++B)=aL enc A++aL enc B:=by unfold aL;rw[List.flatMap_append]
theorem gE{β:Type}(enc:β->List Value)(x:β):aL enc [x]=enc x:=by unfold aL;simp
theorem jy{β:Type}{enc:β->List Value}(he:∀z,(enc z).length=sz):∀Z:List β,(aL enc Z).length=Z.length*sz
 |[]=>by simp[aL]
 |z::Z=>by
  have ih:=jy he Z;unfold aL at ih⊢;rw[List.flatMap_cons,aG,he,ih,cY,Nat.add_mul];omega
theorem jz{β:Type}{enc:β->List Value}(he:∀z,(enc z).length=sz):∀(Z:List β) (i:Nat) (z:β),Z[i]?=some z->∀j u,(enc z)[j]?=some u->(aL enc Z)[i*sz+j]?=some u
 |[],i,z,h,_,_,_=>by simp at h
 |y::Z,0,z,h,j,u,hj=>by
  obtain rfl:y=z:=by simpa using h
  unfold aL;rw[List.flatMap_cons,Nat.zero_mul,Nat.zero_add,List.getElem?_append_left,hj];exact(List.getElem?_eq_some_iff.1 hj).1
 |y::Z,i+1,z,h,j,u,hj=>by
  have ih:=jz he Z i z (by simpa using h) j u hj;unfold aL at*;have e:(i+1)*sz+j=(enc y).length+(i*sz+j):=by rw[he,Nat.add_mul];omega
  rw[List.flatMap_cons,e,List.getElem?_append_right (by omega),Nat.add_sub_cancel_left];exact ih
theorem du(b o i:Nat):(⟨b,o,none⟩:Addr).add i=⟨b,o+i,none⟩:=by unfold Addr.add;split<;>simp_all
theorem s9{β:Type}{enc:β->List Value}{val:β->α}{B n:Nat}{T:TypeId}{Z:List β}(he:∀z,(enc z).length=sz)(h:w.ownsRow B T sz v n (aL enc Z))(hzn:Z.length=n)(hn:Z.length<=100000)
 (hl:∀z∈Z,∀b o,(∀j u,(enc z)[j]?=some u->w.cell? ⟨b,o+j,none⟩=some u)->At w b o (val z)):iu sz At w v (Z.map val):=by
 subst hzn
 have hcells:∀g,v.ownBlock=some g->∀j u,(aL enc Z)[j]?=some u->w.cell? ((⟨g,0,none⟩:Addr).add j)=some u:=fun g hg=>h.cells (g:=g) hg
 rcases h.2 with⟨e,e0⟩|⟨g,cap,cur,e,e1,e2,e3,_⟩
 ·refine⟨none,0,by rw[e,List.length_map,e0],fun _=>rfl,by rwa[List.length_map],by rw[List.length_map,e0];exact aF _,fun i x hx=>?_⟩;rw[List.length_eq_zero_iff.1 e0] at hx;simp at hx
 ·refine⟨some ⟨g,0,none⟩,cap,by rw[List.length_map];exact e,(fun e=>by cases e),by rwa[List.length_map],by rw[List.length_map];exact e3,fun i x hx=>?_⟩;rw[List.getElem?_map] at hx;cases hz:Z[i]? with
  |none=>rw[hz] at hx;cases hx
  |some z=>
   rw[hz] at hx;obtain rfl:val z=x:=by simpa using hx
   refine⟨g,0,rfl,hl z (List.mem_of_getElem? hz) g _ fun j u hj=>?_⟩;have:=hcells g (by rw[e];rfl) (i*sz+j) u (jz he Z i z hz j u hj);rw[du] at this;rw[show 0+i*sz+j=0+(i*sz+j) by omega];exact this
end
def gA (x:cH):List Value:=[.int .i64 x.1,.int .u64 (x.2:Int)]
def pw(w:World)(b o:Nat)(x:cH):Prop:=ew x/\w.cell? ⟨b,o,none⟩=some (.int .i64 x.1)/\w.cell? ⟨b,o+1,none⟩=some (.int .u64 (x.2:Int))
theorem pw.below{w w':World}{b o:Nat}{x:cH}(h:pw w b o x)(hb:Below w.heap.size w w'):pw w' b o x:=
 ⟨h.1,cu hb h.2.1,cu hb h.2.2⟩
def aI(w:World)(v:Value)(L:List cH):Prop:=iu 2 pw w v L
theorem aI.below{w w':World}{v:Value}{L:List cH}(h:aI w v L)(hb:Below w.heap.size w w'):aI w' v L:=iu.below pw.below h hb
theorem iC{w:World}{B n:Nat}{T:TypeId}{v:Value}{Z:List cH}(h:w.ownsRow B T 2 v n (aL gA Z))(hzn:Z.length=n)(hn:Z.length<=100000)(hl:∀z∈Z,ew z):aI w v Z:=by
 have:=s9 (sz:=2) (enc:=gA) (At:=pw) (val:=fun z=>z) (fun _=>rfl) h hzn hn fun z hz b o hc=>⟨hl z hz,by have:=hc 0 _ rfl;simpa using this,hc 1 _ rfl⟩
 rwa[List.map_id'] at this
def eT (z:aO×Value×Value):List Value:=[z.2.1,z.2.2,.int .i64 z.1.last]
def rL(w:World)(b o:Nat)(x:aO):Prop:=
 x.ok/\∃sl sv,w.cell? ⟨b,o,none⟩=some sl/\aC w sl x.labels/\w.cell? ⟨b,o+1,none⟩=some sv/\aI w sv x.samples/\w.cell? ⟨b,o+2,none⟩=some (.int .i64 x.last)
theorem rL.below{w w':World}{b o:Nat}{x:aO}(h:rL w b o x)(hb:Below w.heap.size w w'):rL w' b o x:=by
 obtain⟨h0,sl,sv,h1,h2,h3,h4,h5⟩:=h;exact⟨h0,sl,sv,cu hb h1,h2.below hb,cu hb h3,h4.below hb,cu hb h5⟩
def aM(w:World)(v:Value)(S:List aO):Prop:=iu 3 rL w v S
theorem aM.below{w w':World}{v:Value}{S:List aO}(h:aM w v S)(hb:Below w.heap.size w w'):aM w' v S:=iu.below rL.below h hb
theorem cV{w:World}{B n:Nat}{T:TypeId}{v:Value}{Z:List (aO×Value×Value)}(h:w.ownsRow B T 3 v n (aL eT Z))(hzn:Z.length=n)(hn:Z.length<=100000)
 (hl:∀z∈Z,z.1.ok/\aC w z.2.1 z.1.labels/\aI w z.2.2 z.1.samples):aM w v (Z.map fun z=>z.1):=
 s9 (sz:=3) (enc:=eT) (At:=rL) (val:=fun z=>z.1) (fun _=>rfl) h hzn hn fun z hz b o hc=>by
  obtain⟨h1,h2,h3⟩:=hl z hz;exact⟨h1,z.2.1,z.2.2,by have:=hc 0 _ rfl;simpa using this,h2,hc 1 _ rfl,h3,hc 2 _ rfl⟩
end
section
open Go.RowKit
structure K0(P:Program)(t e:TypeId)(size bytes:Nat):Prop where
 und:P.underlying t=some (.slice e)
 info:∃i z,P.info? e=some i/\i.zero=some z/\i.size=size/\i.bytes=bytes/\z.cells.size=size
 pos:0<size
 few:bytes<=1000
theorem uo{P:Program}{e:TypeId}{size bytes:Nat}(z:Value)(h:(P.info? e).map (fun i=>(i.zero,i.size,i.bytes))=some (some z,size,bytes))(hz:z.cells.size=size):∃i z,P.info? e=some i/\i.zero=some z/\i.size=size/\i.bytes=bytes/\z.cells.size=size:=by
 obtain⟨i,h1,h2,h3,h4⟩:=info_parts h;exact⟨i,z,h1,h2,h3,h4,hz⟩
theorem l7{P:Program}{w:World}{ops:Array Oper}{rest:List Oper}{o:Oper}{a:Act}{Q:Exit->Act->World->Prop}{t e:TypeId}{size bytes:Nat}(E:K0 P t e size bytes)(hgd:o.guard=none)(s x:Operand)
 (ho:o.op=.call {callee:=.builtin .append,args:=#[s,x],argTypes:=#[t,t]}) {base n c:Nat} {v:Value} {xs:List Value} (hs:a.eval s=v) (hown:w.ownsRow base e size v n xs) (cs:List Value) {b:Nat} (hb:w.heap.size=b) (hx:a.eval x=.slice (some ⟨b,0,none⟩) 1 c)
 (hl:cs.length=size) (h1:∀u∈cs,u.oneCell'=true) (hn:n<=1000000) (hbase:base<=w.heap.size)
 (h:∀sa sc w',w'.ownsRow base e size (.slice sa (n+1) sc) (n+1) (xs++cs)->ak w w' (fun k=>v.ownBlock=some k)->((Value.slice sa (n+1) sc).ownBlock=v.ownBlock\/∀k,(Value.slice sa (n+1) sc).ownBlock=some k->w.heap.size<=k)->wpList P ops Q rest (a.put o.dst (.slice sa (n+1) sc)) w'):
 wpList P ops Q (o::rest) a (w.alloc (.cells cs.toArray e)):=by
 subst hb
 obtain⟨i,z,hi,hz,hsz,hby,hzs⟩:=E.info
 refine wpList_append_own_at _ hgd s x t ho base e i z size bytes E.und hi hz hsz hby hzs E.pos v n xs hs (World.ownsRow.alloc hown _) ⟨w.heap.size,0,none⟩ 1 c cs hx (by omega) (uA w cs e) h1 (by unfold maxLen;omega) (aK (Nat.mul_le_mul (show n+1<=1000001 by omega) E.few) (by decide)) (by simp;omega) ?_
 intro v' w' h1' hg hnil hloc
 obtain⟨sa,sc,rfl⟩:=aH h1'
 refine h sa sc w' h1' ((ak.alloc w _ _).trans (ak.of_grown hg fun k e=>e)) (hloc.imp id fun e k hk=>?_)
 rw[e] at hk
 have:=az hk
 simp at this
 omega
end
section
open Go.RowKit
attribute [local go_sem] am aq
theorem Eo(x:En)(lv:Value)(w:World)(h:aC w lv x.labels):
 Calls Tryz.prog 173 #[Kb lv x] w fun e w'=>e=.returned (.bool (dG x))/\Below w.heap.size w w':=by
 have HR:=af (show dG x=(decide (bD x.labels=0)&&decide (0<=x.last/\x.last<=1125899906842624/\0<=x.off/\x.off<=1073741824/\0<=x.len/\x.len<=1073741824)) from rfl)
 obtain⟨a,c,rfl,_⟩:=id h
 obtain⟨L,la,of,le⟩:=x
 simp only at HR h
 rw[show Kb (.slice a L.length c) ⟨L,la,of,le⟩=.agg #[.slice a L.length c,.int .i64 la,.int .i64 of,.int .i64 le] from rfl]
 have b0:=ai w (.cells #[.slice a L.length c,.int .i64 la,.int .i64 of,.int .i64 le] 92)
 have k0:=ag.new w 92 #[.slice a L.length c,.int .i64 la,.int .i64 of,.int .i64 le]
 obtain⟨⟨c0,c1,c2,c3⟩,_⟩:=dt k0
 have q:=af (jj L _ _ (h.below b0))
 generalize dG ⟨L,la,of,le⟩=R at*
 generalize bD L=ce at*
 clear h
 go_enter Tryz.func173,Tryz.ntmps173
 go_wp2_with fail
 refine bL q.out fun w1 b1=>?_
 have k1:=ag.below k0 b1 k0.lt
 have B1:=ay b0 b1
 obtain⟨⟨d0,d1,d2,d3⟩,_⟩:=dt k1
 clear q k0 k1 c0 c1 c2 c3 b0 b1
 by_cases t0:ce=0
 ·have f0:(ce==0)=true:=by simpa using t0
  by_cases t1:0<=la
  ·have f1:decide (0<=la)=true:=by simpa using t1
   by_cases t2:la<=1125899906842624
   ·have f2:decide (la<=1125899906842624)=true:=by simpa using t2
    by_cases t3:0<=of
    ·have f3:decide (0<=of)=true:=by simpa using t3
     by_cases t4:of<=1073741824
     ·have f4:decide (of<=1073741824)=true:=by simpa using t4
      by_cases t5:0<=le
      ·have f5:decide (0<=le)=true:=by simpa using t5
       by_cases t6:le<=1073741824
       ·have f6:decide (le<=1073741824)=true:=by simpa using t6
        have HE:=af (show R=true by rw[HR.out];simp;omega);clear HR t0 t1 t2 t3 t4 t5 t6;go_wp2;go_ret;exact⟨by rw[HE.out];rfl,B1⟩
       ·have f6:decide (le<=1073741824)=false:=by simpa using t6
        have HE:=af (show R=false by rw[HR.out];simp;omega);clear HR t0 t1 t2 t3 t4 t5 t6;go_wp2;go_ret;exact⟨by rw[HE.out];rfl,B1⟩
      ·have f5:decide (0<=le)=false:=by simpa using t5
       have HE:=af (show R=false by rw[HR.out];simp;omega);clear HR t0 t1 t2 t3 t4 t5;go_wp2;go_ret;exact⟨by rw[HE.out];rfl,B1⟩
     ·have f4:decide (of<=1073741824)=false:=by simpa using t4
      have HE:=af (show R=false by rw[HR.out];simp;omega);clear HR t0 t1 t2 t3 t4;go_wp2;go_ret;exact⟨by rw[HE.out];rfl,B1⟩
    ·have f3:decide (0<=of)=false:=by simpa using t3
     have HE:=af (show R=false by rw[HR.out];simp;omega);clear HR t0 t1 t2 t3;go_wp2;go_ret;exact⟨by rw[HE.out];rfl,B1⟩
   ·have f2:decide (la<=1125899906842624)=false:=by simpa using t2
    have HE:=af (show R=false by rw[HR.out];simp;omega);clear HR t0 t1 t2;go_wp2;go_ret;exact⟨by rw[HE.out];rfl,B1⟩
  ·have f1:decide (0<=la)=false:=by simpa using t1
   have HE:=af (show R=false by rw[HR.out];simp;omega);clear HR t0 t1;go_wp2;go_ret;exact⟨by rw[HE.out];rfl,B1⟩
 ·have f0:(ce==0)=false:=by simpa using t0
  have HE:=af (show R=false by rw[HR.out];simp;omega);clear HR t0;go_wp2;go_ret;exact⟨by rw[HE.out];rfl,B1⟩
theorem ET(x:En)(lv:Value)(g:Int)(p:Addr)(w:World)(h:aC w lv x.labels)(hg:w.cell? p=some (.int .i64 g))(h1: -9223372036854775808<=g)(h2:g<=9223372036854775807):
 Calls Tryz.prog 175 #[Kb lv x,.pointer (some p)] w fun e w'=>e=.returned (.bool (decide (cZ g<(a8 x.labels:Int))))/\Below w.heap.size w w':=by
 obtain⟨a,c,rfl,_⟩:=id h
 obtain⟨L,la,of,le⟩:=x
 simp only at h⊢
 rw[show Kb (.slice a L.length c) ⟨L,la,of,le⟩=.agg #[.slice a L.length c,.int .i64 la,.int .i64 of,.int .i64 le] from rfl]
 have b0:=ai w (.cells #[.slice a L.length c,.int .i64 la,.int .i64 of,.int .i64 le] 92)
 have k0:=ag.new w 92 #[.slice a L.length c,.int .i64 la,.int .i64 of,.int .i64 le]
 obtain⟨⟨c0,_,_,_⟩,_⟩:=dt k0
 have cg:=cu b0 hg
 have hL:=h.below b0
 have q1:=af (fun W hW=>iS L _ W (hL.below hW))
 have q2:=af (fun W=>(mZ g W h1 h2).mono fun e w' (h:e=.returned (.int .i64 (cZ g))/\W=w')=>(⟨h.1,h.2▸bR⟩:e=.returned (.int .i64 (cZ g))/\co W w'))
 have x0:=aj c0
 have xg:=aj cg
 generalize a8 L=lm at*
 generalize cZ g=lg at*
 clear h hL k0 c0 cg h1 h2
 go_enter Tryz.func175,Tryz.ntmps175
 go_wp2_with fail
 refine dY ?_
 iterate 2 (refine bJ fun K hK=>?_;go_big_quiet_step (fail);refine hK _ ?_;clear hK K)
 (refine fS (f:=68) (args:=#[.slice a L.length c]) (v:=.int .i64 (lm:Int)) (fun W hW=>q1.out W hW) fun K hK=>?_;go_big_quiet_step (fail);refine hK _ ?_;clear hK K)
 (refine bJ fun K hK=>?_;go_big_quiet_step (fail);refine hK _ ?_;clear hK K)
 (refine fS (f:=67) (args:=#[.int .i64 g]) (v:=.int .i64 lg) (fun W hW=>q2.out W) fun K hK=>?_;go_big_quiet_step (fail);refine hK _ ?_;clear hK K)
 iterate 2 (refine bJ fun K hK=>?_;go_big_quiet_step (fail);refine hK _ ?_;clear hK K)
 refine eR ?_
 intro w2 hb2
 simp only[aB]
 clear x0 xg q1 q2
 go_wp2_with fail
 go_ret
 exact⟨rfl,b0.trans (Below.mono hb2 b0.size)⟩
theorem GY{E:List En}{g:Int}{i:Nat}(h:i<E.length)(h2:decide (cZ g<(a8 E[i].labels:Int))=true):kI E g=true:=List.any_eq_true.2 ⟨_,dK h,h2⟩
theorem ER(E:List En)(v:Value)(g:Int)(p:Addr)(w:World)(h:dR w v E)(hg:w.cell? p=some (.int .i64 g))(h1: -9223372036854775808<=g)(h2:g<=9223372036854775807):
 Calls Tryz.prog 174 #[v,.func (.func 175) #[] #[.pointer (some p)]] w fun e w'=>e=.returned (.bool (kI E g))/\Below w.heap.size w w':=by
 have Q:Calls Tryz.prog 224 #[v,.func (.func 175) #[] #[.pointer (some p)]] w fun e w'=>∃k:Int,e=.returned (.int .i64 k)/\decide (0<=k)=kI E g/\Below w.heap.size w w':=by
  have H:=af h;have hfn:=af (fun (hn:∀i (hi:i<E.length),decide (cZ g<(a8 E[i].labels:Int))=false)=>(show kI E g=false by
   unfold kI
   rw[List.any_eq_false]
   intro x hx
   obtain⟨i,hi,rfl⟩:=List.mem_iff_getElem.1 hx
   rw[hn i hi]
   simp))
  have hft:=af (fun i (hi:i<E.length) h2=>GY (E:=E) (g:=g) hi h2);have QL:=af (fun W (hW:Below w.heap.size w W) x lv hx=>ET x lv g p W hx (cu hW hg) h1 h2);obtain⟨a,c,rfl,hnil,hl,hlc,hx⟩:=h;have HX:=af hx;clear hx;generalize kI E g=R at*;go_enter Tryz.func224,Tryz.ntmps224
  go_wp2_with fail
  go_loopw [8] (fun vi wr=>∃i:Nat,i<=E.length/\vi=.int .i64 (i:Int)/\Below w.heap.size w wr/\Hid (∀k (hk:k<E.length),k<i->decide (cZ g<(a8 E[k].labels:Int))=false)) (fun vi _=>E.length-(intOf vi).toNat)
  case atStart=>exact⟨0,Nat.zero_le _,rfl,bR,af fun k hk h=>by omega⟩
  obtain⟨i,hi,rfl,hb,HN⟩:=hrel;rcases(show i<E.length\/i=E.length by omega) with hil|rfl
  ·obtain⟨hok,b,o,rfl,a',c',d0,hL,d1,d2,d3⟩:=HX.out i E[i] (aV hil);have e0:=cu hb d0;have e1:=cu hb d1;have e2:=cu hb d2;have e3:=cu hb d3;have q:=af (QL.out wr hb E[i] _ (hL.below hb));rw[show Kb (.slice a' E[i].labels.length c') E[i]=.agg #[.slice a' E[i].labels.length c',.int .i64 E[i].last,.int .i64 E[i].off,.int .i64 E[i].len] from rfl] at q;have HN2:=af (fun (h:decide (cZ g<(a8 E[i].labels:Int))=false)=>(show ∀k (hk:k<E.length),k<i+1->decide (cZ g<(a8 E[k].labels:Int))=false from fun k hk hki=>by
    rcases(show k<i\/k=i by omega) with h3|rfl
    ·exact HN.out k hk h3
    ·exact h))
   have HF:=af (hft.out i hil);clear d0 d1 d2 d3 hL hok HN;generalize decide (cZ g<(a8 E[i].labels:Int))=bo at*;generalize E[i]=x at*;go_wp2_with fail
   refine bL q.out fun w2 hb2=>?_;cases bo with
   |true=>
    have HR:=af (HF.out rfl);clear HF HN2 q;go_wp2_with fail
    go_ret;exact⟨(i:Int),rfl,by rw[HR.out];simp,ay hb hb2⟩
   |false=>
    have HN3:=af (HN2.out rfl);clear HF HN2 q;go_wp2_with fail
    go_roundw
    case rel=>exact⟨i+1,by omega,by go_num,ay hb hb2,HN3⟩
    case measure=>simp[intOf];omega
  ·have HR:=af (hfn.out fun k hk=>HN.out k hk hk);clear HN;go_wp2_with fail
   go_ret;exact⟨-1,rfl,by rw[HR.out];rfl,hb⟩
 have Q:=af Q
 generalize kI E g=R at*
 clear h hg
 go_enter Tryz.func174,Tryz.ntmps174
 go_wp2_with fail
 refine Q.out.mono ?_
 rintro e w2 ⟨k,rfl,hk,hb2⟩
 have HK:=af hk
 clear hk Q
 go_wp2_with fail
 go_ret
 exact⟨by rw[<-HK.out];rfl,hb2⟩
def ml(E:List En)(j:Nat):Option (List Lb):=if j=0 then none else some (E.getD (j-1) aR).labels
theorem tC{E:List En}{j:Nat}(h:j<E.length):ml E (j+1)=some E[j].labels:=by
 unfold ml;rw[if_neg (by omega),Nat.add_sub_cancel,List.getD_eq_getElem?_getD,aV h];rfl
theorem Fc(p:Option (List Lb))(x:En)(l:List En):cO p (x::l)=((dG x&&(match p with|none=>true|some q=>dN q x.labels))&&cO (some x.labels) l):=rfl
theorem Fb{E:List En}{j:Nat}(h:j<E.length):cO (ml E j) (E.drop j)=((dG E[j]&&(match ml E j with|none=>true|some q=>dN q E[j].labels))&&cO (ml E (j+1)) (E.drop (j+1))):=by
 rw[List.drop_eq_getElem_cons h,Fc,tC h]
theorem D6{E:List En}{g:Int}(h:g<1\/3<g\/20<E.length):dq E g=1:=by unfold dq;rw[if_pos h]
theorem F2{E:List En}{g:Int}(h:¬(g<1\/3<g\/20<E.length)):dq E g=if cO none E=false then 1 else if kI E g then 3 else 0:=by unfold dq;rw[if_neg h]
theorem C4(E:List En)(v:Value)(g:Int)(w:World)(h:dR w v E)(h1: -9223372036854775808<=g)(h2:g<=9223372036854775807):
 Calls Tryz.prog 110 #[v,.int .i64 g] w fun e w'=>e=.returned (.int .i64 (dq E g))/\Below w.heap.size w w':=by
 obtain⟨a,c,rfl,hnil,hl,hlc,hx⟩:=id h
 have hout:=af (D6 (E:=E) (g:=g))
 have hin:=af (F2 (E:=E) (g:=g))
 have b0:=ai w (.cells #[.int .i64 g] 3)
 have cg:(w.alloc (.cells #[.int .i64 g] 3)).cell? ⟨w.heap.size,0,none⟩=some (.int .i64 g):=(World.cell?_alloc_new _ _ _ _).trans rfl
 by_cases g1:g<1
 ·have f1:decide (g<1)=true:=by simpa using g1
  have HY:=af (hout.out (.inl g1));clear hx hin hout;generalize dq E g=R at*;go_enter Tryz.func110,Tryz.ntmps110
  go_wp2_with fail
  go_ret;exact⟨by rw[HY.out];rfl,b0⟩
 have f1:decide (g<1)=false:=by simpa using g1
 by_cases g2:3<g
 ·have f2:decide (3<g)=true:=by simpa using g2
  have HY:=af (hout.out (.inr (.inl g2)));clear hx hin hout;generalize dq E g=R at*;go_enter Tryz.func110,Tryz.ntmps110
  go_wp2_with fail
  go_ret;exact⟨by rw[HY.out];rfl,b0⟩
 have f2:decide (3<g)=false:=by simpa using g2
 by_cases g3:20<E.length
 ·have f3:decide (20<E.length)=true:=by simpa using g3
  have f3':decide ((20:Int)<(E.length:Int))=true:=by simp;omega
  have HY:=af (hout.out (.inr (.inr g3)));clear hx hin hout;generalize dq E g=R at*;go_enter Tryz.func110,Tryz.ntmps110
  go_wp2_with fail
  go_ret;exact⟨by rw[HY.out];rfl,b0⟩
 have f3:decide (20<E.length)=false:=by simpa using g3
 have f3':decide ((20:Int)<(E.length:Int))=false:=by simp;omega
 have HI:=af (hin.out (by omega))
 have HX:=af hx
 have QF:=af (fun W (hW:Below w.heap.size w W) (hc:W.cell? ⟨w.heap.size,0,none⟩=some (.int .i64 g))=>ER E _ g ⟨w.heap.size,0,none⟩ W (h.below hW) hc h1 h2)
 clear hx hin hout g1 g2 g3
 generalize dq E g=R at*
 generalize kI E g=lo at*
 have HG0:=af (show cO none E=cO (ml E 0) (E.drop 0) from rfl)
 generalize cO none E=G at*
 go_enter Tryz.func110,Tryz.ntmps110
 go_wp2_with fail
 go_loopw [20] (fun vi wr=>∃i:Nat,i<=E.length/\vi=.int .i64 (i:Int)/\Below w.heap.size w wr/\wr.cell? ⟨w.heap.size,0,none⟩=some (.int .i64 g)/\Hid (G=cO (ml E i) (E.drop i))) (fun vi _=>E.length-(intOf vi).toNat)
 case atStart=>exact⟨0,Nat.zero_le _,rfl,b0,cg,HG0⟩
 clear b0 cg HG0
 obtain⟨i,hi,rfl,hb,cg,HG⟩:=hrel
 rcases(show i<E.length\/i=E.length by omega) with hil|rfl
 ·obtain⟨hok,b,o,rfl,a',c',d0,hL,d1,d2,d3⟩:=HX.out i E[i] (aV hil);have e0:=cu hb d0;have e1:=cu hb d1;have e2:=cu hb d2;have e3:=cu hb d3;have HG2:=af (HG.out.trans (Fb hil));have hL':=hL.below hb;have HP:ml E i=if i=0 then none else some (E.getD (i-1) aR).labels:=rfl
  have bA:=ai wr (.cells #[.slice a' E[i].labels.length c',.int .i64 E[i].last,.int .i64 E[i].off,.int .i64 E[i].len] 92);have kA:=ag.new wr 92 #[.slice a' E[i].labels.length c',.int .i64 E[i].last,.int .i64 E[i].off,.int .i64 E[i].len];obtain⟨⟨y0,y1,y2,y3⟩,_⟩:=dt kA;have cgA:=cu bA cg;have qr:=af (fun W (hW:Below (wr.alloc (.cells #[.slice a' E[i].labels.length c',.int .i64 E[i].last,.int .i64 E[i].off,.int .i64 E[i].len] 92)).heap.size (wr.alloc (.cells #[.slice a' E[i].labels.length c',.int .i64 E[i].last,.int .i64 E[i].off,.int .i64 E[i].len] 92)) W)=>Eo E[i] (.slice a' E[i].labels.length c') W ((hL'.below bA).below hW));rw[show Kb (.slice a' E[i].labels.length c') E[i]=.agg #[.slice a' E[i].labels.length c',.int .i64 E[i].last,.int .i64 E[i].off,.int .i64 E[i].len] from rfl] at qr;have z0:=aj y0;have z1:=aj y1;have z2:=aj y2;have z3:=aj y3;have BA:=af (ay hb bA);have HGN:=af (tC hil);cases hri:dG E[i] with
  |false=>
   rw[hri] at HG2 qr;have HE:=af (show R=1 by rw[HI.out,show G=false from HG2.out];rfl);clear HI HG HG2 hri HP QF HX hok hL hL' d0 d1 d2 d3;go_wp2_with fail
   refine dY ?_
   (refine bJ fun K hK=>?_;go_big_quiet_step (fail);refine hK _ ?_;clear hK K)
   (refine fS (f:=173) (args:=#[.agg #[.slice a' E[i].labels.length c',.int .i64 E[i].last,.int .i64 E[i].off,.int .i64 E[i].len]]) (v:=.bool false) (fun W hW=>qr.out W hW) fun K hK=>?_;go_big_quiet_step (fail);refine hK _ ?_;clear hK K);iterate 13 (refine bJ fun K hK=>?_;go_big_quiet_step (fail);refine hK _ ?_;clear hK K)
   (refine Du fun K hK=>?_;go_big_quiet_step (fail);refine hK _ ?_;clear hK K);iterate 3 (refine bJ fun K hK=>?_;go_big_quiet_step (fail);refine hK _ ?_;clear hK K)
   refine eR ?_;intro w2 hb2;simp only[aB];go_wp2_with fail
   go_ret;exact⟨by rw[HE.out];rfl,BA.out.trans (Below.mono hb2 BA.out.size)⟩
  |true=>
   rw[hri] at HG2 qr;by_cases hi0:i=0
   ·subst hi0;rw[Nat.zero_mul,Nat.add_zero] at e0 e1 e2 e3;have HG3:=af (show G=cO (ml E (0+1)) (E.drop (0+1)) from HG2.out);clear HG HG2 hri HP hok hL hL' d0 d1 d2 d3;go_wp2_with fail
    refine dY ?_
    (refine bJ fun K hK=>?_;go_big_quiet_step (fail);refine hK _ ?_;clear hK K)
    (refine fS (f:=173) (args:=#[.agg #[.slice a' E[0].labels.length c',.int .i64 E[0].last,.int .i64 E[0].off,.int .i64 E[0].len]]) (v:=.bool true) (fun W hW=>qr.out W hW) fun K hK=>?_;go_big_quiet_step (fail);refine hK _ ?_;clear hK K);iterate 13 (refine bJ fun K hK=>?_;go_big_quiet_step (fail);refine hK _ ?_;clear hK K)
    (refine Du fun K hK=>?_;go_big_quiet_step (fail);refine hK _ ?_;clear hK K);iterate 3 (refine bJ fun K hK=>?_;go_big_quiet_step (fail);refine hK _ ?_;clear hK K)
    refine eR ?_;intro w2 hb2;simp only[aB];have cg2:=(Below.cell (show Below _ _ w2 from hb2) (World.block_lt_of_cell? _ _ cgA)).trans cgA;go_wp2_with fail
    go_roundw
    case rel=>exact⟨0+1,by omega,by go_num,BA.out.trans (Below.mono hb2 BA.out.size),cg2,HG3⟩
    case measure=>simp[intOf];omega
   ·obtain⟨hok',b',o',eb,a3,c3,g0,hM,_,_,_⟩:=HX.out (i-1) E[i-1] (aV (by omega));obtain⟨rfl,rfl,_⟩:=Addr.mk.inj (az eb);have hM':=hM.below hb;have j0:=cu hb g0;have jA:=cu bA j0;rw[HP,if_neg hi0,List.getD_eq_getElem?_getD,aV (show i-1<E.length by omega)] at HG2;have HG4:=af (show G=(dN E[i-1].labels E[i].labels&&cO (ml E (i+1)) (E.drop (i+1))) from HG2.out);have ql:=af (fun W (hW:Below (wr.alloc (.cells #[.slice a' E[i].labels.length c',.int .i64 E[i].last,.int .i64 E[i].off,.int .i64 E[i].len] 92)).heap.size (wr.alloc (.cells #[.slice a' E[i].labels.length c',.int .i64 E[i].last,.int .i64 E[i].off,.int .i64 E[i].len] 92)) W)=>kQ E[i-1].labels E[i].labels _ _ W ((hM'.below bA).below hW) ((hL'.below bA).below hW));have u0:=aj jA;have f4:decide (0<i)=true:=by simp;omega
    have f5:decide ((0:Int)<(i:Int))=true:=by simp;omega
    have hw1:IntKind.i64.wrap ((i:Int)-1)=(i:Int)-1:=ct _ (by omega);have hi1:(i:Int)-1=((i-1:Nat):Int):=by omega
    cases hle:dN E[i-1].labels E[i].labels with
    |false=>
     rw[hle] at HG4 ql;have HE:=af (show R=1 by rw[HI.out,show G=false from HG4.out];rfl);clear HI HG HG2 HG4 hri HP QF HX hok hL hL' d0 d1 d2 d3 hok' hM hM' hle g0 j0 jA;go_wp2_with fail
     refine dY ?_
     (refine bJ fun K hK=>?_;go_big_quiet_step (fail);refine hK _ ?_;clear hK K)
     (refine fS (f:=173) (args:=#[.agg #[.slice a' E[i].labels.length c',.int .i64 E[i].last,.int .i64 E[i].off,.int .i64 E[i].len]]) (v:=.bool true) (fun W hW=>qr.out W hW) fun K hK=>?_;go_big_quiet_step (fail);refine hK _ ?_;clear hK K);iterate 13 (refine bJ fun K hK=>?_;go_big_quiet_step (fail);refine hK _ ?_;clear hK K)
     (refine fS (f:=66) (args:=#[.slice a3 E[i-1].labels.length c3,.slice a' E[i].labels.length c']) (v:=.bool false) (fun W hW=>ql.out W hW) fun K hK=>?_;go_big_quiet_step (fail);refine hK _ ?_;clear hK K);iterate 3 (refine bJ fun K hK=>?_;go_big_quiet_step (fail);refine hK _ ?_;clear hK K)
     refine eR ?_;intro w2 hb2;simp only[aB];go_wp2_with fail
     go_ret;exact⟨by rw[HE.out];rfl,BA.out.trans (Below.mono hb2 BA.out.size)⟩
    |true=>
     rw[hle] at HG4 ql;have HG3:=af (show G=cO (ml E (i+1)) (E.drop (i+1)) from HG4.out);clear HG HG2 HG4 hri HP hok hL hL' d0 d1 d2 d3 hok' hM hM' hle g0 j0 jA;go_wp2_with fail
     refine dY ?_
     (refine bJ fun K hK=>?_;go_big_quiet_step (fail);refine hK _ ?_;clear hK K)
     (refine fS (f:=173) (args:=#[.agg #[.slice a' E[i].labels.length c',.int .i64 E[i].last,.int .i64 E[i].off,.int .i64 E[i].len]]) (v:=.bool true) (fun W hW=>qr.out W hW) fun K hK=>?_;go_big_quiet_step (fail);refine hK _ ?_;clear hK K);iterate 13 (refine bJ fun K hK=>?_;go_big_quiet_step (fail);refine hK _ ?_;clear hK K)
     (refine fS (f:=66) (args:=#[.slice a3 E[i-1].labels.length c3,.slice a' E[i].labels.length c']) (v:=.bool true) (fun W hW=>ql.out W hW) fun K hK=>?_;go_big_quiet_step (fail);refine hK _ ?_;clear hK K);iterate 3 (refine bJ fun K hK=>?_;go_big_quiet_step (fail);refine hK _ ?_;clear hK K)
     refine eR ?_;intro w2 hb2;simp only[aB];have cg2:=(Below.cell (show Below _ _ w2 from hb2) (World.block_lt_of_cell? _ _ cgA)).trans cgA;go_wp2_with fail
     go_roundw
     case rel=>exact⟨i+1,by omega,by go_num,BA.out.trans (Below.mono hb2 BA.out.size),cg2,HG3⟩
     case measure=>simp[intOf];omega
 ·have HGt:=af (show G=true by rw[HG.out,List.drop_length];rfl);have q:=af (QF.out wr hb cg);have HI2:=af (show R=if lo then 3 else 0 by rw[HI.out,HGt.out];rfl);clear QF HI HG HGt;go_wp2_with fail
  refine bL q.out fun w2 hb2=>?_;cases lo with
  |true=>
   have HE:=af (show R=3 from HI2.out);clear HI2 q;go_wp2_with fail
   go_ret;exact⟨by rw[HE.out];rfl,ay hb hb2⟩
  |false=>
   have HE:=af (show R=0 from HI2.out);clear HI2 q;go_wp2_with fail
   go_ret;exact⟨by rw[HE.out];rfl,ay hb hb2⟩
end
end Go.Proofs.YtcdgfajdlaeodaaGreatDoor
namespace Go.Proofs
open Go.Shelf
def Tryz.lays106_ren:Go.Shelf.Ren:=⟨fun|106=>232|213=>278|265=>323|n=>n,fun|9=>9|3=>3|n=>n,fun|n=>n⟩
theorem Tryz.lays106:Go.Proofs.Lays.n106 Tryz.prog Tryz.lays106_ren:={
 mixed:=by kernel_rfl
 f106:=Tryz.func232.trans (congrArg some (by kernel_rfl))
 f213:=Tryz.func278.trans (congrArg some (by kernel_rfl))
 f265:=Tryz.func323.trans (congrArg some (by kernel_rfl))
 t3:=Tryz.underlying3
 a3:=Tryz.isAgg3
 z3:=Tryz.sizeOf3
 v3:=Tryz.zeroValue3
 t9:=Tryz.underlying9
 a9:=Tryz.isAgg9
 z9:=Tryz.sizeOf9
 v9:=Tryz.zeroValue9}
open Go.RowKit in
theorem Tryz.strings_Compare(a b:ByteArray)(w:World):
 Calls Tryz.prog 232 #[.string a,.string b] w fun e w'=>e=.returned (.int .i64 (Lib.compareBytes a.data.toList b.data.toList))/\w'=w:=Any.strings_Compare Tryz.lays106 a b w
def Tryz.lays190_ren:Go.Shelf.Ren:=⟨fun|190=>227|125=>276|258=>275|128=>313|129=>314|302=>304|303=>305|304=>306|305=>307|306=>308|307=>309|308=>310|309=>311|310=>312|333=>340|329=>341|330=>342|334=>343|335=>344|336=>345|344=>360|n=>n,fun|31=>76|9=>9|3=>3|46=>161|0=>0|51=>247|53=>67|4=>4|183=>376|182=>375|131=>298|5=>5|218=>412|222=>415|228=>428|229=>429|n=>n,fun|n=>n⟩
theorem Tryz.lays190:Go.Proofs.Lays.n190 Tryz.prog Tryz.lays190_ren:={
 mixed:=by kernel_rfl
 f125:=Tryz.func276.trans (congrArg some (by kernel_rfl))
 f128:=Tryz.func313.trans (congrArg some (by kernel_rfl))
 f129:=Tryz.func314.trans (congrArg some (by kernel_rfl))
 f190:=Tryz.func227.trans (congrArg some (by kernel_rfl))
 f258:=Tryz.func275.trans (congrArg some (by kernel_rfl))
 f302:=Tryz.func304.trans (congrArg some (by kernel_rfl))
 f303:=Tryz.func305.trans (congrArg some (by kernel_rfl))
 f304:=Tryz.func306.trans (congrArg some (by kernel_rfl))
 f305:=Tryz.func307.trans (congrArg some (by kernel_rfl))
 f306:=Tryz.func308.trans (congrArg some (by kernel_rfl))
 f307:=Tryz.func309.trans (congrArg some (by kernel_rfl))
 f308:=Tryz.func310.trans (congrArg some (by kernel_rfl))
 f309:=Tryz.func311.trans (congrArg some (by kernel_rfl))
 f310:=Tryz.func312.trans (congrArg some (by kernel_rfl))
 f329:=Tryz.func341.trans (congrArg some (by kernel_rfl))
 f330:=Tryz.func342.trans (congrArg some (by kernel_rfl))
 f333:=Tryz.func340.trans (congrArg some (by kernel_rfl))
 f334:=Tryz.func343.trans (congrArg some (by kernel_rfl))
 f335:=Tryz.func344.trans (congrArg some (by kernel_rfl))
 f336:=Tryz.func345.trans (congrArg some (by kernel_rfl))
 f344:=Tryz.func360.trans (congrArg some (by kernel_rfl))
 t0:=Tryz.underlying0
 a0:=Tryz.isAgg0
 z0:=Tryz.sizeOf0
 v0:=Tryz.zeroValue0
 t3:=Tryz.underlying3
 a3:=Tryz.isAgg3
 z3:=Tryz.sizeOf3
 v3:=Tryz.zeroValue3
 t4:=Tryz.underlying4
 a4:=Tryz.isAgg4
 z4:=Tryz.sizeOf4
 v4:=Tryz.zeroValue4
 t5:=Tryz.underlying5
 a5:=Tryz.isAgg5
 z5:=Tryz.sizeOf5
 v5:=Tryz.zeroValue5
 t9:=Tryz.underlying9
 a9:=Tryz.isAgg9
 z9:=Tryz.sizeOf9
 v9:=Tryz.zeroValue9
 t31:=Tryz.underlying76
 a31:=Tryz.isAgg76
 z31:=Tryz.sizeOf76
 v31:=Tryz.zeroValue76
 t46:=Tryz.underlying161
 a46:=Tryz.isAgg161
 z46:=Tryz.sizeOf161
 v46:=Tryz.zeroValue161
 t51:=Tryz.underlying247
 a51:=Tryz.isAgg247
 z51:=Tryz.sizeOf247
 v51:=Tryz.zeroValue247
 t53:=Tryz.underlying67
 a53:=Tryz.isAgg67
 z53:=Tryz.sizeOf67
 v53:=Tryz.zeroValue67
 t131:=Tryz.underlying298
 a131:=Tryz.isAgg298
 z131:=Tryz.sizeOf298
 v131:=Tryz.zeroValue298
 t182:=Tryz.underlying375
 a182:=Tryz.isAgg375
 z182:=Tryz.sizeOf375
 v182:=Tryz.zeroValue375
 t183:=Tryz.underlying376
 a183:=Tryz.isAgg376
 z183:=Tryz.sizeOf376
 v183:=Tryz.zeroValue376
 t218:=Tryz.underlying412
 a218:=Tryz.isAgg412
 z218:=Tryz.sizeOf412
 v218:=Tryz.zeroValue412
 t222:=Tryz.underlying415
 a222:=Tryz.isAgg415
 z222:=Tryz.sizeOf415
 v222:=Tryz.zeroValue415
 t228:=Tryz.underlying428
 a228:=Tryz.isAgg428
 z228:=Tryz.sizeOf428
 v228:=Tryz.zeroValue428
 t229:=Tryz.underlying429
 a229:=Tryz.isAgg429
 z229:=Tryz.sizeOf429
 v229:=Tryz.zeroValue429}
open Go.Sort Go.RowKit in
theorem Tryz.slices_Sort_string(blk off cap:Nat)(ss:List (List UInt8))(w:World)(hH:Holds encStr w blk off ss.toArray)(hblk:blk<w.heap.size)(hsz:ss.length<4611686018427387904):
 Calls Tryz.prog 227 #[.slice (some ⟨blk,off,none⟩) ss.length cap] w fun e w'=>
  e=.returned (.tuple #[])/\∃n os,w'=grow (putRow encStr (Sort.ahead w n) blk off (ss.mergeSort fun x y=>decide (x<=y)).toArray) os:=Any.slices_Sort_string Tryz.lays190 blk off cap ss w hH hblk hsz
def Tryz.lays99_ren:Go.Shelf.Ren:=⟨fun|99=>260|206=>290|n=>n,fun|9=>9|4=>4|3=>3|n=>n,fun|n=>n⟩
theorem Tryz.lays99:Go.Proofs.Lays.n99 Tryz.prog Tryz.lays99_ren:={
 mixed:=by kernel_rfl
 f99:=Tryz.func260.trans (congrArg some (by kernel_rfl))
 f206:=Tryz.func290.trans (congrArg some (by kernel_rfl))
 t3:=Tryz.underlying3
 a3:=Tryz.isAgg3
 z3:=Tryz.sizeOf3
 v3:=Tryz.zeroValue3
 t4:=Tryz.underlying4
 a4:=Tryz.isAgg4
 z4:=Tryz.sizeOf4
 v4:=Tryz.zeroValue4
 t9:=Tryz.underlying9
 a9:=Tryz.isAgg9
 z9:=Tryz.sizeOf9
 v9:=Tryz.zeroValue9}
open Go.RowKit Go.Lib in
theorem Tryz.strings_HasPrefix(s p:ByteArray)(w:World):
 Calls Tryz.prog 260 #[.string s,.string p] w fun e w'=>e=.returned (.bool (Lib.hasPrefix s.data.toList p.data.toList))/\w'=w:=Any.strings_HasPrefix Tryz.lays99 s p w
def Tryz.lays194_ren:Go.Shelf.Ren:=⟨fun|194=>228|n=>n,fun|31=>76|9=>9|3=>3|4=>4|0=>0|n=>n,fun|n=>n⟩
theorem Tryz.lays194:Go.Proofs.Lays.n194 Tryz.prog Tryz.lays194_ren:={
 mixed:=by kernel_rfl
 f194:=Tryz.func228.trans (congrArg some (by kernel_rfl))
 t0:=Tryz.underlying0
 a0:=Tryz.isAgg0
 z0:=Tryz.sizeOf0
 v0:=Tryz.zeroValue0
 t3:=Tryz.underlying3
 a3:=Tryz.isAgg3
 z3:=Tryz.sizeOf3
 v3:=Tryz.zeroValue3
 t4:=Tryz.underlying4
 a4:=Tryz.isAgg4
 z4:=Tryz.sizeOf4
 v4:=Tryz.zeroValue4
 t9:=Tryz.underlying9
 a9:=Tryz.isAgg9
 z9:=Tryz.sizeOf9
 v9:=Tryz.zeroValue9
 t31:=Tryz.underlying76
 a31:=Tryz.isAgg76
 z31:=Tryz.sizeOf76
 v31:=Tryz.zeroValue76}
open Go.RowKit Go.Lib Go.Sort in
theorem Tryz.slices_Compact_string(blk off cap:Nat)(zs:List (List UInt8))(w:World)(hH:Holds encStr w blk off zs.toArray)(hsz:zs.length<=9223372036854775807)(hcap:zs.length<=cap):
 Calls Tryz.prog 228 #[.slice (some ⟨blk,off,none⟩) zs.length cap] w fun e w'=>e=.returned (.slice (some ⟨blk,off,none⟩) (Lib.compact zs).length cap)/\∃q,w'=putRow encStr (Sort.ahead w q) blk off (Lib.compact zs++List.replicate (zs.length-(Lib.compact zs).length) []).toArray:=Any.slices_Compact_string Tryz.lays194 blk off cap zs w hH hsz hcap
open Go.RowKit Go.Lib Go.Sort in
theorem Tryz.slices_Compact_string_empty(a:Option Addr)(cap:Nat)(w:World):
 Calls Tryz.prog 228 #[.slice a 0 cap] w fun e w'=>e=.returned (.slice a 0 cap)/\w'=w:=Any.slices_Compact_string_empty Tryz.lays194 a cap w
open Go.RowKit Go.Sort in
theorem Tryz.slices_Sort_string_none(p:Option Addr)(cap:Nat)(w:World):
 Calls Tryz.prog 227 #[.slice p 0 cap] w fun e w'=>e=.returned (.tuple #[])/\w'=w:=Any.slices_Sort_string_none Tryz.lays190 p cap w
end Go.Proofs
namespace Go.Proofs.YtcdgfajdlaeodaaGreatDoor
section
open Go.RowKit Go.Maps Go.WideMaps
attribute [local go_sem] am aq
def eX(x:Lb):List Value:=[.string (bs x.1),.string (bs x.2)]
def jO(l:List Nat):List Int:=l.map fun (i:Nat)=>(i:Int)
theorem ji(l:List Nat):(jO l).length=l.length:=by unfold jO;simp
def fd(L:List Lb):List (List UInt8):=L.flatMap fun y=>[y.1,y.2]
theorem jh(E:List En):ci E=E.flatMap fun x=>fd x.labels:=rfl
theorem sO(E:List En){i:Nat}(h:i<E.length):ci (E.take (i+1))=ci (E.take i)++fd E[i].labels:=by
 rw[jh,jh,eM h,List.flatMap_append];simp
theorem yQ(L:List Lb){k:Nat}(h:k<L.length):fd (L.take (k+1))=fd (L.take k)++[L[k].1,L[k].2]:=by
 unfold fd;rw[eM h,List.flatMap_append];simp
theorem sP(L:List Lb):(fd L).length=L.length*2:=by
 unfold fd;induction L with
 |nil=>rfl
 |cons y L ih=>
  rw[List.flatMap_cons,aG,ih];simp;omega
theorem Bg(E:List En){i:Nat}(h:i<E.length)(k:Nat):(ci (E.take i)++fd (E[i].labels.take k)).length<=(ci E).length:=by
 have e:ci E=ci (E.take (i+1))++ci (E.drop (i+1)):=by
  rw[jh,jh,jh,<-List.flatMap_append,List.take_append_drop]
 rw[e,sO E h,aG,aG,aG,sP,sP,dp];omega
theorem Gb{w:World}{v:Value}{E:List En}(h:dR w v E):∀s∈ci E,s.length<=1048576:=by
 intro s hs;obtain⟨a,c,rfl,hnil,hl,hlc,hx⟩:=h;rw[jh,List.mem_flatMap] at hs;obtain⟨x,hxe,hs⟩:=hs;obtain⟨i,hi,rfl⟩:=List.mem_iff_getElem.1 hxe;obtain⟨_,b,o,_,a',c',_,hL,_⟩:=hx i _ (aV hi);unfold fd at hs;rw[List.mem_flatMap] at hs;obtain⟨y,hy,hs⟩:=hs;obtain⟨j,hj,rfl⟩:=List.mem_iff_getElem.1 hy;obtain⟨_,_,_,_,hLx⟩:=hL;obtain⟨h1,h2,_⟩:=hLx j _ (aV hj);simp only[List.mem_cons,List.not_mem_nil,or_false] at hs;rcases hs with rfl|rfl
 ·exact h1
 ·exact h2
theorem Ee(S:List (List UInt8))(s t:List UInt8):rR S++[.string (bs s),.string (bs t)]=rR (S++[s,t]):=by unfold rR;simp
theorem yU(S:List (List UInt8)):rR S=S.map encStr:=by
 unfold rR;apply List.map_congr_left;intro s _;rfl
theorem iD(w:World)(l:List Value)(T:TypeId)(g:Nat)(hg:w.heap.size=g):∀j u,l[j]?=some u->(w.alloc (.cells l.toArray T)).cell? ((⟨g,0,none⟩:Addr).add j)=some u:=fun j u hu=>by
 subst hg;rw[kj,World.cell?_alloc_new];simpa using hu
theorem pB(E:List En)(v:Value)(w:World)(h:dR w v E)(hT:(ci E).length<=1048576):
 Calls Tryz.prog 178 #[v] w fun e w'=>∃sv,e=.returned sv/\w'.ownsRow w.heap.size 9 1 sv (gp E).length (rR (gp E))/\Below w.heap.size w w':=by
 have HTB:=af (Gb h)
 have HP:=af (fun i (hi:i<E.length) k=>aK (Bg E hi k) hT)
 obtain⟨a,c,rfl,hnil,hl,hlc,hx⟩:=h
 have HX:=af hx
 clear hx
 have ⟨i0,hin,hz0,hz1,hz2⟩:=info_parts (show (Tryz.prog.info? 9).map (fun i=>(i.zero,i.size,i.bytes))=some (some (.string ⟨#[]⟩),1,16) by kernel_rfl)
 have r0:w.ownsRow w.heap.size 9 1 (.slice none 0 0) (ci (E.take 0)).length (rR (ci (E.take 0))):=eE
 go_enter Tryz.func178,Tryz.ntmps178
 go_wp2_with fail
 go_loopw [3,10] (fun vo vi wr=>∃i:Nat,i<=E.length/\vi=.int .i64 (i:Int)/\wr.ownsRow w.heap.size 9 1 vo (ci (E.take i)).length (rR (ci (E.take i)))/\Below w.heap.size w wr) (fun _ vi _=>E.length-(intOf vi).toNat)
 case atStart=>exact⟨0,Nat.zero_le _,rfl,r0,bR⟩
 clear r0
 obtain⟨i,hi,rfl,hrow,hb⟩:=hrel
 obtain⟨sa,sc,rfl⟩:=aH hrow
 rcases(show i<E.length\/i=E.length by omega) with hil|rfl
 ·obtain⟨hok,b,o,rfl,a',c',d0,hL,d1,d2,d3⟩:=HX.out i E[i] (aV hil);have e0:=cu hb d0;have e1:=cu hb d1;have e2:=cu hb d2;have e3:=cu hb d3;have HTT:=af (sO E hil);have HPI:=af (fun k=>HP.out i hil k);have hLw:=hL;clear d0 d1 d2 d3 hL hok;generalize E[i]=x at*;generalize ci (E.take i)=T at*;generalize hT2:ci (E.take (i+1))=T2 at*;have HT2:=af hT2;clear hT2;obtain⟨L,la,of,le⟩:=x;simp only at e0 e1 e2 e3 hLw HTT HPI;obtain⟨_,_,eL,hLn,hLx⟩:=hLw;obtain⟨rfl,_,rfl⟩:=Value.slice.inj eL;have HLX:=af hLx;clear hLx eL;have bA:=ai wr (.cells #[.slice a' L.length c',.int .i64 la,.int .i64 of,.int .i64 le] 92);have BA:=ay hb bA;have kA:(wr.alloc (.cells #[.slice a' L.length c',.int .i64 la,.int .i64 of,.int .i64 le] 92)).ownsRow w.heap.size 9 1 (.slice sa T.length sc) (T++fd (L.take 0)).length (rR (T++fd (L.take 0))):=by
   rw[List.take_zero,show fd []=[] from rfl,List.append_nil];exact World.ownsRow.alloc hrow _
  go_wp2_with fail
  go_loopw [3,17] (fun vo vk wq=>∃k:Nat,k<=L.length/\vk=.int .i64 (k:Int)/\wq.ownsRow w.heap.size 9 1 vo (T++fd (L.take k)).length (rR (T++fd (L.take k)))/\Below w.heap.size w wq/\ak wr wq (fun k=>w.heap.size<=k)) (fun _ vk _=>L.length-(intOf vk).toNat)
  case atStart=>exact⟨0,Nat.zero_le _,rfl,kA,BA,ak.alloc _ _ _⟩
  clear kA BA bA hrow;obtain⟨k,hk,rfl,hrow2,hb2,hkp⟩:=hrel;obtain⟨sa2,sc2,rfl⟩:=aH hrow2;rcases(show k<L.length\/k=L.length by omega) with hkl|rfl
  ·obtain⟨hy1,hy2,b3,o3,rfl,g0,g1⟩:=HLX.out k L[k] (aV hkl);have x0:=cu hb2 g0;have x1:=cu hb2 g1;have HTK:=af (yQ L hkl);have HPK:=HPI.out (k+1);have HSN:=af (Ee (T++fd (L.take k)) L[k].1 L[k].2);rw[HTK.out,<-List.append_assoc,aG] at HPK;clear g0 g1;generalize L[k]=y at*;generalize hA:T++fd (L.take k)=A at*;have HA:=af hA;clear hA;have HA2:=af (show T++fd (L.take (k+1))=A++[y.1,y.2] by rw[HTK.out,<-List.append_assoc,HA.out]);have hA:A.length<=1048576:=by omega
   have hwq:=hb2.size;clear HTK HPK;go_wp2_with (at_builtin;(refine wpList_append_own_at _ rfl _ _ 76 rfl w.heap.size 9 i0 (.string ⟨#[]⟩) 1 16 Tryz.underlying76 hin hz0 hz1 hz2 rfl (by decide) _ _ _ rfl (World.ownsRow.alloc (World.ownsRow.alloc hrow2 _) _) ⟨_,0,none⟩ 2 2 [.string (bs y.1),.string (bs y.2)] rfl rfl (iD _ _ _ _ (aW _ _)) (by simp[Value.oneCell']) (by unfold maxLen;omega) (by omega) (by simp;omega) ?_;intro v' w5 hown' hgrow hnil2 hloc;obtain⟨sa',sc',rfl⟩:=aH hown'))
   go_roundw
   case rel=>
    have hkq:ak wr w5 (fun k=>w.heap.size<=k):=((ak.alloc wr _ _).trans (ak.alloc _ _ _)).trans (ak.of_grown hgrow fun k e=>(hrow2.lt k e).1);refine⟨k+1,by omega,by go_num,?_,hb2.trans (hkq.below hwq fun k e=>e),hkp.trans hkq⟩;rw[HA2.out,<-HSN.out,aG];exact hown'
   case measure=>simp[intOf];omega
  ·rw[List.take_length] at hrow2;have HE2:=af (show ci (E.take (i+1))=T++fd L by rw[HT2.out,HTT.out]);go_wp2_with fail
   go_roundw
   case rel=>exact⟨i+1,by omega,by go_num,by rw[HE2.out,List.take_length];exact hrow2,hb2⟩
   case measure=>simp[intOf];omega
 ·rw[List.take_length] at hrow⊢;have hlt:(ci E).length<=1048576:=hT;have HS:=af (show gp E=Lib.compact ((ci E).mergeSort fun x y=>decide (x<=y)) from rfl);generalize ci E=T at*;by_cases hT0:T.length=0
  ·obtain rfl:=List.length_eq_zero_iff.1 hT0;have HRN:=af hrow;have q1:=af (fun W=>Tryz.slices_Sort_string_none sa sc W);have q2:=af (fun W=>Tryz.slices_Compact_string_empty sa sc W);have HS2:=af (show gp E=[] by rw[HS.out];simp[Lib.compact,Lib.compactUpTo]);clear hrow HS HTB HP HX hT hlt hT0;rw[show ([]:List (List UInt8)).length=0 from rfl];go_wp2_with fail
   refine(q1.out _).mono ?_;rintro e w2 ⟨rfl,rfl⟩;go_wp2_with fail
   refine(q2.out _).mono ?_;rintro e w2 ⟨rfl,rfl⟩;go_wp2_with fail
   go_ret;refine⟨_,rfl,?_,hb⟩;rw[HS2.out];exact HRN.out
  ·have hrow':=hrow;rw[yU] at hrow';obtain⟨g,cap,e,hgB,hgl,hncap,hcm,_,hH⟩:=Lib.holds_of_ownsRow hrow' (fun e=>hT0 (Value.slice.inj e).2.1);obtain⟨rfl,_,rfl⟩:=Value.slice.inj e;have hzl:(T.mergeSort fun x y=>decide (x<=y)).length=T.length:=List.length_mergeSort _;have hzb:∀s∈(T.mergeSort fun x y=>decide (x<=y)),s.length<=1048576:=fun s hs=>HTB.out s (List.mem_mergeSort.1 hs);have q1:=af (Tryz.slices_Sort_string g 0 sc T wr hH hgl (by omega));generalize (T.mergeSort fun x y=>decide (x<=y))=zs at*;have HZB:=af hzb;have HZL:=af hzl;have HR:=af hrow';clear hH hrow e hzb hzl hrow';go_wp2_with fail
   refine q1.out.mono ?_;rintro e w2 ⟨rfl,q,os,rfl⟩;have r2:=Lib.ownsRow_putRow (q:=q) (ys:=zs) HR.out HZL.out (aF _);have hzl:=HZL.out;rw[List.take_of_length_le (by omega)] at r2;have k2:ak wr (Go.Sort.grow (Go.Sort.putRow encStr (Go.Sort.ahead wr q) g 0 zs.toArray) os) (fun k=>k=g):=(ro _ _ _ _ _).trans (mR _ _ _);have r3:=aw r2 (mR (Go.Sort.putRow encStr (Go.Sort.ahead wr q) g 0 zs.toArray) os (fun _=>False)) (fun _ _ e=>e);generalize Go.Sort.grow (Go.Sort.putRow encStr (Go.Sort.ahead wr q) g 0 zs.toArray) os=w2 at*;have B2:=hb.trans (k2.below hb.size fun k e=>by omega);obtain⟨g',cap',e,_,_,_,_,_,hH2⟩:=Lib.holds_of_ownsRow r3 (fun e=>hT0 (Value.slice.inj e).2.1);obtain⟨e3,_,rfl⟩:=Value.slice.inj e;obtain⟨rfl,_⟩:=Addr.mk.inj (az e3);have q2:=Tryz.slices_Compact_string g 0 sc zs w2 hH2 (by omega) (by omega);rw[hzl] at q2;have hcl:=mB zs;have Q2:=af q2;have HZL2:=af hzl;have HR3:=af r3;clear q1 q2 r2 k2 hH2 e e3 HZL hzl HR r3;go_wp2_with fail
   refine Q2.out.mono ?_;rintro e w3 ⟨rfl,q,rfl⟩;have r4:=Lib.ownsRow_putRow (q:=q) (ys:=Lib.compact zs++List.replicate (T.length-(Lib.compact zs).length) []) HR3.out (by rw[aG,List.length_replicate];omega) (show (Lib.compact zs).length<=T.length by have:=HZL2.out;omega);rw[List.take_left' rfl,<-yU] at r4;have B3:=Lib.below_putRow (q:=q) (enc:=encStr) (d:=(Lib.compact zs++List.replicate (T.length-(Lib.compact zs).length) []).toArray) B2 hgB;clear Q2 HR3;generalize Go.Sort.putRow encStr (Go.Sort.ahead w2 q) g 0 (Lib.compact zs++List.replicate (T.length-(Lib.compact zs).length) []).toArray=w3 at*;have HR4:=af r4;clear r4;go_wp2_with fail
   go_ret;refine⟨_,rfl,?_,B3⟩;rw[HS.out];exact HR4.out
end
end Go.Proofs.YtcdgfajdlaeodaaGreatDoor
