/- Part 8 of the proof: contracts of functions, and plain laws. -/
import Derived.Test.YtcdgfajdlaeodaaGreatDoorS7
set_option maxRecDepth 100000
set_option maxHeartbeats 4000000
namespace Go.Proofs.YtcdgfajdlaeodaaGreatDoor
section
open Go.RowKit Go.Maps Go.WideMaps
attribute [local go_sem] am aq
theorem zN{w:World}{T:TypeId}{B n:Nat}{v:Value}{Z:List (En×Value)}(h:w.ownsRow B T 4 v n (el Z))(hzn:Z.length=n)(hn:Z.length<=100000)(hl:∀z∈Z,z.1.ok/\aC w z.2 z.1.labels):dV w v (Z.map (·.1)):=by
 subst hzn;have hcells:∀g,v.ownBlock=some g->∀j u,(el Z)[j]?=some u->w.cell? ((⟨g,0,none⟩:Addr).add j)=some u:=fun g hg=>h.cells (g:=g) hg;rcases h.2 with⟨e,e0⟩|⟨g,cap,cur,e,e1,e2,e3,_⟩
 ·refine⟨none,0,by rw[e,List.length_map,e0],fun _=>rfl,by rwa[List.length_map],by rw[List.length_map,e0];exact aF _,fun i x hx=>?_⟩;rw[List.length_eq_zero_iff.1 e0] at hx;simp at hx
 ·refine⟨some ⟨g,0,none⟩,cap,by rw[List.length_map];exact e,(fun e=>by cases e),by rwa[List.length_map],by rw[List.length_map];exact e3,fun i x hx=>?_⟩;rw[List.getElem?_map] at hx;cases hz:Z[i]? with
  |none=>rw[hz] at hx;cases hx
  |some z=>
   rw[hz] at hx;obtain rfl:z.1=x:=by simpa using hx
   obtain⟨hok,hL⟩:=hl z (List.mem_of_getElem? hz);have hc:∀j u,(FD z.2 z.1)[j]?=some u->w.cell? ⟨g,0+i*4+j,none⟩=some u:=fun j u hj=>by
    have:=hcells g (by rw[e];rfl) (i*4+j) u (lu Z i z hz j u hj);rw[eY] at this;rw[show 0+i*4+j=i*4+j by omega];simpa using this
   obtain⟨la,lc,hv,h2,h3⟩:=hL;exact⟨hok,g,0,rfl,la,lc,by rw[<-hv];exact hc 0 _ rfl,⟨la,lc,rfl,h2,by rw[<-hv] at*;exact h3⟩,hc 1 _ rfl,hc 2 _ rfl,hc 3 _ rfl⟩
def E3 (la:Option Addr)(n lc:Nat)(a b c:Int):List Value:=[.slice la n lc,.int .i64 a,.int .i64 b,.int .i64 c]
theorem Co(b n c:Nat)(a:Option Addr)(w:World)(h:w.cell? ⟨b,1,none⟩=some (.slice a n c)):
 Calls Tryz.prog 36 #[.pointer (some ⟨b,0,none⟩)] w fun e w'=>e=.returned (.int .i64 (n:Int))/\w'=w:=by
 go_enter Tryz.func36,Tryz.ntmps36
 go_wp2
 go_ret
 exact⟨rfl,rfl⟩
theorem Hz{B b:Nat}{l:List UInt8}{w:World}(h:bT B b l w):∃a c,w.cell? ⟨b,1,none⟩=some (.slice a l.length c):=by
 have key:∀{p:Value},Lib.BuilderAtF 84 5 B b p (Lib.byteCells l) w->∃a c,w.cell? ⟨b,1,none⟩=some (.slice a l.length c):=fun {p} ⟨_,v,h2,h3,_⟩=>by
  have hc:w.cell? ⟨b,1,none⟩=some v:=(cell_of_row w b 1 _ _ _ h2).trans rfl;have hn:=Lib.byteCells_length l;rcases h3.2 with⟨e,h0⟩|⟨g,cap,cur,fz,e,_⟩
  ·rw[hn] at h0;exact⟨none,0,by rw[hc,e,h0]⟩
  ·rw[hn] at e;exact⟨_,_,by rw[hc,e]⟩
 exact h.elim key key
theorem EG(W:World):iB W (.slice none 0 0) []:=⟨none,0,rfl,by simp,fun i x hx=>by simp at hx⟩
theorem ye{g:Int}{K:List (List UInt8)}{R:List Rc}(h:(cO g K R).2.1=none):(cO g K R).2.2≠0:=by
 unfold cO at h⊢;split
 ·exact(show (1:Int)≠0 by decide)
 ·rename_i h1;rw[if_neg h1] at h;split
  ·rename_i h2;exact h2
  ·rename_i h2;rw[if_neg h2] at h;generalize iT g K R=p at*;obtain⟨a,b⟩:=p;cases a with
   |none=>exact(show (7:Int)≠0 by decide)
   |some s=>cases h
theorem tS(g:Int)(x:aP):∀(S:List aP) (o:Nat),eW g o (S++[x])=eW g o S++[⟨x.labels,x.last,((o+(ic g S).length:Nat):Int),((fk x.samples g).1.length:Nat)⟩]
 |[],o=>rfl
 |y::S,o=>by
  rw[List.cons_append,eW,eW,tS g x S,List.cons_append];unfold ic;rw[List.flatMap_cons,aG,Nat.add_assoc]
theorem xJ(g:Int)(x:aP)(S:List aP):ic g (S++[x])=ic g S++(fk x.samples g).1:=by
 unfold ic;rw[List.flatMap_append];simp
theorem Gf{b:mI}{g:Int}(h:co b g≠0):gX b g=([],co b g):=by unfold gX;rw[if_pos h]
theorem DY{b:mI}{g:Int}(h:co b g=0)(h2:(cO g [] b.gone).2.1=none):gX b g=([],7):=by
 unfold gX;rw[if_neg (by simp[h])];rcases hp:cO g [] b.gone with⟨s,K,e⟩
 rw[hp] at h2;simp only at h2;subst h2;rfl
theorem DZ{b:mI}{g e:Int}{s:List UInt8}{K:List (List UInt8)}(h:co b g=0)(h2:cO g [] b.gone=(s,some K,e)):gX b g=(uk b g s,0):=by
 unfold gX;rw[if_neg (by simp[h]),h2]
theorem m5(gv sv:Value)(b:mI)(g:Int)(w:World)(h:jC w gv sv b)(g1: -9223372036854775808<=g)(g2:g<=9223372036854775807)(hT:Tb w)(hg64:1<w.heap.size):
 Calls Tryz.prog 11 #[.agg #[.int .i64 b.floor,gv,sv],.int .i64 g] w fun e w'=>e=.returned (.tuple #[.string (bs (gX b g).1),.int .i64 (gX b g).2])/\Below w.heap.size w w':=by
 obtain⟨f,R,S⟩:=b
 obtain⟨hf,hR,hS⟩:=h
 simp only at hf hR hS⊢
 have HIN:=af (info_parts (show (Tryz.prog.info? 92).map (fun i=>(i.zero,i.size,i.bytes))=some (some (.agg #[.slice none 0 0,.int .i64 0,.int .i64 0,.int .i64 0]),4,48) by kernel_rfl))
 have b0:=ai w (.cells #[.int .i64 f,gv,sv] 25)
 have k0:=ag.new w 25 #[.int .i64 f,gv,sv]
 have q1:=af (fun W (hb:Below w.heap.size w W)=>oj gv sv R S f g W (hR.below hb) (hS.below hb) g1 g2)
 have HRS:=af (And.intro hR hS)
 obtain⟨ra,rc,rfl,hRl,_⟩:=id hR
 obtain⟨sa,sc,rfl,hsn,hSl,hSc,hx⟩:=id hS
 have HX:=af hx
 clear hR hS hx hsn
 by_cases hv:co ⟨f,R,S⟩ g=0
 ·have HVP:=af (ou hv);have HBAD:=af (fun h2=>DY hv h2);have HGOOD:=af (fun (e:Int) (s:List UInt8) (K:List (List UInt8)) (h2:cO g [] R=(s,some K,e))=>DZ (b:=⟨f,R,S⟩) hv h2);have hge:=af (Az hv);rw[hv] at q1;obtain⟨⟨hga,hgb⟩,htf,hrl,hsl,_⟩:=HVP.out;simp only at htf hrl hsl;obtain⟨hf0,hf1⟩:=(ym f).1 htf;obtain⟨fn,rfl⟩:∃n:Nat,f=n:=⟨f.toNat,by omega⟩
  clear hv htf hf;have hfu:aS (fn:Int)=fn:=by unfold aS;omega
  have hfw:IntKind.u64.wrap (fn:Int)=(fn:Int):=by rw[dI,hfu]
  have q2:=af (fun W=>aT (fn:Int) W (by omega) (by omega));have q3:=af (fun W=>cH (fn:Int) W (by omega) (by omega));rw[Int.toNat_natCast] at q2 q3;have q4:=af (fun W (hb:Below w.heap.size w W)=>Jw g (.slice none 0 0) (.slice ra R.length rc) [] R W (EG W) (HRS.out.1.below hb) (by simp) (by omega) g1 g2);unfold ep at q4;have HFL:=af (show pN (fn:Int) g=if g=1 then Num.wide fn else Num.small fn by unfold pN;rw[hfu]);have HFG:=af (show BS ⟨(fn:Int),R,S⟩=(if R.length=0 then 0 else 1)+(if 0<fn then 2 else 0) by
   unfold BS
   simp only[List.length_eq_zero_iff]
   congr 1
   by_cases h0:0<fn
   ·rw[if_pos h0,if_pos (by omega)]
   ·rw[if_neg h0,if_neg (by omega)])
  clear hfu;have Hb0:=af b0;have HTT:=af (And.intro hT hg64);clear hT hg64;generalize hrn:R.length=rn at*;have HRN:=af hrn;clear hrn;go_enter Tryz.func11,Tryz.ntmps11
  go_wp2_with fail
  refine(q1.out _ b0).mono ?_;rintro e w1 ⟨rfl,hb1⟩;have c1:=ay b0 hb1;have k1:=ag.below k0 hb1 k0.lt;have p0:=ax k1 0 (.int .i64 (fn:Int)) rfl;clear q1 hb1 b0 k0;go_wp2_with fail
  refine(q2.out _).mono ?_;rintro e w2 ⟨rfl,hb2⟩;have c2:=ay c1 hb2;have k2:=ag.below k1 hb2 k1.lt;have p0:=ax k2 0 (.int .i64 (fn:Int)) rfl;have p1:=ax k2 1 (.slice ra rn rc) rfl;clear q2 hb2 c1 k1;go_upto_if 33 with fail
  have HK:=af (And.intro k2 c2);obtain⟨fa,hfa⟩:∃x:Nat,(if rn=0 then 0 else 1)=x:=⟨_,rfl⟩
  rw[hfa] at HFG;have HFA:=af hfa;have hfa1:fa<=1:=by rw[<-hfa];split<;>omega
  clear hfa k2 c2;go_cut [7] (fun fv wx=>fv=.int .i64 (fa:Int)/\w2=wx)
  case first=>
   have hfa:=HFA.out;clear HFA;rcases Nat.eq_zero_or_pos rn with h0|h0
   ·subst h0;obtain rfl:fa=0:=hfa.symm;clear hfa hfa1;go_wp2_with fail
    go_meet;exact⟨rfl,rfl⟩
   ·have e1:decide ((0:Int)<(rn:Int))=true:=by simp;omega
    have e2:decide (0<rn)=true:=by simpa using h0
    rw[if_neg (by omega)] at hfa;subst hfa;clear hfa1;go_wp2_with fail
    go_meet;exact⟨rfl,rfl⟩
  case rest=>
   obtain⟨rfl,rfl⟩:=hcut;clear HFA;obtain⟨fb,hfb⟩:∃x:Nat,fa+(if 0<fn then 2 else 0)=x:=⟨_,rfl⟩
   rw[hfb] at HFG;have HFB:=af hfb;have hfb1:fb<=3:=by rw[<-hfb];split<;>omega
   clear hfb;go_upto_if 38 with fail
   go_cut [7] (fun fv wx=>fv=.int .i64 (fb:Int)/\w2=wx)
   case first=>
    have hfb:=HFB.out;clear HFB;by_cases h0:0<fn
    ·have e1:decide ((0:Int)<(fn:Int))=true:=by simp;omega
     have e2:decide (0<fn)=true:=by simpa using h0
     rw[if_pos h0] at hfb;have ho:∀k:Nat,k<=1->bits BinOp.or IntKind.i64 (k:Int) 2=((k+2:Nat):Int):=fun k hk=>by
      rcases(show k=0\/k=1 by omega) with rfl|rfl<;>kernel_rfl
     have ho1:=ho fa hfa1;rw[hfb] at ho1;clear ho hfb;go_wp2_with fail
     go_meet;exact⟨rfl,rfl⟩
    ·have e1:decide ((0:Int)<(fn:Int))=false:=by simp;omega
     have e2:decide (0<fn)=false:=by simpa using h0
     rw[if_neg h0] at hfb;obtain rfl:fa=fb:=hfb;go_wp2_with fail
     go_meet;exact⟨rfl,rfl⟩
   case rest=>
    obtain⟨rfl,rfl⟩:=hcut;clear HFB;obtain⟨FL,hFL⟩:∃x,pN (fn:Int) g=x:=⟨_,rfl⟩
    have hfl10:=BQ (fn:Int) g;rw[hFL] at HFL hfl10;have HFLB:=af hFL;clear hFL;go_upto_if 42 with fail
    go_cut [8] (fun xv wx=>xv=.string (bs FL)/\Below w.heap.size w wx/\ag wx w.heap.size 25 #[.int .i64 (fn:Int),.slice ra rn rc,.slice sa S.length sc])
    case first=>
     have hfl:=HFL.out;clear HFL;obtain⟨k2,c2⟩:=HK.out;by_cases h1:g=1
     ·rw[if_pos h1] at hfl;subst h1;subst hfl;go_wp2_with fail
      refine(q3.out _).mono ?_;rintro e w3 ⟨rfl,hb3⟩;have HM:=af (And.intro (ay c2 hb3) (ag.below k2 hb3 k2.lt));clear hb3 k2 c2;go_wp2_with fail
      go_meet;exact⟨rfl,HM.out⟩
     ·rw[if_neg h1] at hfl;subst hfl;have e1:(g==1)=false:=by simpa using h1
      have e2:decide (g=1)=false:=decide_eq_false h1;have HM:=af (And.intro c2 k2);clear h1 k2 c2;go_wp2_with fail
      go_meet;exact⟨rfl,HM.out⟩
    case rest=>
     obtain⟨rfl,c3,k3⟩:=hcut;clear HFL HK q3 p0 p1;have p1:=ax k3 1 (.slice ra rn rc) rfl;go_wp2_with fail
     refine(q4.out _ c3).mono ?_;rintro e w4 ⟨hb4,hpi⟩;obtain⟨⟨gs,ko,er⟩,hw⟩:∃p,cO g [] R=p:=⟨_,rfl⟩
     have hne:=ye (g:=g) (K:=[]) (R:=R);have hsm:=qi g [] R;rw[hw] at hpi HBAD hne;simp only at hpi HBAD hne;have c4:=ay c3 hb4;have k4:=ag.below k3 hb4 k3.lt;clear q4 hb4 p1 c3 k3;cases ko with
     |none=>
      obtain rfl:=hpi;have hz:=hne rfl;have e1:(er != 0)=true:=by simpa using hz
      have e2:decide (er=0)=false:=decide_eq_false hz;have e3:(er==0)=false:=by simpa using hz
      have HP:=af (HBAD.out rfl);have c5:=c4.alloc c4.size (.cells #[.int .i64 g,.slice none 0 0] 78);clear hne HBAD HGOOD hsm;unfold ep;go_wp2_with fail
      go_ret2;exact⟨by rw[HP.out];rfl,c5⟩
     |some K'=>
      obtain⟨kv',rfl,hkv,_⟩:=hpi;obtain⟨ka,kc,rfl,_⟩:=id hkv;obtain⟨_,_,_,her⟩:=hsm gs K' er hw;subst her;have HPUT:=af (HGOOD.out _ _ _ hw);have hgl:=Iw (by rw[HRN.out];exact hrl) hw;clear hne HBAD HGOOD hsm hkv hw;obtain⟨gn,rfl⟩:∃n:Nat,g=n:=⟨g.toNat,by omega⟩
      have B5:=bT.fresh (w4.alloc (.cells #[.int .i64 (gn:Int),.slice ka K'.length kc] 78));have c5a:=c4.alloc c4.size (.cells #[.int .i64 (gn:Int),.slice ka K'.length kc] 78);have c5:=c5a.alloc c5a.size (.cells #[.pointer none,.slice none 0 0] 84);have k5:=ag.alloc (ag.alloc k4 (.cells #[.int .i64 (gn:Int),.slice ka K'.length kc] 78)) (.cells #[.pointer none,.slice none 0 0] 84);have p2:=ax k5 2 (.slice sa S.length sc) rfl;have hw4:=c4.size;clear c5a k4 c4;unfold ep;have HPK:=af (show gX ⟨(fn:Int),R,S⟩ (gn:Int)=(uk ⟨(fn:Int),R,S⟩ (gn:Int) gs,0) from HPUT.out);have HOD:=af HVP.out.2.2.2.2.2.1;clear HPUT HVP;generalize hN:S.length=N at*;have HN:=af hN;clear hN;go_wp2_with fail
      have hbb:(w4.alloc (.cells #[.int .i64 (gn:Int),.slice ka K'.length kc] 78)).heap.size=w4.heap.size+1:=aY _ _;rw[hbb] at B5;have hb5:w4.heap.size+2<=((w4.alloc (.cells #[.int .i64 (gn:Int),.slice ka K'.length kc] 78)).alloc (.cells #[.pointer none,.slice none 0 0] 84)).heap.size:=by rw[aY,aY];omega
      generalize hW5:(w4.alloc (.cells #[.int .i64 (gn:Int),.slice ka K'.length kc] 78)).alloc (.cells #[.pointer none,.slice none 0 0] 84)=w5 at*;obtain⟨bb,hb⟩:∃x,w4.heap.size+1=x:=⟨_,rfl⟩
      rw[hb] at B5⊢;have hbw:w.heap.size<bb/\bb<w5.heap.size:=by omega
      clear hbb hW5 hb5 hw4 hb p2 k5;go_loopw [13,61] (fun lv vi wr=>∃(i:Nat) (Z:List (En×Value)) (C:List UInt8),i<=N/\vi=.int .i64 (i:Int)/\bT bb bb C wr/\wr.ownsRow (bb+1) 92 4 lv i (el Z)/\(∀z∈Z,z.1.ok/\aC w z.2 z.1.labels)/\Below w.heap.size w wr/\bb<wr.heap.size/\C.length<=i*5004/\Hid (Z.length=i/\C=ic gn (S.take i)/\Z.map (fun z=>z.1)=eW gn 0 (S.take i))) (fun _ vi _=>N-(intOf vi).toNat)
      case atStart=>exact⟨0,[],[],Nat.zero_le _,rfl,B5,eE,by simp,c5,hbw.2,by simp,af ⟨rfl,rfl,rfl⟩⟩
      have hbw1:=hbw.1;clear B5 c5 hbw;obtain⟨i,Z,C,hi,rfl,hB,hrow,hZ,b3,b4,hC,HS⟩:=hrel;rcases(show i<N\/i=N by omega) with hil|rfl
      ·have hiS:i<S.length:=by rw[HN.out];exact hil
       obtain⟨b,o,rfl,hok,sl,ssv,d0,hL,d1,hM,d2⟩:=HX.out i S[i] (aW hiS);have hodd:=HOD.out S[i] (dM hiS);have hTS:=(eN hiS)
       have HE:=af (show eW gn 0 (S.take (i+1))=eW gn 0 (S.take i)++[⟨S[i].labels,S[i].last,((0+(ic gn (S.take i)).length:Nat):Int),((fk S[i].samples gn).1.length:Nat)⟩] by rw[hTS];exact tS gn S[i] (S.take i) 0);have HC:=af (show ic gn (S.take (i+1))=ic gn (S.take i)++(fk S[i].samples gn).1 by rw[hTS];exact xJ gn S[i] (S.take i));rw[<-HS.out.2.1,<-HS.out.2.2] at HE;rw[<-HS.out.2.1] at HC;generalize S[i]=x at*;clear hTS hiS;obtain⟨xl,xm,xt⟩:=x;obtain⟨_,_,hml,_⟩:=oK hodd;simp only at hok d0 d1 d2 hL hM hml HE HC;obtain⟨la,lc,rfl,_⟩:=id hL;obtain⟨ma,mc,rfl,_⟩:=id hM;have e0:=cu b3 d0;have e1:=cu b3 d1;have e2:=cu b3 d2;have kA:=ag.new wr 88 #[.slice la xl.length lc,.slice ma xm.length mc,.int .i64 xt];have bA:=ai wr (.cells #[.slice la xl.length lc,.slice ma xm.length mc,.int .i64 xt] 88);have bAw:=ay b3 bA;have q:=af (CL (.slice ma xm.length mc) xm (gn:Int) _ (hM.below bAw) (HTT.out.1.below bAw HTT.out.2) (dU HTT.out.2 bAw.size));have hcl:=uh (l:=xm) (g:=(gn:Int)) hml;obtain⟨⟨cb,ce⟩,hcp⟩:∃p,fk xm (gn:Int)=p:=⟨_,rfl⟩
       rw[hcp] at q hcl HE HC;simp only at q hcl HE HC;have HL:=af (And.intro hL (And.intro hok hZ));clear d0 d1 d2 hL hM hodd hml hcp bAw hok hZ;obtain⟨y0,y1,y2⟩:(wr.alloc (.cells #[.slice la xl.length lc,.slice ma xm.length mc,.int .i64 xt] 88)).cell? ⟨wr.heap.size,0,none⟩=some (.slice la xl.length lc)/\(wr.alloc (.cells #[.slice la xl.length lc,.slice ma xm.length mc,.int .i64 xt] 88)).cell? ⟨wr.heap.size,1,none⟩=some (.slice ma xm.length mc)/\(wr.alloc (.cells #[.slice la xl.length lc,.slice ma xm.length mc,.int .i64 xt] 88)).cell? ⟨wr.heap.size,2,none⟩=some (.int .i64 xt):=⟨(ag.cell kA 0).trans rfl,(ag.cell kA 1).trans rfl,(ag.cell kA 2).trans rfl⟩
       obtain⟨va,vc,rfl⟩:=aH hrow;go_wp2_with fail
       refine bP q.out fun w7 hb7=>?_;have b7:=ay bA hb7;have k7:=ag.below kA hb7 kA.lt;have row7:=aw hrow (ak.of_below (S:=fun _=>False) b7) (fun _ _ e=>e);have B7:=hB.below b7;have hbn:bb<w7.heap.size:=dU b4 b7.size;have hlo:∀k,(Value.slice va i vc).ownBlock=some k->bb+1<=k/\k<wr.heap.size:=fun k e=>hrow.lt k e;have c7:=ay b3 b7;obtain⟨ba,bc,hbc⟩:=Hz B7;clear q e0 e1 e2 y0 y1 y2 kA bA hb7 b7 hB hrow b3 b4;have hne:∀k,k<bb+1\/wr.heap.size<=k->some k≠(Value.slice va i vc).ownBlock:=fun k hk e=>by have:=hlo k e.symm;omega
       have g0:=pm (row:=(Value.slice va i vc).ownBlock) (fin:=bg w7 (.slice va i vc) 4 i (E3 la xl.length lc xt C.length cb.length)) (ax k7 0 (.slice la xl.length lc) rfl) (hne _ (.inr (aF _)));have g2:=pm (row:=(Value.slice va i vc).ownBlock) (fin:=bg w7 (.slice va i vc) 4 i (E3 la xl.length lc xt C.length cb.length)) (ax k7 2 (.int .i64 xt) rfl) (hne _ (.inr (aF _)));have gB:=af (fun W (hW:lV (Value.slice va i vc).ownBlock (bg w7 (.slice va i vc) 4 i (E3 la xl.length lc xt C.length cb.length)) w7 W)=>lV.cell hW hbc (hne bb (.inl (Nat.lt_succ_self _))));have hltr:∀k,(Value.slice va i vc).ownBlock=some k->k<w7.heap.size:=fun k e=>(row7.lt k e).2;have ⟨i0,hin,hz0,hz1,hz2⟩:=HIN.out;clear hbc;go_wp2_with fail
       refine nd (R:=lV (Value.slice va i vc).ownBlock (bg w7 (.slice va i vc) 4 i (E3 la xl.length lc xt C.length cb.length))) (by kernel_rfl) (by kernel_rfl) rfl (by kernel_rfl) ?_;iterate 5 (refine bH fun K hK=>?_;go_big_quiet_step (fail);refine hK _ ?_;clear hK K)
       (refine fP (f:=36) (args:=#[.pointer (some ⟨bb,0,none⟩)]) (v:=.int .i64 (C.length:Int)) (fun W hW=>(Co bb C.length bc ba W (gB.out W hW)).mono fun e w' h=>⟨h.1,by rw[h.2];exact⟨⟨rfl,rfl,rfl,aF _,fun _ _ _=>rfl⟩,fun _ _=>.inl rfl⟩⟩) fun K hK=>?_;go_big_quiet_step (fail);refine hK _ ?_;clear hK K)
       (refine bH fun K hK=>?_;go_big_quiet_step (fail);refine hK _ ?_;clear hK K)
       (refine nt (v:=.int .i64 (cb.length:Int)) (fun _ _=>by go_simp) fun K hK=>?_;go_big_quiet_step (fail);refine hK _ ?_;clear hK K)
       (refine nt (v:=.agg #[.slice la xl.length lc,.int .i64 xt,.int .i64 (C.length:Int),.int .i64 (cb.length:Int)]) (fun _ _=>by go_simp) fun K hK=>?_;go_big_quiet_step (fail);refine hK _ ?_;clear hK K);refine vz (m:=1) (news:=E3 la xl.length lc xt C.length cb.length) hltr (by kernel_rfl) (fun _ _ h=>by cases h) (by kernel_rfl) rfl 92 (fun W=>by go_simp;rfl) ?_;refine Dc (s:=72) (x:=81) (t:=85) (e:=92) (i:=i0) (z:=.agg #[.slice none 0 0,.int .i64 0,.int .i64 0,.int .i64 0]) (bytes:=48) rfl rfl rfl Tryz.underlying85 hin hz0 hz1 hz2 rfl (by decide) rfl rfl rfl row7 rfl (by simp[Value.oneCell',E3]) (by unfold maxLen;omega) (by omega) hbn ?_;refine eF ?_;rintro W8 hW8;simp only[az];rintro v' ⟨hown',_⟩ z _;obtain⟨va',vc',rfl⟩:=aH hown';simp only[Act.put,List.setIfInBounds_toArray,List.set_cons_succ,List.set_cons_zero];have hk8:ak w7 W8 (fun k=>(Value.slice va i vc).ownBlock=some k):=ak.of_grown hW8.1 (fun k e=>e);have B8:=mB B7 hk8 (fun e=>by have:=hlo _ e;omega) (fun k e=>by rw[aX row7 e];decide);have c8:=c7.trans (hk8.below c7.size fun k e=>by have:=hlo k e;omega);have hb8:bb<W8.heap.size:=dU hbn hk8.size;have qw:=af (cU bb bb C cb W8 B8 (by omega) (Nat.le_of_lt hb8));have HO:=af hown';clear g0 g2 gB hW8 hltr hin hz0 hz1 hz2 hne hlo row7 k7 B7 B8 hk8 c7 hbn hown';go_wp2_with fail
       refine qw.out.mono ?_;rintro e w9 ⟨rfl,B9,hk9⟩;have row9:=hk9.row HO.out (fun e=>by have:=(HO.out.lt _ e).1;omega) (by decide);have c9:=c8.trans (hk9.1.mono (by omega));have hb9:bb<w9.heap.size:=dU hb8 hk9.1.size;have HR9:=af (show w9.ownsRow (bb+1) 92 4 (.slice va' (i+1) vc') (i+1) (el (Z++[((⟨xl,xt,(C.length:Nat),(cb.length:Nat)⟩:En),Value.slice la xl.length lc)])) by rw[<-nA];exact row9);have HB9:=af B9;have HZ9:=af (show ∀z∈Z++[((⟨xl,xt,(C.length:Nat),(cb.length:Nat)⟩:En),Value.slice la xl.length lc)],z.1.ok/\aC w z.2 z.1.labels from fun z hz=>by
        rcases List.mem_append.1 hz with hz|hz
        ·exact HL.out.2.2 z hz
        ·obtain rfl:=List.mem_singleton.1 hz
         refine⟨⟨HL.out.2.1.2,⟨?_,?_⟩,?_,?_⟩,HL.out.1⟩<;>simp only<;>omega)
       have HH:=af (show (Z++[((⟨xl,xt,(C.length:Nat),(cb.length:Nat)⟩:En),Value.slice la xl.length lc)]).length=i+1/\C++cb=ic gn (S.take (i+1))/\(Z++[((⟨xl,xt,(C.length:Nat),(cb.length:Nat)⟩:En),Value.slice la xl.length lc)]).map (fun z=>z.1)=eW gn 0 (S.take (i+1)) from⟨by rw[aG,HS.out.1];rfl,HC.out.symm,by rw[HE.out,List.map_append,Nat.zero_add];rfl⟩);clear row9 B9 hk9 qw HO HL HS HC HE c8 hb8;go_wp2_with fail
       go_roundw
       case rel=>exact⟨i+1,_,C++cb,hil,by go_num,HB9.out,HR9.out,HZ9.out,c9,hb9,by rw[aG];omega,HH⟩
       case measure=>simp[intOf];omega
      ·have hSi:S.take i=S:=by rw[<-HN.out];exact List.take_length
       obtain⟨va,vc,rfl⟩:=aH hrow;have hEA:=zN hrow HS.out.1 (by rw[HS.out.1];omega) (fun z hz=>⟨(hZ z hz).1,(hZ z hz).2.below b3⟩);rw[HS.out.2.2,hSi] at hEA;have hCC:=HS.out.2.1;rw[hSi] at hCC;have q5:=af (An (eW gn 0 S) (.slice va i vc) (gn:Int) wr hEA g1 g2);unfold qF at q5;have hpl:(ll (eW gn 0 S) gn).1.length<=1048576:=by
        rw[wY hge.out];have h1:=z8 _ _ hge.out;have h2:=dS (kJ (eW gn 0 S) gn);simp only[aG];omega
       have HBD:=af (show uk ⟨(fn:Int),R,S⟩ (gn:Int) gs=(((eU ey gn fb++bI FL)++bI gs)++bI (ll (eW gn 0 S) gn).1)++C by
        unfold uk
        rw[HFG.out,HFLB.out,hCC,Int.toNat_natCast])
       obtain⟨⟨wh,ei⟩,hwh⟩:∃p,ll (eW gn 0 S) gn=p:=⟨_,rfl⟩
       rw[hwh] at q5 HBD hpl;simp only at q5 HBD hpl;have hh:(eU ey gn fb).length=10:=by
        unfold eU;rw[dD];rfl
       have hp1:(bI FL).length<=100:=by
        have:=Num.small_len FL.length;unfold bI;rw[dD,Num.text_len];omega
       have hp2:(bI gs).length<=2000000:=by
        have:=Num.small_len gs.length;unfold bI;rw[dD,Num.text_len];omega
       have hp3:(bI wh).length<=2000000:=by
        have:=Num.small_len wh.length;unfold bI;rw[dD,Num.text_len];omega
       have qh:=af (fun W=>Ao ey gn fb (by omega) (by omega) (by decide) W);have qf1:=af (fun W=>hU FL (by omega) W);have qf2:=af (fun W=>hU gs hgl W);have qf3:=af (fun W=>hU wh hpl W);have qs:=af (fun W (hb:Below wr.heap.size wr W)=>lN bb bb C W (hB.below hb) (aK (Nat.le_of_lt b4) hb.size));unfold ey at qh;clear hwh hSi hEA hCC hrow hB hZ HS HFG HFLB hge hgl hpl HX HOD HN HTT HIN;obtain⟨H,hH⟩:∃x,eU [65,66,76,75] gn fb=x:=⟨_,rfl⟩
       unfold ey at HBD hh;rw[hH] at qh HBD hh;generalize bI FL=P1 at*;generalize bI gs=P2 at*;generalize bI wh=P3 at*;have ha1:∀W,(Op.stringOp .add (bs H) (bs P1)).run Tryz.prog W=.ok (.string (bs (H++P1))) W:=fun W=>aJ (P:=Tryz.prog) _ _ (by omega) W;have ha2:∀W,(Op.stringOp .add (bs (H++P1)) (bs P2)).run Tryz.prog W=.ok (.string (bs ((H++P1)++P2))) W:=fun W=>aJ (P:=Tryz.prog) _ _ (by rw[aG];omega) W;have ha3:∀W,(Op.stringOp .add (bs ((H++P1)++P2)) (bs P3)).run Tryz.prog W=.ok (.string (bs (((H++P1)++P2)++P3))) W:=fun W=>aJ (P:=Tryz.prog) _ _ (by rw[aG,aG];omega) W;have ha4:∀W,(Op.stringOp .add (bs (((H++P1)++P2)++P3)) (bs C)).run Tryz.prog W=.ok (.string (bs ((((H++P1)++P2)++P3)++C))) W:=fun W=>aJ (P:=Tryz.prog) _ _ (by rw[aG,aG,aG];omega) W;have HPK2:=af (show gX ⟨(fn:Int),R,S⟩ (gn:Int)=((((H++P1)++P2)++P3)++C,0) by rw[HPK.out,HBD.out]);clear HPK HBD hH;generalize (H++P1)=X1 at*;generalize (X1++P2)=X2 at*;generalize (X2++P3)=X3 at*;generalize (X3++C)=X4 at*;go_wp2_with fail
       refine bP q5.out fun w5 t5=>?_;clear q5;go_wp2_with fail
       refine(qh.out _).mono ?_;rintro e w6 ⟨rfl,hb6⟩;have t6:=ay t5 hb6;clear qh hb6 t5;go_wp2_with fail
       refine(qf1.out _).mono ?_;rintro e w7 ⟨rfl,hb7⟩;have t7:=ay t6 hb7;clear qf1 hb7 t6;go_wp2_with fail
       refine(qf2.out _).mono ?_;rintro e w8 ⟨rfl,hb8⟩;have t8:=ay t7 hb8;clear qf2 hb8 t7;go_wp2_with fail
       refine(qf3.out _).mono ?_;rintro e w9 ⟨rfl,hb9⟩;have t9:=ay t8 hb9;clear qf3 hb9 t8;go_wp2_with fail
       refine(qs.out _ t9).mono ?_;rintro e wx ⟨rfl,_,hbx⟩;have tx:=(ay b3 t9).trans (hbx.1.mono (by omega));clear qs t9 hbx;go_wp2_with fail
       go_ret2;exact⟨by rw[HPK2.out];rfl,tx⟩
 ·have HP:=af (Gf hv);have hv1:(co ⟨f,R,S⟩ g != 0)=true:=by simpa using hv
  have hv2:decide (co ⟨f,R,S⟩ g=0)=false:=decide_eq_false hv;have hv3:(co ⟨f,R,S⟩ g==0)=false:=by simpa using hv
  generalize co ⟨f,R,S⟩ g=vd at*;clear hv;go_enter Tryz.func11,Tryz.ntmps11
  go_wp2_with fail
  refine(q1.out _ b0).mono ?_;rintro e w1 ⟨rfl,hb1⟩;have c1:=ay b0 hb1;clear q1;go_wp2_with fail
  go_ret2;exact⟨by rw[HP.out];rfl,c1⟩
end
section
open Go.RowKit
attribute [local go_sem] am aq
def CH(r:mI×Nat×Int)(e:Ending)(w':World):Prop:=∃gv sv,e=.returned (.tuple #[.agg #[.int .i64 r.1.floor,gv,sv],.int .i64 (r.2.1:Int),.int .i64 r.2.2])/\jC w' gv sv r.1
theorem lq(x:Int)(w:World):CH (dB,0,x) (.returned (.tuple #[.agg #[.int .i64 0,.slice none 0 0,.slice none 0 0],.int .i64 0,.int .i64 x])) w:=
 ⟨_,_,rfl,⟨by simp[dB],by simp[dB]⟩,⟨none,0,rfl,by simp[dB],fun i x hx=>by simp[dB] at hx⟩,iq.nil w⟩
theorem iJ{P:Program}{fn:Func}{p t u:Tmp}{ty:TypeId}(h:fn.results=#[.cell p ty,.tmp t,.tmp u])(tmps:Array Value)(w:World)(g:Nat)(tb:TypeId)(cs:Array Value)(d:TypeDesc)
 (hp:tmps.getD p undef=.pointer (some ⟨g,0,none⟩)) (hg:ag w g tb cs)
 (hu:P.underlying ty=some d) (hd:(match d with|.struct _|.array _ _=>true|_=>false)=true) (hi:(P.info? ty).map (·.size)=some cs.size):
 (results fn tmps).run P w=.ok (.tuple #[.agg cs,tmps.getD t undef,tmps.getD u undef]) w:=by
 have hp':tmps[p]?.getD undef=.pointer (some ⟨g,0,none⟩):=by simpa using hp
 simp[results,h,hp',asAddr,run_loadVar_row w g tb ty cs (0,0) d hg hu hd hi]
theorem Ed(s:List UInt8)(h:(cY s ey).2.2.2=0):1<=(cY s ey).1/\(cY s ey).1<=3/\(cY s ey).2.2.1.length<=s.length:=by
 unfold cY at h⊢;split
 ·rename_i h1;rw[if_pos h1] at h;cases h
 ·rename_i h1;rw[if_neg h1] at h;cases hg:eB (s.take (ey.length+6)) with
  |none=>rw[hg] at h;cases h
  |some b=>
   rw[hg] at h;simp only at h⊢;split
   ·rename_i h2;rw[if_pos h2] at h;cases h
   ·rename_i h2;rw[if_neg h2] at h;split
    ·rename_i h3;rw[if_pos h3] at h;cases h
    ·rename_i h3;rw[if_neg h3] at h;split
     ·rename_i h4;rw[if_pos h4] at h;cases h
     ·rename_i h4;simp only[List.length_drop];omega
theorem uv(s:List UInt8)(w:World)(hl:s.length<=900000)(hT:Tb w)(hg64:1<w.heap.size)(h1g:(cY s ey).2.2.2=0->(cY s ey).1=1):
 Calls Tryz.prog 20 #[.string (bs s)] w fun e w'=>CH (mu s) e w'/\Below w.heap.size w w':=by
 have HT:=af (fun W (hb:Below w.heap.size w W)=>(show Tb W/\1<W.heap.size from⟨hT.below hb hg64,dU hg64 hb.size⟩))
 have HG:=af (show mu s=match cY s ey with|(g,_,rest,e)=>if e≠0 then(dB,0,e) else match lI rest g with
  |none=>(dB,0,9)
  |some b=>if gX b g=(s,0) then(b,g,0) else(dB,0,9) from rfl)
 have b0:=ai w (.cells #[.int .i64 0,.slice none 0 0,.slice none 0 0] 25)
 have k0:=ag.new w 25 #[.int .i64 0,.slice none 0 0,.slice none 0 0]
 have q1:=af (fun W=>Al s ey (by omega) (by decide) W)
 have HO:=af (Ed s)
 have H1:=af h1g
 unfold oI at q1
 obtain⟨⟨g,fl,r,er⟩,ho⟩:∃p,cY s ey=p:=⟨_,rfl⟩
 rw[ho] at q1 HG HO H1
 simp only at q1 HG HO H1
 clear ho hT hg64 h1g
 go_enter Tryz.func20,Tryz.ntmps20
 go_wp2_with fail
 refine(q1.out _).mono ?_
 rintro e w1 ⟨rfl,hb1⟩
 have c1:=ay b0 hb1
 have k1:=ag.below k0 hb1 k0.lt
 clear q1 hb1 b0 k0
 have HZ:=af (fun W (c:Below w.heap.size w W) (k:ag W w.heap.size 25 #[.int .i64 0,.slice none 0 0,.slice none 0 0])=>rV c (aF _) k rfl (.int .i64 0) (.slice none 0 0) (.slice none 0 0))
 by_cases he:er=0
 ·subst he;obtain⟨hga,hgb,hrl⟩:=HO.out rfl;have HG2:=HG.out;rw[if_neg (by simp)] at HG2;have HG3:=af HG2;have q2:=af (Ga r (g:Int) w1 (by omega) (by omega) (HT.out _ c1).1 (HT.out _ c1).2 (by rw[H1.out rfl];rfl));clear HG HG2 HO;go_wp2_with fail
  refine q2.out.mono ?_;rintro e w2 ⟨hri,hb2⟩;have c2:=ay c1 hb2;have k2:=ag.below k1 hb2 k1.lt;clear q2 hb2 c1 k1;cases hrk:lI r (g:Int) with
  |none=>
   have HE:=af (show mu s=(dB,0,9) by rw[HG3.out,hrk]);rw[hrk] at hri;obtain⟨f,ga,gn,gc,sa,sn,sc,rfl⟩:=hri;have k3:=ag.alloc k2 (.cells #[.int .i64 f,.slice ga gn gc,.slice sa sn sc] 25);have c3:=c2.alloc c2.size (.cells #[.int .i64 f,.slice ga gn gc,.slice sa sn sc] 25);have p0:=ax k3 0 (.int .i64 0) rfl;have p1:=ax k3 1 (.slice none 0 0) rfl;have p2:=ax k3 2 (.slice none 0 0) rfl;have r0:=ag.frozen k3 0;have r1:=ag.frozen k3 1;have r2:=ag.frozen k3 2;have HK:=af (HZ.out _ c3 k3);clear c2 k2 c3 k3 HZ HG3 hrk;go_wp2_with fail
   refine bodyPost_ret (iJ rfl _ _ w.heap.size 25 _ _ rfl HK.out.1 Tryz.underlying25 rfl (by kernel_rfl)) rfl ?_;rw[HE.out];exact⟨lq _ _,HK.out.2.1⟩
  |some b=>
   rw[hrk] at hri;obtain⟨gv,sv,rfl,hB⟩:=hri;have HGS:=af (show mu s=if gX b g=(s,0) then(b,g,0) else(dB,0,9) by rw[HG3.out,hrk]);obtain⟨ga,gc,rfl,_⟩:=id hB.2.1;obtain⟨sa,sc,rfl,_⟩:=id hB.2.2;have k3:=ag.alloc k2 (.cells #[.int .i64 b.floor,.slice ga b.gone.length gc,.slice sa b.ser.length sc] 25);have j3:=ag.new w2 25 #[.int .i64 b.floor,.slice ga b.gone.length gc,.slice sa b.ser.length sc];have d3:=ai w2 (.cells #[.int .i64 b.floor,.slice ga b.gone.length gc,.slice sa b.ser.length sc] 25);have c3:=ay c2 d3;have q3:=af (m5 _ _ b (g:Int) _ (hB.below d3) (by omega) (by omega) (HT.out _ c3).1 (HT.out _ c3).2);obtain⟨⟨ps,pe⟩,hp⟩:∃p,gX b (g:Int)=p:=⟨_,rfl⟩
   rw[hp] at HGS q3;simp only at q3;have HB:=af (hB.below d3);clear HG3 hrk hB hp c2 k2 d3;go_wp2_with fail
   refine bP q3.out fun w4 hb4=>?_;have c4:=ay c3 hb4;have k4:=ag.below k3 hb4 k3.lt;have j4:=ag.below j3 hb4 j3.lt;have HB4:=af (HB.out.below hb4);have p0:=ax k4 0 (.int .i64 0) rfl;have p1:=ax k4 1 (.slice none 0 0) rfl;have p2:=ax k4 2 (.slice none 0 0) rfl;have r0:=ag.frozen k4 0;have r1:=ag.frozen k4 1;have r2:=ag.frozen k4 2;have HK:=af (HZ.out _ c4 k4);by_cases hg:pe=0/\ps=s
   ·obtain⟨rfl,rfl⟩:=hg;have HE:=af (show mu ps=(b,g,0) by rw[HGS.out,if_pos rfl]);have y0:=ax j4 0 (.int .i64 b.floor) rfl;have y1:=ax j4 1 (.slice ga b.gone.length gc) rfl;have y2:=ax j4 2 (.slice sa b.ser.length sc) rfl;have HR:=af (rV c4 (aF _) k4 rfl (.int .i64 b.floor) (.slice ga b.gone.length gc) (.slice sa b.ser.length sc));have HM:=af k4;clear c3 c4 k3 k4 j3 j4 hb4 q3 HZ HGS HK;go_wp2_with fail
    refine bodyPost_ret (iJ rfl _ _ w.heap.size 25 _ _ rfl HR.out.1 Tryz.underlying25 rfl (by kernel_rfl)) rfl ?_;rw[HE.out];exact⟨⟨_,_,rfl,HB4.out.bk HM.out HR.out.2.2⟩,HR.out.2.1⟩
   ·have HE:=af (show mu s=(dB,0,9) by rw[HGS.out,if_neg (fun e=>hg ⟨(Prod.mk.inj e).2,(Prod.mk.inj e).1⟩)]);have hcs:((pe != 0)=true/\decide (pe=0)=false/\(pe==0)=false)\/(pe=0/\(ps != s)=true/\(ps==s)=false/\decide (ps=s)=false):=by
     by_cases h0:pe=0
     ·have h1:ps≠s:=fun e=>hg ⟨h0,e⟩;exact .inr ⟨h0,by simpa using h1,by simpa using h1,decide_eq_false h1⟩
     ·exact .inl ⟨by simpa using h0,decide_eq_false h0,by simpa using h0⟩
    clear c3 c4 k3 k4 j3 j4 hb4 q3 HZ HGS hg;rcases hcs with⟨h1,h2,h3⟩|⟨rfl,h1,h2,h3⟩
    ·go_wp2_with fail
     refine bodyPost_ret (iJ rfl _ _ w.heap.size 25 _ _ rfl HK.out.1 Tryz.underlying25 rfl (by kernel_rfl)) rfl ?_;rw[HE.out];exact⟨lq _ _,HK.out.2.1⟩
    ·go_wp2_with fail
     refine bodyPost_ret (iJ rfl _ _ w.heap.size 25 _ _ rfl HK.out.1 Tryz.underlying25 rfl (by kernel_rfl)) rfl ?_;rw[HE.out];exact⟨lq _ _,HK.out.2.1⟩
 ·have hx1:(er != 0)=true:=by simpa using he
  have hx2:decide (er=0)=false:=decide_eq_false he;have hx3:(er==0)=false:=by simpa using he
  have HE:=HG.out;rw[if_pos he] at HE;have HE:=af HE;have p0:=ax k1 0 (.int .i64 0) rfl;have p1:=ax k1 1 (.slice none 0 0) rfl;have p2:=ax k1 2 (.slice none 0 0) rfl;have r0:=ag.frozen k1 0;have r1:=ag.frozen k1 1;have r2:=ag.frozen k1 2;have HK:=af (HZ.out _ c1 k1);clear c1 k1 HG he HO HZ;go_wp2_with fail
  refine bodyPost_ret (iJ rfl _ _ w.heap.size 25 _ _ rfl HK.out.1 Tryz.underlying25 rfl (by kernel_rfl)) rfl ?_;rw[HE.out];exact⟨lq _ _,HK.out.2.1⟩
def yk(s:List UInt8)(g:Int):List UInt8×Int:=if (mu s).2.2≠0 then([],(mu s).2.2) else gX (mu s).1 g
theorem Fu(s:List UInt8)(g:Int)(w:World)(hl:s.length<=900000)(g1: -9223372036854775808<=g)(g2:g<=9223372036854775807)(hT:Tb w)(hg64:1<w.heap.size)(h1g:(cY s ey).2.2.2=0->(cY s ey).1=1):
 Calls Tryz.prog 22 #[.string (bs s),.int .i64 g] w fun e w'=>e=.returned (.tuple #[.string (bs (yk s g).1),.int .i64 (yk s g).2])/\Below w.heap.size w w':=by
 have HT:=af (fun W (hb:Below w.heap.size w W)=>(show Tb W/\1<W.heap.size from⟨hT.below hb hg64,dU hg64 hb.size⟩))
 have q1:=af (uv s w hl hT hg64 h1g)
 have HN:=af (show yk s g=if (mu s).2.2≠0 then([],(mu s).2.2) else gX (mu s).1 g from rfl)
 obtain⟨⟨b,gn,er⟩,hg⟩:∃p,mu s=p:=⟨_,rfl⟩
 rw[hg] at q1 HN
 simp only at HN
 clear hg hT hg64 h1g
 go_enter Tryz.func22,Tryz.ntmps22
 go_wp2_with fail
 refine q1.out.mono ?_
 rintro e w1 ⟨⟨gv,sv,rfl,hB⟩,hb1⟩
 simp only at hB⊢
 obtain⟨ga,gc,rfl,_⟩:=id hB.2.1
 obtain⟨sa,sc,rfl,_⟩:=id hB.2.2
 have d3:=ai w1 (.cells #[.int .i64 b.floor,.slice ga b.gone.length gc,.slice sa b.ser.length sc] 25)
 have c3:=ay hb1 d3
 by_cases he:er=0
 ·subst he;have q3:=af (m5 _ _ b g _ (hB.below d3) g1 g2 (HT.out _ c3).1 (HT.out _ c3).2);have HE:=HN.out;rw[if_neg (by simp)] at HE;have HE:=af HE;clear q1 HN hB hb1 d3;go_wp2_with fail
  refine bP q3.out fun w4 hb4=>?_;go_wp2_with fail
  go_ret2;exact⟨by rw[HE.out];rfl,ay c3 hb4⟩
 ·have HE:=HN.out;rw[if_pos he] at HE;have HE:=af HE;have h1:(er != 0)=true:=by simpa using he
  have h2:decide (er=0)=false:=decide_eq_false he;have h3:(er==0)=false:=by simpa using he
  clear q1 HN hB hb1 d3 he;go_wp2_with fail
  go_ret2;exact⟨by rw[HE.out];rfl,c3⟩
theorem Cb{sv lv mv:Value}{S S':List aP}{l:List Lb}{M:List Mr}{f f' kd t tb:Int}{u:Nat}{w:World}(hd:(E4 ⟨S,f⟩ kd l M t tb u 3).1=⟨S',f'⟩)(h:aM w sv S)(hl:aC w lv l)(hM:iA w mv M)
 (hb0:∀m∈M,m.name.length<=1048576/\m.value.length<=1048576) (hu:ew (t,u)) (hS:S.length<=1000) (hSs:∀x∈S,x.samples.length<=1000) (og:Int):
 Calls Tryz.prog 29 #[.agg #[sv,.int .i64 f],.agg #[.int .i64 kd,lv,mv,.int .i64 t,.int .i64 tb,.int .u64 (u:Int),.int .i64 og],.int .i64 3] w fun e w'=>∃va n vc x y aa an ac rv,e=.returned (.tuple #[.agg #[.slice va n vc,.int .i64 f'],.agg #[.int .i64 x,.int .i64 y,.slice aa an ac],rv])/\aM w' (.slice va n vc) S'/\Below w.heap.size w w':=by
 refine(Kx sv lv mv S l M f kd t tb og 3 u w h hl hM hb0 hu (by decide) hS hSs).mono ?_
 rintro e w' ⟨v',av,rv,Z,rfl,h1,h3,_,_,_,h2⟩
 rw[hd] at h1⊢
 obtain⟨va,vc,rfl,_⟩:=id h1
 obtain⟨aa,ac,rfl,_⟩:=id h3
 exact⟨_,_,_,_,_,_,_,_,rv,rfl,h1,h2⟩
theorem tr(w:World):iA w (.slice none 0 0) []:=⟨none,0,rfl,by simp,fun i x hx=>by simp at hx⟩
theorem GO(w:World):aC w (.slice none 0 0) []:=⟨none,0,rfl,by simp,fun i x hx=>by simp at hx⟩
theorem Is(w:World):jC w (.slice none 0 0) (.slice none 0 0) dB:=⟨by decide,⟨none,0,rfl,by simp[dB],fun i x hx=>by simp[dB] at hx⟩,iq.nil w⟩
theorem JX(w:World):aC (w.alloc (.cells #[.string ⟨#[97]⟩,.string ⟨#[120]⟩] 73)) (.slice (some ⟨w.heap.size,0,none⟩) 1 1) FF:=by
 have k:=ag.new w 73 #[.string ⟨#[97]⟩,.string ⟨#[120]⟩];refine⟨_,_,rfl,by decide,fun i x hx=>?_⟩;cases i with
 |zero=>
  obtain rfl:([97],[120])=x:=by simpa[FF] using hx
  exact⟨by decide,by decide,w.heap.size,0,rfl,(ag.cell k 0).trans rfl,(ag.cell k 1).trans rfl⟩
 |succ i=>simp[FF] at hx
theorem yd(w:World)(hT:Tb w)(hg64:1<w.heap.size):Calls Tryz.prog 9 #[] w fun e w'=>e=.returned (.bool true)/\Below w.heap.size w w':=by
 have HT:=af (fun W (hb:Below w.heap.size w W)=>(show Tb W/\1<W.heap.size from⟨hT.below hb hg64,dU hg64 hb.size⟩));have q1:=af (m5 (.slice none 0 0) (.slice none 0 0) dB 2 w (Is w) (by decide) (by decide) hT hg64);clear hT hg64;obtain⟨⟨ab,ae⟩,ha⟩:∃p,gX dB 2=p:=⟨_,rfl⟩
 have h5:=LC;rw[ha] at h5 q1;simp only at h5 q1;obtain⟨rfl,hal⟩:=h5;clear ha;go_enter Tryz.func9,Tryz.ntmps9
 go_wp2_with fail
 refine bP q1.out fun w1 hb1=>?_;have HL1:=af (JX w1);have B1:=hb1.alloc hb1.size (.cells #[.string ⟨#[97]⟩,.string ⟨#[120]⟩] 73);have q2:=af (Cb (S':=Io.ser) (f':=0) (og:=0) LG (iq.nil _) HL1.out (tr _) (by simp) (by unfold ew;decide) (by simp) (by simp));clear q1 hb1;go_wp2_with fail
 refine q2.out.mono ?_;rintro e w2 ⟨v1,n1,u1,x1,y1,aa1,an1,ac1,r1,rfl,hs1,hb2⟩;have B2:=ay B1 hb2;have HL2:=af (HL1.out.below hb2);have K2:=ag.alloc (ag.new w2 49 #[.slice v1 n1 u1,.int .i64 0]) (.cells #[.int .i64 x1,.int .i64 y1,.slice aa1 an1 ac1] 62);have b2:=(ai w2 (.cells #[.slice v1 n1 u1,.int .i64 0] 49)).alloc (ai w2 (.cells #[.slice v1 n1 u1,.int .i64 0] 49)).size (.cells #[.int .i64 x1,.int .i64 y1,.slice aa1 an1 ac1] 62);have y0:=ax K2 0 (.slice v1 n1 u1) rfl;have y1':=ax K2 1 (.int .i64 0) rfl;have B3:=ay B2 b2;have HA:=af (hs1.below b2);have HL3:=af (HL2.out.below b2);have q3:=af (Cb (S':=Lf.ser) (f':=0) (og:=0) LF HA.out HL3.out (tr _) (by simp) (by unfold ew;decide) (by decide) (by decide));clear q2 B1 hb2 hs1 HL1 HL2 B2 b2;go_wp2_with fail
 refine q3.out.mono ?_;rintro e w3 ⟨v2,n2,u2,x2,y2,aa2,an2,ac2,r2,rfl,hs2,hb3⟩;have B4:=ay B3 hb3;have K3:=ag.below K2 hb3 K2.lt;have HA3:=af (HA.out.below hb3);have hge:=B4.size;have a2:=ai w3 (.cells #[.slice v2 n2 u2,.int .i64 0] 49);have b2:=a2.alloc a2.size (.cells #[.int .i64 x2,.int .i64 y2,.slice aa2 an2 ac2] 62);have K4:=ag.alloc (ag.alloc K3 (.cells #[.slice v2 n2 u2,.int .i64 0] 49)) (.cells #[.int .i64 x2,.int .i64 y2,.slice aa2 an2 ac2] 62);have J4:=ag.alloc (ag.new w3 49 #[.slice v2 n2 u2,.int .i64 0]) (.cells #[.int .i64 x2,.int .i64 y2,.slice aa2 an2 ac2] 62);have z0:=ax J4 0 (.slice v2 n2 u2) rfl;have z1:=ax J4 1 (.int .i64 0) rfl;have B5:=ay B4 b2;have HA4:=af (HA3.out.below b2);have hne:w2.heap.size≠w3.heap.size:=Nat.ne_of_lt (K3.lt);have q4:=af (Cb (S':=CQ.ser) (f':=0) (og:=0) LE (hs2.below b2) (GO _) (tr _) (by simp) (by unfold ew;decide) (by decide) (by decide));clear q3 B3 K2 y0 y1' HA HL3 hb3 hs2 B4 K3 HA3 a2;go_wp2_with fail
 refine q4.out.mono ?_;rintro e w4 ⟨v3,n3,u3,x3,y3,aa3,an3,ac3,r3,rfl,hs3,hb4⟩;have B6:=ay B5 hb4;have K5:=ag.below K4 hb4 K4.lt;have J5:=ag.below J4 hb4 J4.lt;have f0:=ag.frozen J5 0;have f1:=ag.frozen J5 1;have z0:=ax J5 0 (.slice v2 n2 u2) rfl;have z1:=ax J5 1 (.int .i64 0) rfl;have J6:=ag.set_ (ag.set_ J5 0 (.slice v3 n3 u3)) 1 (.int .i64 0);have K6:=ag.far (ag.far K5 (p:=⟨w3.heap.size,0,none⟩) hne (.slice v3 n3 u3)) (p:=⟨w3.heap.size,1,none⟩) hne (.int .i64 0);have hk6:ak w4 ((w4.setCell ⟨w3.heap.size,0,none⟩ (.slice v3 n3 u3)).setCell ⟨w3.heap.size,1,none⟩ (.int .i64 0)) (fun k=>k=w3.heap.size):=(ak.of_grown (ap _ _ _ _) fun k e=>(aA e).symm).trans (ak.of_grown (ap _ _ _ _) fun k e=>(aA e).symm);have HA6:=af ((HA4.out.below hb4).st J5 hk6);have HC6:=af (hs3.st J5 hk6);have B7:=B6.trans (hk6.below B6.size fun k e=>by omega);have y0:=ax K6 0 (.slice v1 n1 u1) rfl;have y1':=ax K6 1 (.int .i64 0) rfl;have z2:=ax J6 0 (.slice v3 n3 u3) rfl;have z3:=ax J6 1 (.int .i64 0) rfl;clear q4 B5 B6 hb4 K4 J4 K5 J5 b2 hs3 hk6 HA4 hne;go_wp2_with fail
 generalize (w4.setCell ⟨w3.heap.size,0,none⟩ (.slice v3 n3 u3)).setCell ⟨w3.heap.size,1,none⟩ (.int .i64 0)=W at*;have HW:=af (And.intro B7 (And.intro K6 (And.intro J6 (And.intro HA6.out HC6.out))));have hcA:i9 1000 Io.ser:=by unfold i9;decide
 have hcC:i9 1000 CQ.ser:=by unfold i9;decide
 have q5:=af (Fw (.slice v1 n1 u1) (.slice v3 n3 u3) Io.ser CQ.ser 0 0 W HA6.out HC6.out (by decide) (by decide) hcA hcC (by decide) (by decide));rw[show nD ⟨Io.ser,0⟩ ⟨CQ.ser,0⟩=lF from LD] at q5;refine q5.out.mono ?_;rintro e w5 ⟨gv,sv,rfl,hD,hb5⟩;obtain⟨ga,gc,hgv,_⟩:=id hD.2.1;obtain⟨sa,sc,hsv,_⟩:=id hD.2.2;obtain rfl:gv=.slice ga 1 gc:=hgv;obtain rfl:sv=.slice sa 1 sc:=hsv;rw[show lF.floor=0 from rfl];clear q5 B7 K6 J6 HA6 HC6 y0 y1' z0 z1 z2 z3 f0 f1;have k5:=ag.new w5 25 #[.int .i64 0,.slice ga 1 gc,.slice sa 1 sc];have d5:=ai w5 (.cells #[.int .i64 0,.slice ga 1 gc,.slice sa 1 sc] 25);have b5:=ay hb5 d5;have hD5:=hD.below d5;have y0:=ax k5 0 (.int .i64 0) rfl;have y1:=ax k5 1 (.slice ga 1 gc) rfl;have y2:=ax k5 2 (.slice sa 1 sc) rfl;have c5:=HW.out.1.trans (b5.mono HW.out.1.size);have q6:=af (m5 (.slice ga 1 gc) (.slice sa 1 sc) lF 1 _ hD5 (by decide) (by decide) (HT.out _ c5).1 (HT.out _ c5).2);rw[show gX lF 1=(JW,0) from Prod.ext rfl LB] at q6;simp only at q6;go_wp2_with fail
 refine bP q6.out fun w6 hb6=>?_;have b6:=ay b5 hb6;have k6:=ag.below k5 hb6 k5.lt;have c6:=HW.out.1.trans (b6.mono HW.out.1.size);have HD6:=af (hD5.below hb6);have q7:=af (uv JW w6 (by rw[ws];decide) (HT.out _ c6).1 (HT.out _ c6).2 (fun _=>CP));rw[Ls] at q7;clear q6 k5 d5 b5 hD5 y0 y1 y2 c5 hb5 hb6 hD;go_wp2_with fail
 refine q7.out.mono ?_;rintro e w7 ⟨⟨gv,sv,rfl,hG⟩,hb7⟩;simp only at hG⊢;obtain⟨gb,gd,hgv,_⟩:=id hG.2.1;obtain⟨sb,sd,hsv,_⟩:=id hG.2.2;obtain rfl:gv=.slice gb 1 gd:=hgv;obtain rfl:sv=.slice sb 1 sd:=hsv;rw[show lF.floor=0 from rfl];have k8:=ag.new w7 25 #[.int .i64 0,.slice gb 1 gd,.slice sb 1 sd];have d8:=ai w7 (.cells #[.int .i64 0,.slice gb 1 gd,.slice sb 1 sd] 25);have e8:=ay hb7 d8;have b8:=ay b6 e8;have j8:=ag.below k6 e8 k6.lt;have HD8:=af (HD6.out.below e8);have HG8:=af (hG.below d8);have y0:=ax k8 0 (.int .i64 0) rfl;have y1:=ax k8 1 (.slice gb 1 gd) rfl;have y2:=ax k8 2 (.slice sb 1 sd) rfl;have s8:=ag.below HW.out.2.1 b8 HW.out.2.1.lt;have x0:=ax s8 0 (.slice v1 n1 u1) rfl;have x1':=ax s8 1 (.int .i64 0) rfl;have q8:=af (Fv (.slice v1 n1 u1) (.slice gb 1 gd) (.slice sb 1 sd) Io.ser lF.ser lF.gone 0 0 _ (HW.out.2.2.2.1.below b8) HG8.out.2.1 HG8.out.2.2 (by decide) (by decide) (by unfold i9;decide) (by unfold i9;decide));rw[show yT ⟨Io.ser,0⟩ ⟨0,lF.gone,lF.ser⟩=(CQ,0) from LA] at q8;clear q7 hb7 e8 d8 k6 b6 c6 HD6 hG;go_wp2_with fail
 refine q8.out.mono ?_;rintro e w9 ⟨⟨vo,rfl,hO⟩,hb9⟩;simp only at hO⊢;obtain⟨oa,oc,hov,_⟩:=id hO;obtain rfl:vo=.slice oa 1 oc:=hov;rw[show CQ.floor=0 from rfl];have k10:=ag.new w9 49 #[.slice oa 1 oc,.int .i64 0];have d10:=ai w9 (.cells #[.slice oa 1 oc,.int .i64 0] 49);have e10:=ay hb9 d10;have b10:=ay b8 e10;have c10:=HW.out.1.trans (b10.mono HW.out.1.size);have j10:=ag.below j8 e10 j8.lt;have g10:=ag.below k8 e10 k8.lt;have HD10:=af (HD8.out.below e10);have HG10:=af (HG8.out.below e10);have HO10:=af (hO.below d10);have q10:=af (Fu JW 3 _ (by rw[ws];decide) (by decide) (by decide) (HT.out _ c10).1 (HT.out _ c10).2 (fun _=>CP));rw[show yk JW 3=gX lF 3 by unfold yk;rw[Ls];rfl] at q10;obtain⟨⟨ub,ue⟩,hu⟩:∃p,gX lF 3=p:=⟨_,rfl⟩
 have h9:=KG;have h9b:=Lz;rw[hu] at q10 h9 h9b;simp only at h9 h9b q10;subst h9;clear hu q8 k8 d10 e10 b8 j8 HD8 HG8 y0 y1 y2 s8 x0 x1' hb9 hO;go_wp2_with fail
 refine bP q10.out fun w11 hb11=>?_;have c11:=ay c10 hb11;have q11:=af (show Calls Tryz.prog 20 #[.string ⟨#[]⟩] w11 fun e w'=>CH (mu []) e w'/\Below w11.heap.size w11 w' from uv [] w11 (by decide) (HT.out _ c11).1 (HT.out _ c11).2 (fun h=>by cases h));have h10:=Lm;obtain⟨⟨zb,zg,ze⟩,hz⟩:∃p,mu []=p:=⟨_,rfl⟩
 rw[hz] at q11 h10;simp only at h10;subst h10;clear hz q10;go_wp2_with fail
 refine q11.out.mono ?_;rintro e w12 ⟨⟨gv,sv,rfl,hZ⟩,hb12⟩;simp only at hZ⊢;obtain⟨za,zc,rfl,_⟩:=id hZ.2.1;obtain⟨ya,yc,rfl,_⟩:=id hZ.2.2;have d12:=ai w12 (.cells #[.int .i64 zb.floor,.slice za zb.gone.length zc,.slice ya zb.ser.length yc] 25);have e12:=hb11.trans ((ay hb12 d12).mono hb11.size);have b12:=ay b10 e12;have j12:=ag.below j10 e12 j10.lt;have g12:=ag.below g10 e12 g10.lt;have o12:=ag.below k10 e12 k10.lt;have HD12:=af (HD10.out.below e12);have HG12:=af (HG10.out.below e12);have HO12:=af (HO10.out.below e12);have t12:=ag.below HW.out.2.2.1 b12 HW.out.2.2.1.lt;have HT12:=af (HW.out.2.2.2.2.below b12);have HB:=af (HW.out.1.trans (b12.mono HW.out.1.size));clear q11 hb11 hb12 d12 c10 c11 b10 j10 g10 k10 HD10 HG10 HO10 e12 hZ HW b12 HT;have d0:=ax j12 0 (.int .i64 0) rfl;have d1:=ax j12 1 (.slice ga 1 gc) rfl;have d2:=ax j12 2 (.slice sa 1 sc) rfl;have g0:=ax g12 0 (.int .i64 0) rfl;have g1:=ax g12 1 (.slice gb 1 gd) rfl;have g2:=ax g12 2 (.slice sb 1 sd) rfl;obtain⟨p1,p2,p3,p4,p5⟩:=Ll;have qa:=af (Fs (.slice gb 1 gd) (.slice sb 1 sd) (.slice ga 1 gc) (.slice sa 1 sc) lF lF _ HG12.out HD12.out);rw[p1,show lF.floor=0 from rfl] at qa;have hsl:=ws;go_wp2_with fail
 refine bP qa.out fun wa ha=>?_;have d0:=ax (ag.below j12 ha j12.lt) 0 (.int .i64 0) rfl;have d1:=ax (ag.below j12 ha j12.lt) 1 (.slice ga 1 gc) rfl;have d2:=ax (ag.below j12 ha j12.lt) 2 (.slice sa 1 sc) rfl;have o0:=ax (ag.below o12 ha o12.lt) 0 (.slice oa 1 oc) rfl;have o1:=ax (ag.below o12 ha o12.lt) 1 (.int .i64 0) rfl;have t0:=ax (ag.below t12 ha t12.lt) 0 (.slice v3 n3 u3) rfl;have t1:=ax (ag.below t12 ha t12.lt) 1 (.int .i64 0) rfl;have qb:=af (Fr (.slice oa 1 oc) (.slice v3 n3 u3) CQ CQ wa (HO12.out.below ha) (HT12.out.below ha));rw[p2,show CQ.floor=0 from rfl] at qb;have Ba:=af (HB.out.trans (ha.mono HB.out.size));have HDa:=af (HD12.out.below ha);have ja:=ag.below j12 ha j12.lt;clear qa HG12 HD12 HO12 HT12 HB ha g0 g1 g2 j12 g12 o12 t12;go_wp2_with fail
 refine bP qb.out fun wb hb=>?_;have d0:=ax (ag.below ja hb ja.lt) 0 (.int .i64 0) rfl;have d1:=ax (ag.below ja hb ja.lt) 1 (.slice ga 1 gc) rfl;have d2:=ax (ag.below ja hb ja.lt) 2 (.slice sa 1 sc) rfl;have Bb:=af (Ba.out.trans (hb.mono Ba.out.size));have HDb:=af (HDa.out.below hb);have jb:=ag.below ja hb ja.lt;have qc:=af (lC (.slice ga 1 gc) (.slice sa 1 sc) lF.gone lF.ser 0 wb HDb.out.2.1 HDb.out.2.2);rw[show dr ⟨0,lF.gone,lF.ser⟩=1 from p3] at qc;clear qb Ba HDa hb ja o0 o1 t0 t1;go_wp2_with fail
 refine bP qc.out fun wc hc=>?_;have d0:=ax (ag.below jb hc jb.lt) 0 (.int .i64 0) rfl;have d1:=ax (ag.below jb hc jb.lt) 1 (.slice ga 1 gc) rfl;have d2:=ax (ag.below jb hc jb.lt) 2 (.slice sa 1 sc) rfl;have Bc:=af (Bb.out.trans (hc.mono Bb.out.size));have HDc:=af (HDb.out.below hc);have jc:=ag.below jb hc jb.lt;have qd:=af (fun g (h1: -9223372036854775808<=g) (h2:g<=9223372036854775807) W (hb:Below wc.heap.size wc W)=>oj (.slice ga 1 gc) (.slice sa 1 sc) lF.gone lF.ser 0 g W (HDc.out.2.1.below hb) (HDc.out.2.2.below hb) h1 h2);have qe:=af (qd.out 1 (by decide) (by decide) wc (bQ));rw[show co ⟨0,lF.gone,lF.ser⟩ 1=0 from p4] at qe;clear qc Bb HDb hc jb;go_wp2_with fail
 refine bP qe.out fun wd hd=>?_;have d0:=ax (ag.below jc hd jc.lt) 0 (.int .i64 0) rfl;have d1:=ax (ag.below jc hd jc.lt) 1 (.slice ga 1 gc) rfl;have d2:=ax (ag.below jc hd jc.lt) 2 (.slice sa 1 sc) rfl;have Bd:=af (Bc.out.trans (hd.mono Bc.out.size));have qf:=af (qd.out 0 (by decide) (by decide) wd hd);rw[show co ⟨0,lF.gone,lF.ser⟩ 0=1 from p5] at qf;clear qe Bc hd jc;go_wp2_with fail
 refine bP qf.out fun wf hf=>?_;go_wp2_with fail
 go_ret;exact⟨rfl,Bd.out.trans (hf.mono Bd.out.size)⟩
end
section
theorem Bi(g:Int)(x:Rc):fH g x=fH 3 x:=by
 unfold fH dJ;cases lh x with
 |true=>
  have e:∀h:Int,decide ((if true=false then(1:Int) else if cw h<(aZ x.labels:Int) then 3 else 0)=1)=false:=fun h=>by
   rw[if_neg (by decide)];split<;>rfl
  rw[e,e]
 |false=>rfl
theorem wg{α:Type}{f g:α->Bool}:∀(l:List α),(∀x∈l,f x=g x)->l.any f=l.any g
 |[],_=>rfl
 |x::l,h=>by rw[List.any_cons,List.any_cons,h x List.mem_cons_self,wg l fun y hy=>h y (List.mem_cons_of_mem _ hy)]
theorem Ex(g:Int):cw g<=48:=by unfold cw;split<;>(try split)<;>(try split)<;>omega
def H7(b:mI):Prop:=aU b.floor=false\/400<b.gone.length\/20<b.ser.length\/b.gone.any (fH 3)=true\/b.ser.any fj=true
theorem pz(b:mI)(g:Int)(h:1<=g/\g<=3):(H7 b\/fh none b.ser=false)/\co b g=1\/¬(H7 b\/fh none b.ser=false)/\co b g=if cw g<(dr b:Int) then 3 else 0:=by
 have e:b.gone.any (fH g)=b.gone.any (fH 3):=wg _ fun x _=>Bi g x;unfold co H7;rw[e];by_cases h1:aU b.floor=false\/400<b.gone.length\/20<b.ser.length\/b.gone.any (fH 3)=true\/b.ser.any fj=true
 ·exact .inl ⟨.inl h1,by rw[if_pos (.inr (.inr h1))]⟩
 ·have h2:¬(g<1\/3<g\/aU b.floor=false\/400<b.gone.length\/20<b.ser.length\/b.gone.any (fH 3)=true\/b.ser.any fj=true):=fun h3=>by
   rcases h3 with h3|h3|h3
   ·omega
   ·omega
   ·exact h1 h3
  by_cases h4:fh none b.ser=false
  ·exact .inl ⟨.inr h4,by rw[if_neg h2,if_pos h4]⟩
  ·exact .inr ⟨fun h5=>h5.elim h1 h4,by rw[if_neg h2,if_neg h4]⟩
theorem Br(b:mI)(g:Int)(h:1<=g/\g<=3):(co b 3≠0->co b g≠0)/\(co b 3=0->(decide (co b g=0)=decide ((dr b:Int)<=cw g))/\(co b g=0\/co b g=3)):=by
 have hl:=Ex g;have h48:cw 3=48:=rfl;rcases pz b g h with⟨h1,h2⟩|⟨h1,h2⟩
 ·rcases pz b 3 (by omega) with⟨h3,h4⟩|⟨h3,h4⟩
  ·exact⟨fun _=>by omega,fun h5=>by omega⟩
  ·exact absurd h1 h3
 ·rcases pz b 3 (by omega) with⟨h3,h4⟩|⟨h3,h4⟩
  ·exact absurd h3 h1
  ·rw[h2,h4,h48];constructor
   ·intro h5;split at h5
    ·rw[if_pos (by omega)];omega
    ·exact absurd rfl h5
   ·intro h5;constructor
    ·by_cases h6:cw g<(dr b:Int)
     ·rw[if_pos h6];simp;omega
     ·rw[if_neg h6];simp;omega
    ·split
     ·exact .inr rfl
     ·exact .inl rfl
end
section
open Go.RowKit Go.Maps Go.WideMaps Go.ChangeShapes Go.WideShapes Go.Deep
attribute [local go_sem] am aq
theorem FA(cs:Array Value)(g:Int)(W:World)(hTb:Tb W/\1<W.heap.size)(_hsz:cs.size=Tryz.prog.cellsOf 25){H:Type}{enc:TypeId×Value->H}{d:DataW H}{p:List MemPlace}
 (k:DataW.Trod enc Tryz.prog W 0 (fun _=>true) true 25 (.agg cs) d p) (g1: -9223372036854775808<=g) (g2:g<=9223372036854775807):
 Calls Tryz.prog 7 #[.agg cs,.int .i64 g] W fun e w'=>e=.returned (.bool true)/\Below W.heap.size W w':=by
 obtain⟨b,gv,sv,e,hf,hR,hS⟩:=Aa k
 rw[e]
 clear e k _hsz
 obtain⟨ga,gc,rfl,_⟩:=id hR
 obtain⟨sa,sc,rfl,_⟩:=id hS
 have b0:=ai W (.cells #[.int .i64 b.floor,.slice ga b.gone.length gc,.slice sa b.ser.length sc] 25)
 have k0:=ag.new W 25 #[.int .i64 b.floor,.slice ga b.gone.length gc,.slice sa b.ser.length sc]
 have q0:=af (yd _ (hTb.1.below b0 hTb.2) (dU hTb.2 b0.size))
 clear hTb
 go_enter Tryz.func7,Tryz.ntmps7
 go_wp2_with fail
 refine bP q0.out fun w1 hb1=>?_
 have c1:=ay b0 hb1
 have k1:=ag.below k0 hb1 k0.lt
 have q1:=af (Fy (f:=b.floor) (hR.below c1) (hS.below c1))
 have y0:=ax k1 0 (.int .i64 b.floor) rfl
 have y1:=ax k1 1 (.slice ga b.gone.length gc) rfl
 have y2:=ax k1 2 (.slice sa b.ser.length sc) rfl
 clear q0 hb1 b0 k0
 go_wp2_with fail
 refine q1.out.mono ?_
 rintro e w2 ⟨fw,rfl,hb2,hfw⟩
 have HFW:=af hfw
 have c2:=ay c1 hb2
 have k2:=ag.below k1 hb2 k1.lt
 clear hfw q1 hb2 c1 k1 y0 y1 y2
 have HNO:=af (fun e W' (hb:Below W.heap.size W W') (he:e=Ending.returned (.bool true))=>And.intro he hb)
 by_cases hl:fw=true/\1<=g/\g<=3
 ·obtain⟨rfl,ha,hb⟩:=hl;have e1:decide (g<1)=false:=decide_eq_false (by omega);have e2:decide (3<g)=false:=decide_eq_false (by omega);obtain⟨hfR,hfS⟩:=HFW.out rfl;have HA:=af (show jC W (.slice ga b.gone.length gc) (.slice sa b.ser.length sc) b from⟨hf,hR.at hfR,hS.at hfS⟩);have HL:=af (Br b g ⟨ha,hb⟩);clear HFW hfR hfS hR hS;obtain⟨gn,rfl⟩:∃n:Nat,g=n:=⟨g.toNat,by omega⟩
  have kL:=ag.new w2 3 #[.int .i64 0,.int .i64 12,.int .i64 24,.int .i64 48];have bL:=ai w2 (.cells #[.int .i64 0,.int .i64 12,.int .i64 24,.int .i64 48] 3);have c3:=ay c2 bL;have k3:=ag.below k2 bL k2.lt;have hlm:(#[Value.int .i64 0,.int .i64 12,.int .i64 24,.int .i64 48]:Array Value)[gn]?=some (.int .i64 (cw gn)):=by
   rcases(show gn=1\/gn=2\/gn=3 by omega) with rfl|rfl|rfl<;>rfl
  have y0:=ax k3 0 (.int .i64 b.floor) rfl;have y1:=ax k3 1 (.slice ga b.gone.length gc) rfl;have y2:=ax k3 2 (.slice sa b.ser.length sc) rfl;have qv:=af (fun g (h1: -9223372036854775808<=g) (h2:g<=9223372036854775807) W' (hb:Below W.heap.size W W')=>oj (.slice ga b.gone.length gc) (.slice sa b.ser.length sc) b.gone b.ser b.floor g W' (HA.out.2.1.below hb) (HA.out.2.2.below hb) h1 h2);have ql:=af (fun W' (hb:Below W.heap.size W W')=>lC (.slice ga b.gone.length gc) (.slice sa b.ser.length sc) b.gone b.ser b.floor W' (HA.out.2.1.below hb) (HA.out.2.2.below hb));have qa:=af (fun W' hb=>qv.out gn (by omega) (by omega) W' hb);have qb:=af (fun W' hb=>qv.out 3 (by omega) (by omega) W' hb);clear qv HA c2 k2 bL;change Hid (∀W' (hb:Below W.heap.size W W'),Calls _ _ _ W' fun e w'=>e=.returned (.int .i64 (co b gn))/\Below W'.heap.size W' w') at qa;change Hid (∀W' (hb:Below W.heap.size W W'),Calls _ _ _ W' fun e w'=>e=.returned (.int .i64 (co b 3))/\Below W'.heap.size W' w') at qb;change Hid (∀W' (hb:Below W.heap.size W W'),Calls _ _ _ W' fun e w'=>e=.returned (.int .i64 (dr b:Int))/\Below W'.heap.size W' w') at ql;generalize co b gn=v at*;generalize co b 3=v3 at*;generalize (dr b:Int)=li at*;generalize cw gn=lm at*;go_wp2_with fail
  refine(qa.out _ c3).mono ?_;rintro e w4 ⟨rfl,hb4⟩;have c4:=ay c3 hb4;have k4:=ag.below k3 hb4 k3.lt;have l4:=ag.below kL hb4 kL.lt;have y0:=ax k4 0 (.int .i64 b.floor) rfl;have y1:=ax k4 1 (.slice ga b.gone.length gc) rfl;have y2:=ax k4 2 (.slice sa b.ser.length sc) rfl;clear qa hb4 c3 k3 kL;go_wp2_with fail
  refine(qb.out _ c4).mono ?_;rintro e w5 ⟨rfl,hb5⟩;have c5:=ay c4 hb5;have k5:=ag.below k4 hb5 k4.lt;have l5:=ag.below l4 hb5 l4.lt;clear qb hb5 c4 k4 l4 y0 y1 y2;by_cases h3:v3=0
  ·obtain⟨hd,hv⟩:=HL.out.2 h3;subst h3;have g0:=aj (ax k5 0 (.int .i64 b.floor) rfl);have g1':=aj (ax k5 1 (.slice ga b.gone.length gc) rfl);have g2':=aj (ax k5 2 (.slice sa b.ser.length sc) rfl);have gl:=aj ((ag.cell l5 gn).trans hlm);have hlt:(gn:Int)<4:=by omega
   have HC5:=af c5;have qL:=af (fun W' (hW:bZ w5 W')=>(ql.out W' (ay c5 hW)).mono fun e w' (h:e=.returned (.int .i64 li)/\Below W'.heap.size W' w')=>(show e=.returned (.int .i64 li)/\bZ W' w' from⟨h.1,h.2⟩));clear HL hlm k5 l5 c5 ql;rcases hv with rfl|rfl
   ·have f1:decide (li<=lm)=true:=by rw[<-hd];rfl
    clear hd;go_wp2_with fail
    refine kN ?_;iterate 5 (refine bH fun K hK=>?_;go_big_quiet_step (fail);refine hK _ ?_;clear hK K)
    (refine fP (f:=17) (args:=#[.agg #[.int .i64 b.floor,.slice ga b.gone.length gc,.slice sa b.ser.length sc]]) (v:=.int .i64 li) (fun W hW=>qL.out W hW) fun K hK=>?_;go_big_quiet_step (fail);refine hK _ ?_;clear hK K);iterate 11 (refine bH fun K hK=>?_;go_big_quiet_step (fail);refine hK _ ?_;clear hK K)
    iterate 2 (refine Bo fun K hK=>?_;go_big_quiet_step (fail);refine hK _ ?_;clear hK K)
    iterate 2 (refine bH fun K hK=>?_;go_big_quiet_step (fail);refine hK _ ?_;clear hK K)
    refine eF ?_;intro W6 hW6;simp only[az];have c6:=HC5.out.trans (Below.mono hW6 HC5.out.size);go_wp2_with fail
    go_ret;exact⟨rfl,c6⟩
   ·have f1:decide (li<=lm)=false:=by rw[<-hd];rfl
    clear hd;go_wp2_with fail
    refine kN ?_;iterate 5 (refine bH fun K hK=>?_;go_big_quiet_step (fail);refine hK _ ?_;clear hK K)
    (refine fP (f:=17) (args:=#[.agg #[.int .i64 b.floor,.slice ga b.gone.length gc,.slice sa b.ser.length sc]]) (v:=.int .i64 li) (fun W hW=>qL.out W hW) fun K hK=>?_;go_big_quiet_step (fail);refine hK _ ?_;clear hK K);iterate 15 (refine bH fun K hK=>?_;go_big_quiet_step (fail);refine hK _ ?_;clear hK K)
    refine eF ?_;intro W6 hW6;simp only[az];have c6:=HC5.out.trans (Below.mono hW6 HC5.out.size);go_wp2_with fail
    go_ret;exact⟨rfl,c6⟩
  ·have h0:=HL.out.1 h3;have f1:(v3 != 0)=true:=by simpa using h3
   have f2:decide (v3=0)=false:=decide_eq_false h3;have f3:(v3==0)=false:=by simpa using h3
   have f4:(v != 0)=true:=by simpa using h0
   have f5:decide (v=0)=false:=decide_eq_false h0;have f6:(v==0)=false:=by simpa using h0
   clear HL h3 h0;go_wp2_with fail
   go_ret;exact⟨rfl,c5⟩
 ·have hcs:fw=false\/(fw=true/\decide (g<1)=true)\/(fw=true/\decide (g<1)=false/\decide (3<g)=true):=by
   cases fw with
   |false=>exact .inl rfl
   |true=>
    by_cases h1:g<1
    ·exact .inr (.inl ⟨rfl,decide_eq_true h1⟩)
    ·have h3:¬g<=3:=fun h=>hl ⟨rfl,by omega,h⟩;exact .inr (.inr ⟨rfl,decide_eq_false h1,decide_eq_true (by omega)⟩)
  clear hl HFW;rcases hcs with rfl|⟨rfl,h1⟩|⟨rfl,h1,h2⟩
  ·go_wp2_with fail
   go_ret;exact⟨rfl,c2⟩
  ·go_wp2_with fail
   go_ret;exact⟨rfl,c2⟩
  ·go_wp2_with fail
   go_ret;exact⟨rfl,c2⟩
end
section
open Go.RowKit Go.WideShapes Go.ChangeShapes
section
variable {H:Type} {enc:TypeId×Value->H} {P:Program}
theorem Ip{f:Func}{s:ChangeSpec}{apart fresh handsOn again:Bool}{W W':World}{args:Array Value}{v:Value}{ds gs:List (DataW H)}{before pa pv:List MemPlace}
 (hW:DataW.Whole enc P f.params.toList s.vars apart W args.toList ds gs before)
 (hres:∀(b:Nat) (sp:Nat->Bool) (hd:Bool),DataW.TrodAll enc P W' b sp hd f.resultTypes.toList (v.resultList f.resultTypes.size) (s.fn H (ds++gs)).results [])
 (hargs:∀sp:Nat->Bool,(∀p∈before,sp p.block=true)->DataW.TrodAll enc P W' 0 sp true f.params.toList args.toList (s.fn H (ds++gs)).args pa)
 (hvars:∀sp:Nat->Bool,(∀p∈before,sp p.block=true)->DataW.TrodVars enc P W' sp s.vars (s.fn H (ds++gs)).vars pv)
 (hps:before=pa++pv) (hb:Below W.heap.size W W')
 (hok:∀(j:Nat) (t:TypeId) (r:Value),f.resultTypes[j]?=some t->(v.resultList f.resultTypes.size)[j]?=some r->Value.okWide P W' .any 0 t r):
 s.post enc P f apart fresh handsOn again W args v W':=by
 have hlt:∀p∈before,p.block<W.heap.size:=fun p hp=>hW.lt p hp
 have hold:∀p∈before,(fun b=>decide (b<W.heap.size)) p.block=true:=fun p hp=>by simpa using hlt p hp
 refine⟨ds,gs,before,[],pa,pv,hW,hres _ _ _,hargs _ hold,hvars _ hold,World.keptBut_mono (fun p hp=>⟨hp,?_⟩) (hb.frame (·∈before)),fun _=>?_⟩
 ·rw[hps,List.mem_append] at hp;exact Or.inr hp
 ·obtain⟨_,_,_,_,_,hz,hn⟩:=hW;refine⟨hok,_,_,([]++pa)++pv,⟨[]++pa,pv,trodAll_append (hargs _ (fun _ _=>rfl)) (hres _ _ _),hvars _ (fun _ _=>rfl),rfl,?_,?_⟩,?_⟩
  ·intro b off hp;have hin:MemPlace.cell b off∈before:=by rw[hps];simpa using hp
   rw[hb.frozen (hlt _ hin)];exact hz b off hin
  ·intro ha;have:=hn ha;rw[hps] at this;simpa using this
  ·intro p hp _;rw[hps];simpa using hp
end
end
end Go.Proofs.YtcdgfajdlaeodaaGreatDoor
