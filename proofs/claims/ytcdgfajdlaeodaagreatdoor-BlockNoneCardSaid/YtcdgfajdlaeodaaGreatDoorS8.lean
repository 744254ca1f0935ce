/- Part 8 of the proof: contracts of functions, and plain laws. -/
import Derived.Test.YtcdgfajdlaeodaaGreatDoorS7
set_option maxRecDepth 100000
set_option maxHeartbeats 4000000
namespace Go.Proofs.YtcdgfajdlaeodaaGreatDoor
section
open Go.RowKit Go.Maps Go.WideMaps
attribute [local go_sem] am aq
theorem Ah{w:World}{T:TypeId}{B n:Nat}{v:Value}{Z:List (En×Value)}(h:w.ownsRow B T 4 v n (eh Z))(hzn:Z.length=n)(hn:Z.length<=100000)(hl:∀z∈Z,z.1.ok/\aC w z.2 z.1.labels):dR w v (Z.map (·.1)):=by
 subst hzn;have hcells:∀g,v.ownBlock=some g->∀j u,(eh Z)[j]?=some u->w.cell? ((⟨g,0,none⟩:Addr).add j)=some u:=fun g hg=>h.cells (g:=g) hg;rcases h.2 with⟨e,e0⟩|⟨g,cap,cur,e,e1,e2,e3,_⟩
 ·refine⟨none,0,by rw[e,List.length_map,e0],fun _=>rfl,by rwa[List.length_map],by rw[List.length_map,e0];exact aF _,fun i x hx=>?_⟩;rw[List.length_eq_zero_iff.1 e0] at hx;simp at hx
 ·refine⟨some ⟨g,0,none⟩,cap,by rw[List.length_map];exact e,(fun e=>by cases e),by rwa[List.length_map],by rw[List.length_map];exact e3,fun i x hx=>?_⟩;rw[List.getElem?_map] at hx;cases hz:Z[i]? with
  |none=>rw[hz] at hx;cases hx
  |some z=>
   rw[hz] at hx;obtain rfl:z.1=x:=by simpa using hx
   obtain⟨hok,hL⟩:=hl z (List.mem_of_getElem? hz);have hc:∀j u,(FY z.2 z.1)[j]?=some u->w.cell? ⟨g,0+i*4+j,none⟩=some u:=fun j u hj=>by
    have:=hcells g (by rw[e];rfl) (i*4+j) u (lz Z i z hz j u hj);rw[eY] at this;rw[show 0+i*4+j=i*4+j by omega];simpa using this
   obtain⟨la,lc,hv,h2,h3⟩:=hL;exact⟨hok,g,0,rfl,la,lc,by rw[<-hv];exact hc 0 _ rfl,⟨la,lc,rfl,h2,by rw[<-hv] at*;exact h3⟩,hc 1 _ rfl,hc 2 _ rfl,hc 3 _ rfl⟩
def Fq (la:Option Addr)(n lc:Nat)(a b c:Int):List Value:=[.slice la n lc,.int .i64 a,.int .i64 b,.int .i64 c]
theorem CK(b n c:Nat)(a:Option Addr)(w:World)(h:w.cell? ⟨b,1,none⟩=some (.slice a n c)):
 Calls Tryz.prog 36 #[.pointer (some ⟨b,0,none⟩)] w fun e w'=>e=.returned (.int .i64 (n:Int))/\w'=w:=by
 go_enter Tryz.func36,Tryz.ntmps36
 go_wp2
 go_ret
 exact⟨rfl,rfl⟩
theorem Iw{B b:Nat}{l:List UInt8}{w:World}(h:bU B b l w):∃a c,w.cell? ⟨b,1,none⟩=some (.slice a l.length c):=by
 have key:∀{p:Value},Lib.BuilderAtF 84 5 B b p (Lib.byteCells l) w->∃a c,w.cell? ⟨b,1,none⟩=some (.slice a l.length c):=fun {p} ⟨_,v,h2,h3,_⟩=>by
  have hc:w.cell? ⟨b,1,none⟩=some v:=(cell_of_row w b 1 _ _ _ h2).trans rfl;have hn:=Lib.byteCells_length l;rcases h3.2 with⟨e,h0⟩|⟨g,cap,cur,fz,e,_⟩
  ·rw[hn] at h0;exact⟨none,0,by rw[hc,e,h0]⟩
  ·rw[hn] at e;exact⟨_,_,by rw[hc,e]⟩
 exact h.elim key key
theorem E6(W:World):jC W (.slice none 0 0) []:=⟨none,0,rfl,by simp,fun i x hx=>by simp at hx⟩
theorem yI{g:Int}{K:List (List UInt8)}{R:List Rc}(h:(dd g K R).2.1=none):(dd g K R).2.2≠0:=by
 unfold dd at h⊢;split
 ·exact(show (1:Int)≠0 by decide)
 ·rename_i h1;rw[if_neg h1] at h;split
  ·rename_i h2;exact h2
  ·rename_i h2;rw[if_neg h2] at h;generalize iP g K R=p at*;obtain⟨a,b⟩:=p;cases a with
   |none=>exact(show (7:Int)≠0 by decide)
   |some s=>cases h
theorem un(g:Int)(x:aO):∀(S:List aO) (o:Nat),eW g o (S++[x])=eW g o S++[⟨x.labels,x.last,((o+(ij g S).length:Nat):Int),((fh x.samples g).1.length:Nat)⟩]
 |[],o=>rfl
 |y::S,o=>by
  rw[List.cons_append,eW,eW,un g x S,List.cons_append];unfold ij;rw[List.flatMap_cons,aG,Nat.add_assoc]
theorem ym(g:Int)(x:aO)(S:List aO):ij g (S++[x])=ij g S++(fh x.samples g).1:=by
 unfold ij;rw[List.flatMap_append];simp
theorem GC{b:nd}{g:Int}(h:dB b g≠0):ia b g=([],dB b g):=by unfold ia;rw[if_pos h]
theorem Er{b:nd}{g:Int}(h:dB b g=0)(h2:(dd g [] b.gone).2.1=none):ia b g=([],7):=by
 unfold ia;rw[if_neg (by simp[h])];rcases hp:dd g [] b.gone with⟨s,K,e⟩
 rw[hp] at h2;simp only at h2;subst h2;rfl
theorem Es{b:nd}{g e:Int}{s:List UInt8}{K:List (List UInt8)}(h:dB b g=0)(h2:dd g [] b.gone=(s,some K,e)):ia b g=(uC b g s,0):=by
 unfold ia;rw[if_neg (by simp[h]),h2]
theorem m6(gv sv:Value)(b:nd)(g:Int)(w:World)(h:jE w gv sv b)(g1: -9223372036854775808<=g)(g2:g<=9223372036854775807)(hT:Tb w)(hg64:1<w.heap.size):
 Calls Tryz.prog 11 #[.agg #[.int .i64 b.floor,gv,sv],.int .i64 g] w fun e w'=>e=.returned (.tuple #[.string (bs (ia b g).1),.int .i64 (ia b g).2])/\Below w.heap.size w w':=by
 obtain⟨f,R,S⟩:=b
 obtain⟨hf,hR,hS⟩:=h
 simp only at hf hR hS⊢
 have HIN:=af (info_parts (show (Tryz.prog.info? 92).map (fun i=>(i.zero,i.size,i.bytes))=some (some (.agg #[.slice none 0 0,.int .i64 0,.int .i64 0,.int .i64 0]),4,48) by kernel_rfl))
 have b0:=ai w (.cells #[.int .i64 f,gv,sv] 25)
 have k0:=ag.new w 25 #[.int .i64 f,gv,sv]
 have q1:=af (fun W (hb:Below w.heap.size w W)=>uK gv sv R S f g W (hR.below hb) (hS.below hb) g1 g2)
 have HRS:=af (And.intro hR hS)
 obtain⟨ra,rc,rfl,hRl,_⟩:=id hR
 obtain⟨sa,sc,rfl,hsn,hSl,hSc,hx⟩:=id hS
 have HX:=af hx
 clear hR hS hx hsn
 by_cases hv:dB ⟨f,R,S⟩ g=0
 ·have HVP:=af (ow hv);have HBAD:=af (fun h2=>Er hv h2);have HGOOD:=af (fun (e:Int) (s:List UInt8) (K:List (List UInt8)) (h2:dd g [] R=(s,some K,e))=>Es (b:=⟨f,R,S⟩) hv h2);have hge:=af (A3 hv);rw[hv] at q1;obtain⟨⟨hga,hgb⟩,htf,hrl,hsl,_⟩:=HVP.out;simp only at htf hrl hsl;obtain⟨hf0,hf1⟩:=(qJ f).1 htf;obtain⟨fn,rfl⟩:∃n:Nat,f=n:=⟨f.toNat,by omega⟩
  clear hv htf hf;have hfu:aS (fn:Int)=fn:=by unfold aS;omega
  have hfw:IntKind.u64.wrap (fn:Int)=(fn:Int):=by rw[dF,hfu]
  have q2:=af (fun W=>aT (fn:Int) W (by omega) (by omega));have q3:=af (fun W=>cG (fn:Int) W (by omega) (by omega));rw[Int.toNat_natCast] at q2 q3;have q4:=af (fun W (hb:Below w.heap.size w W)=>JW g (.slice none 0 0) (.slice ra R.length rc) [] R W (E6 W) (HRS.out.1.below hb) (by simp) (by omega) g1 g2);unfold eo at q4;have HFL:=af (show pT (fn:Int) g=if g=1 then Num.wide fn else Num.small fn by unfold pT;rw[hfu]);have HFG:=af (show Cq ⟨(fn:Int),R,S⟩=(if R.length=0 then 0 else 1)+(if 0<fn then 2 else 0) by
   unfold Cq
   simp only[List.length_eq_zero_iff]
   congr 1
   by_cases h0:0<fn
   ·rw[if_pos h0,if_pos (by omega)]
   ·rw[if_neg h0,if_neg (by omega)])
  clear hfu;have Hb0:=af b0;have HTT:=af (And.intro hT hg64);clear hT hg64;generalize hrn:R.length=rn at*;have HRN:=af hrn;clear hrn;go_enter Tryz.func11,Tryz.ntmps11
  go_wp2_with fail
  refine(q1.out _ b0).mono ?_;rintro e w1 ⟨rfl,hb1⟩;have c1:=ay b0 hb1;have k1:=ag.below k0 hb1 k0.lt;have p0:=ax k1 0 (.int .i64 (fn:Int)) rfl;clear q1 hb1 b0 k0;go_wp2_with fail
  refine(q2.out _).mono ?_;rintro e w2 ⟨rfl,hb2⟩;have c2:=ay c1 hb2;have k2:=ag.below k1 hb2 k1.lt;have p0:=ax k2 0 (.int .i64 (fn:Int)) rfl;have p1:=ax k2 1 (.slice ra rn rc) rfl;clear q2 hb2 c1 k1;go_upto_if 33 with fail
  have HK:=af (And.intro k2 c2);obtain⟨fa,hfa⟩:∃x:Nat,(if rn=0 then 0 else 1)=x:=⟨_,rfl⟩
  rw[hfa] at HFG;have HFA:=af hfa;have hfa1:fa<=1:=by rw[<-hfa];split<;>omega
  clear hfa k2 c2;go_cut [7] (fun fv wx=>fv=.int .i64 (fa:Int)/\w2=wx)
  case first=>
   have hfa:=HFA.out;clear HFA;rcases Nat.eq_zero_or_pos rn with h0|h0
   ·subst h0;obtain rfl:fa=0:=hfa.symm;clear hfa hfa1;go_wp2_with fail
    go_meet;exact⟨rfl,rfl⟩
   ·have e1:decide ((0:Int)<(rn:Int))=true:=by simp;omega
    have e2:decide (0<rn)=true:=by simpa using h0
    rw[if_neg (by omega)] at hfa;subst hfa;clear hfa1;go_wp2_with fail
    go_meet;exact⟨rfl,rfl⟩
  case rest=>
   obtain⟨rfl,rfl⟩:=hcut;clear HFA;obtain⟨fb,hfb⟩:∃x:Nat,fa+(if 0<fn then 2 else 0)=x:=⟨_,rfl⟩
   rw[hfb] at HFG;have HFB:=af hfb;have hfb1:fb<=3:=by rw[<-hfb];split<;>omega
   clear hfb;go_upto_if 38 with fail
   go_cut [7] (fun fv wx=>fv=.int .i64 (fb:Int)/\w2=wx)
   case first=>
    have hfb:=HFB.out;clear HFB;by_cases h0:0<fn
    ·have e1:decide ((0:Int)<(fn:Int))=true:=by simp;omega
     have e2:decide (0<fn)=true:=by simpa using h0
     rw[if_pos h0] at hfb;have ho:∀k:Nat,k<=1->bits BinOp.or IntKind.i64 (k:Int) 2=((k+2:Nat):Int):=fun k hk=>by
      rcases(show k=0\/k=1 by omega) with rfl|rfl<;>kernel_rfl
     have ho1:=ho fa hfa1;rw[hfb] at ho1;clear ho hfb;go_wp2_with fail
     go_meet;exact⟨rfl,rfl⟩
    ·have e1:decide ((0:Int)<(fn:Int))=false:=by simp;omega
     have e2:decide (0<fn)=false:=by simpa using h0
     rw[if_neg h0] at hfb;obtain rfl:fa=fb:=hfb;go_wp2_with fail
     go_meet;exact⟨rfl,rfl⟩
   case rest=>
    obtain⟨rfl,rfl⟩:=hcut;clear HFB;obtain⟨FL,hFL⟩:∃x,pT (fn:Int) g=x:=⟨_,rfl⟩
    have hfl10:=Co (fn:Int) g;rw[hFL] at HFL hfl10;have HFLB:=af hFL;clear hFL;go_upto_if 42 with fail
    go_cut [8] (fun xv wx=>xv=.string (bs FL)/\Below w.heap.size w wx/\ag wx w.heap.size 25 #[.int .i64 (fn:Int),.slice ra rn rc,.slice sa S.length sc])
    case first=>
     have hfl:=HFL.out;clear HFL;obtain⟨k2,c2⟩:=HK.out;by_cases h1:g=1
     ·rw[if_pos h1] at hfl;subst h1;subst hfl;go_wp2_with fail
      refine(q3.out _).mono ?_;rintro e w3 ⟨rfl,hb3⟩;have HM:=af (And.intro (ay c2 hb3) (ag.below k2 hb3 k2.lt));clear hb3 k2 c2;go_wp2_with fail
      go_meet;exact⟨rfl,HM.out⟩
     ·rw[if_neg h1] at hfl;subst hfl;have e1:(g==1)=false:=by simpa using h1
      have e2:decide (g=1)=false:=decide_eq_false h1;have HM:=af (And.intro c2 k2);clear h1 k2 c2;go_wp2_with fail
      go_meet;exact⟨rfl,HM.out⟩
    case rest=>
     obtain⟨rfl,c3,k3⟩:=hcut;clear HFL HK q3 p0 p1;have p1:=ax k3 1 (.slice ra rn rc) rfl;go_wp2_with fail
     refine(q4.out _ c3).mono ?_;rintro e w4 ⟨hb4,hpi⟩;obtain⟨⟨gs,ko,er⟩,hw⟩:∃p,dd g [] R=p:=⟨_,rfl⟩
     have hne:=yI (g:=g) (K:=[]) (R:=R);have hsm:=qG g [] R;rw[hw] at hpi HBAD hne;simp only at hpi HBAD hne;have c4:=ay c3 hb4;have k4:=ag.below k3 hb4 k3.lt;clear q4 hb4 p1 c3 k3;cases ko with
     |none=>
      obtain rfl:=hpi;have hz:=hne rfl;have e1:(er != 0)=true:=by simpa using hz
      have e2:decide (er=0)=false:=decide_eq_false hz;have e3:(er==0)=false:=by simpa using hz
      have HP:=af (HBAD.out rfl);have c5:=c4.alloc c4.size (.cells #[.int .i64 g,.slice none 0 0] 78);clear hne HBAD HGOOD hsm;unfold eo;go_wp2_with fail
      go_ret2;exact⟨by rw[HP.out];rfl,c5⟩
     |some K'=>
      obtain⟨kv',rfl,hkv,_⟩:=hpi;obtain⟨ka,kc,rfl,_⟩:=id hkv;obtain⟨_,_,_,her⟩:=hsm gs K' er hw;subst her;have HPUT:=af (HGOOD.out _ _ _ hw);have hgl:=IY (by rw[HRN.out];exact hrl) hw;clear hne HBAD HGOOD hsm hkv hw;obtain⟨gn,rfl⟩:∃n:Nat,g=n:=⟨g.toNat,by omega⟩
      have B5:=bU.fresh (w4.alloc (.cells #[.int .i64 (gn:Int),.slice ka K'.length kc] 78));have c5a:=c4.alloc c4.size (.cells #[.int .i64 (gn:Int),.slice ka K'.length kc] 78);have c5:=c5a.alloc c5a.size (.cells #[.pointer none,.slice none 0 0] 84);have k5:=ag.alloc (ag.alloc k4 (.cells #[.int .i64 (gn:Int),.slice ka K'.length kc] 78)) (.cells #[.pointer none,.slice none 0 0] 84);have p2:=ax k5 2 (.slice sa S.length sc) rfl;have hw4:=c4.size;clear c5a k4 c4;unfold eo;have HPK:=af (show ia ⟨(fn:Int),R,S⟩ (gn:Int)=(uC ⟨(fn:Int),R,S⟩ (gn:Int) gs,0) from HPUT.out);have HOD:=af HVP.out.2.2.2.2.2.1;clear HPUT HVP;generalize hN:S.length=N at*;have HN:=af hN;clear hN;go_wp2_with fail
      have hbb:(w4.alloc (.cells #[.int .i64 (gn:Int),.slice ka K'.length kc] 78)).heap.size=w4.heap.size+1:=aW _ _;rw[hbb] at B5;have hb5:w4.heap.size+2<=((w4.alloc (.cells #[.int .i64 (gn:Int),.slice ka K'.length kc] 78)).alloc (.cells #[.pointer none,.slice none 0 0] 84)).heap.size:=by rw[aW,aW];omega
      generalize hW5:(w4.alloc (.cells #[.int .i64 (gn:Int),.slice ka K'.length kc] 78)).alloc (.cells #[.pointer none,.slice none 0 0] 84)=w5 at*;obtain⟨bb,hb⟩:∃x,w4.heap.size+1=x:=⟨_,rfl⟩
      rw[hb] at B5⊢;have hbw:w.heap.size<bb/\bb<w5.heap.size:=by omega
      clear hbb hW5 hb5 hw4 hb p2 k5;go_loopw [13,61] (fun lv vi wr=>∃(i:Nat) (Z:List (En×Value)) (C:List UInt8),i<=N/\vi=.int .i64 (i:Int)/\bU bb bb C wr/\wr.ownsRow (bb+1) 92 4 lv i (eh Z)/\(∀z∈Z,z.1.ok/\aC w z.2 z.1.labels)/\Below w.heap.size w wr/\bb<wr.heap.size/\C.length<=i*5004/\Hid (Z.length=i/\C=ij gn (S.take i)/\Z.map (fun z=>z.1)=eW gn 0 (S.take i))) (fun _ vi _=>N-(intOf vi).toNat)
      case atStart=>exact⟨0,[],[],Nat.zero_le _,rfl,B5,eE,by simp,c5,hbw.2,by simp,af ⟨rfl,rfl,rfl⟩⟩
      have hbw1:=hbw.1;clear B5 c5 hbw;obtain⟨i,Z,C,hi,rfl,hB,hrow,hZ,b3,b4,hC,HS⟩:=hrel;rcases(show i<N\/i=N by omega) with hil|rfl
      ·have hiS:i<S.length:=by rw[HN.out];exact hil
       obtain⟨b,o,rfl,hok,sl,ssv,d0,hL,d1,hM,d2⟩:=HX.out i S[i] (aV hiS);have hodd:=HOD.out S[i] (dK hiS);have hTS:=(eM hiS)
       have HE:=af (show eW gn 0 (S.take (i+1))=eW gn 0 (S.take i)++[⟨S[i].labels,S[i].last,((0+(ij gn (S.take i)).length:Nat):Int),((fh S[i].samples gn).1.length:Nat)⟩] by rw[hTS];exact un gn S[i] (S.take i) 0);have HC:=af (show ij gn (S.take (i+1))=ij gn (S.take i)++(fh S[i].samples gn).1 by rw[hTS];exact ym gn S[i] (S.take i));rw[<-HS.out.2.1,<-HS.out.2.2] at HE;rw[<-HS.out.2.1] at HC;generalize S[i]=x at*;clear hTS hiS;obtain⟨xl,xm,xt⟩:=x;obtain⟨_,_,hml,_⟩:=oQ hodd;simp only at hok d0 d1 d2 hL hM hml HE HC;obtain⟨la,lc,rfl,_⟩:=id hL;obtain⟨ma,mc,rfl,_⟩:=id hM;have e0:=cu b3 d0;have e1:=cu b3 d1;have e2:=cu b3 d2;have kA:=ag.new wr 88 #[.slice la xl.length lc,.slice ma xm.length mc,.int .i64 xt];have bA:=ai wr (.cells #[.slice la xl.length lc,.slice ma xm.length mc,.int .i64 xt] 88);have bAw:=ay b3 bA;have q:=af (C9 (.slice ma xm.length mc) xm (gn:Int) _ (hM.below bAw) (HTT.out.1.below bAw HTT.out.2) (dQ HTT.out.2 bAw.size));have hcl:=uz (l:=xm) (g:=(gn:Int)) hml;obtain⟨⟨cb,ce⟩,hcp⟩:∃p,fh xm (gn:Int)=p:=⟨_,rfl⟩
       rw[hcp] at q hcl HE HC;simp only at q hcl HE HC;have HL:=af (And.intro hL (And.intro hok hZ));clear d0 d1 d2 hL hM hodd hml hcp bAw hok hZ;obtain⟨y0,y1,y2⟩:(wr.alloc (.cells #[.slice la xl.length lc,.slice ma xm.length mc,.int .i64 xt] 88)).cell? ⟨wr.heap.size,0,none⟩=some (.slice la xl.length lc)/\(wr.alloc (.cells #[.slice la xl.length lc,.slice ma xm.length mc,.int .i64 xt] 88)).cell? ⟨wr.heap.size,1,none⟩=some (.slice ma xm.length mc)/\(wr.alloc (.cells #[.slice la xl.length lc,.slice ma xm.length mc,.int .i64 xt] 88)).cell? ⟨wr.heap.size,2,none⟩=some (.int .i64 xt):=⟨(ag.cell kA 0).trans rfl,(ag.cell kA 1).trans rfl,(ag.cell kA 2).trans rfl⟩
       obtain⟨va,vc,rfl⟩:=aH hrow;go_wp2_with fail
       refine bL q.out fun w7 hb7=>?_;have b7:=ay bA hb7;have k7:=ag.below kA hb7 kA.lt;have row7:=aw hrow (ak.of_below (S:=fun _=>False) b7) (fun _ _ e=>e);have B7:=hB.below b7;have hbn:bb<w7.heap.size:=dQ b4 b7.size;have hlo:∀k,(Value.slice va i vc).ownBlock=some k->bb+1<=k/\k<wr.heap.size:=fun k e=>hrow.lt k e;have c7:=ay b3 b7;obtain⟨ba,bc,hbc⟩:=Iw B7;clear q e0 e1 e2 y0 y1 y2 kA bA hb7 b7 hB hrow b3 b4;have hne:∀k,k<bb+1\/wr.heap.size<=k->some k≠(Value.slice va i vc).ownBlock:=fun k hk e=>by have:=hlo k e.symm;omega
       have g0:=pu (row:=(Value.slice va i vc).ownBlock) (fin:=bj w7 (.slice va i vc) 4 i (Fq la xl.length lc xt C.length cb.length)) (ax k7 0 (.slice la xl.length lc) rfl) (hne _ (.inr (aF _)));have g2:=pu (row:=(Value.slice va i vc).ownBlock) (fin:=bj w7 (.slice va i vc) 4 i (Fq la xl.length lc xt C.length cb.length)) (ax k7 2 (.int .i64 xt) rfl) (hne _ (.inr (aF _)));have gB:=af (fun W (hW:lZ (Value.slice va i vc).ownBlock (bj w7 (.slice va i vc) 4 i (Fq la xl.length lc xt C.length cb.length)) w7 W)=>lZ.cell hW hbc (hne bb (.inl (Nat.lt_succ_self _))));have hltr:∀k,(Value.slice va i vc).ownBlock=some k->k<w7.heap.size:=fun k e=>(row7.lt k e).2;have ⟨i0,hin,hz0,hz1,hz2⟩:=HIN.out;clear hbc;go_wp2_with fail
       refine nf (R:=lZ (Value.slice va i vc).ownBlock (bj w7 (.slice va i vc) 4 i (Fq la xl.length lc xt C.length cb.length))) (by kernel_rfl) (by kernel_rfl) rfl (by kernel_rfl) ?_;iterate 5 (refine bJ fun K hK=>?_;go_big_quiet_step (fail);refine hK _ ?_;clear hK K)
       (refine fS (f:=36) (args:=#[.pointer (some ⟨bb,0,none⟩)]) (v:=.int .i64 (C.length:Int)) (fun W hW=>(CK bb C.length bc ba W (gB.out W hW)).mono fun e w' h=>⟨h.1,by rw[h.2];exact⟨⟨rfl,rfl,rfl,aF _,fun _ _ _=>rfl⟩,fun _ _=>.inl rfl⟩⟩) fun K hK=>?_;go_big_quiet_step (fail);refine hK _ ?_;clear hK K)
       (refine bJ fun K hK=>?_;go_big_quiet_step (fail);refine hK _ ?_;clear hK K)
       (refine nw (v:=.int .i64 (cb.length:Int)) (fun _ _=>by go_simp) fun K hK=>?_;go_big_quiet_step (fail);refine hK _ ?_;clear hK K)
       (refine nw (v:=.agg #[.slice la xl.length lc,.int .i64 xt,.int .i64 (C.length:Int),.int .i64 (cb.length:Int)]) (fun _ _=>by go_simp) fun K hK=>?_;go_big_quiet_step (fail);refine hK _ ?_;clear hK K);refine vT (m:=1) (news:=Fq la xl.length lc xt C.length cb.length) hltr (by kernel_rfl) (fun _ _ h=>by cases h) (by kernel_rfl) rfl 92 (fun W=>by go_simp;rfl) ?_;refine Dw (s:=72) (x:=81) (t:=85) (e:=92) (i:=i0) (z:=.agg #[.slice none 0 0,.int .i64 0,.int .i64 0,.int .i64 0]) (bytes:=48) rfl rfl rfl Tryz.underlying85 hin hz0 hz1 hz2 rfl (by decide) rfl rfl rfl row7 rfl (by simp[Value.oneCell',Fq]) (by unfold maxLen;omega) (by omega) hbn ?_;refine eR ?_;rintro W8 hW8;simp only[aB];rintro v' ⟨hown',_⟩ z _;obtain⟨va',vc',rfl⟩:=aH hown';simp only[Act.put,List.setIfInBounds_toArray,List.set_cons_succ,List.set_cons_zero];have hk8:ak w7 W8 (fun k=>(Value.slice va i vc).ownBlock=some k):=ak.of_grown hW8.1 (fun k e=>e);have B8:=mE B7 hk8 (fun e=>by have:=hlo _ e;omega) (fun k e=>by rw[bg row7 e];decide);have c8:=c7.trans (hk8.below c7.size fun k e=>by have:=hlo k e;omega);have hb8:bb<W8.heap.size:=dQ hbn hk8.size;have qw:=af (cS bb bb C cb W8 B8 (by omega) (Nat.le_of_lt hb8));have HO:=af hown';clear g0 g2 gB hW8 hltr hin hz0 hz1 hz2 hne hlo row7 k7 B7 B8 hk8 c7 hbn hown';go_wp2_with fail
       refine qw.out.mono ?_;rintro e w9 ⟨rfl,B9,hk9⟩;have row9:=hk9.row HO.out (fun e=>by have:=(HO.out.lt _ e).1;omega) (by decide);have c9:=c8.trans (hk9.1.mono (by omega));have hb9:bb<w9.heap.size:=dQ hb8 hk9.1.size;have HR9:=af (show w9.ownsRow (bb+1) 92 4 (.slice va' (i+1) vc') (i+1) (eh (Z++[((⟨xl,xt,(C.length:Nat),(cb.length:Nat)⟩:En),Value.slice la xl.length lc)])) by rw[<-nC];exact row9);have HB9:=af B9;have HZ9:=af (show ∀z∈Z++[((⟨xl,xt,(C.length:Nat),(cb.length:Nat)⟩:En),Value.slice la xl.length lc)],z.1.ok/\aC w z.2 z.1.labels from fun z hz=>by
        rcases List.mem_append.1 hz with hz|hz
        ·exact HL.out.2.2 z hz
        ·obtain rfl:=List.mem_singleton.1 hz
         refine⟨⟨HL.out.2.1.2,⟨?_,?_⟩,?_,?_⟩,HL.out.1⟩<;>simp only<;>omega)
       have HH:=af (show (Z++[((⟨xl,xt,(C.length:Nat),(cb.length:Nat)⟩:En),Value.slice la xl.length lc)]).length=i+1/\C++cb=ij gn (S.take (i+1))/\(Z++[((⟨xl,xt,(C.length:Nat),(cb.length:Nat)⟩:En),Value.slice la xl.length lc)]).map (fun z=>z.1)=eW gn 0 (S.take (i+1)) from⟨by rw[aG,HS.out.1];rfl,HC.out.symm,by rw[HE.out,List.map_append,Nat.zero_add];rfl⟩);clear row9 B9 hk9 qw HO HL HS HC HE c8 hb8;go_wp2_with fail
       go_roundw
       case rel=>exact⟨i+1,_,C++cb,hil,by go_num,HB9.out,HR9.out,HZ9.out,c9,hb9,by rw[aG];omega,HH⟩
       case measure=>simp[intOf];omega
      ·have hSi:S.take i=S:=by rw[<-HN.out];exact List.take_length
       obtain⟨va,vc,rfl⟩:=aH hrow;have hEA:=Ah hrow HS.out.1 (by rw[HS.out.1];omega) (fun z hz=>⟨(hZ z hz).1,(hZ z hz).2.below b3⟩);rw[HS.out.2.2,hSi] at hEA;have hCC:=HS.out.2.1;rw[hSi] at hCC;have q5:=af (AN (eW gn 0 S) (.slice va i vc) (gn:Int) wr hEA g1 g2);unfold qW at q5;have hpl:(ls (eW gn 0 S) gn).1.length<=1048576:=by
        rw[xJ hge.out];have h1:=Aw _ _ hge.out;have h2:=dP (kP (eW gn 0 S) gn);simp only[aG];omega
       have HBD:=af (show uC ⟨(fn:Int),R,S⟩ (gn:Int) gs=(((eU ex gn fb++bM FL)++bM gs)++bM (ls (eW gn 0 S) gn).1)++C by
        unfold uC
        rw[HFG.out,HFLB.out,hCC,Int.toNat_natCast])
       obtain⟨⟨wh,ei⟩,hwh⟩:∃p,ls (eW gn 0 S) gn=p:=⟨_,rfl⟩
       rw[hwh] at q5 HBD hpl;simp only at q5 HBD hpl;have hh:(eU ex gn fb).length=10:=by
        unfold eU;rw[dA];rfl
       have hp1:(bM FL).length<=100:=by
        have:=Num.small_len FL.length;unfold bM;rw[dA,Num.text_len];omega
       have hp2:(bM gs).length<=2000000:=by
        have:=Num.small_len gs.length;unfold bM;rw[dA,Num.text_len];omega
       have hp3:(bM wh).length<=2000000:=by
        have:=Num.small_len wh.length;unfold bM;rw[dA,Num.text_len];omega
       have qh:=af (fun W=>AO ex gn fb (by omega) (by omega) (by decide) W);have qf1:=af (fun W=>ie FL (by omega) W);have qf2:=af (fun W=>ie gs hgl W);have qf3:=af (fun W=>ie wh hpl W);have qs:=af (fun W (hb:Below wr.heap.size wr W)=>lR bb bb C W (hB.below hb) (aK (Nat.le_of_lt b4) hb.size));unfold ex at qh;clear hwh hSi hEA hCC hrow hB hZ HS HFG HFLB hge hgl hpl HX HOD HN HTT HIN;obtain⟨H,hH⟩:∃x,eU [65,66,76,75] gn fb=x:=⟨_,rfl⟩
       unfold ex at HBD hh;rw[hH] at qh HBD hh;generalize bM FL=P1 at*;generalize bM gs=P2 at*;generalize bM wh=P3 at*;have ha1:∀W,(Op.stringOp .add (bs H) (bs P1)).run Tryz.prog W=.ok (.string (bs (H++P1))) W:=fun W=>aJ (P:=Tryz.prog) _ _ (by omega) W;have ha2:∀W,(Op.stringOp .add (bs (H++P1)) (bs P2)).run Tryz.prog W=.ok (.string (bs ((H++P1)++P2))) W:=fun W=>aJ (P:=Tryz.prog) _ _ (by rw[aG];omega) W;have ha3:∀W,(Op.stringOp .add (bs ((H++P1)++P2)) (bs P3)).run Tryz.prog W=.ok (.string (bs (((H++P1)++P2)++P3))) W:=fun W=>aJ (P:=Tryz.prog) _ _ (by rw[aG,aG];omega) W;have ha4:∀W,(Op.stringOp .add (bs (((H++P1)++P2)++P3)) (bs C)).run Tryz.prog W=.ok (.string (bs ((((H++P1)++P2)++P3)++C))) W:=fun W=>aJ (P:=Tryz.prog) _ _ (by rw[aG,aG,aG];omega) W;have HPK2:=af (show ia ⟨(fn:Int),R,S⟩ (gn:Int)=((((H++P1)++P2)++P3)++C,0) by rw[HPK.out,HBD.out]);clear HPK HBD hH;generalize (H++P1)=X1 at*;generalize (X1++P2)=X2 at*;generalize (X2++P3)=X3 at*;generalize (X3++C)=X4 at*;go_wp2_with fail
       refine bL q5.out fun w5 t5=>?_;clear q5;go_wp2_with fail
       refine(qh.out _).mono ?_;rintro e w6 ⟨rfl,hb6⟩;have t6:=ay t5 hb6;clear qh hb6 t5;go_wp2_with fail
       refine(qf1.out _).mono ?_;rintro e w7 ⟨rfl,hb7⟩;have t7:=ay t6 hb7;clear qf1 hb7 t6;go_wp2_with fail
       refine(qf2.out _).mono ?_;rintro e w8 ⟨rfl,hb8⟩;have t8:=ay t7 hb8;clear qf2 hb8 t7;go_wp2_with fail
       refine(qf3.out _).mono ?_;rintro e w9 ⟨rfl,hb9⟩;have t9:=ay t8 hb9;clear qf3 hb9 t8;go_wp2_with fail
       refine(qs.out _ t9).mono ?_;rintro e wx ⟨rfl,_,hbx⟩;have tx:=(ay b3 t9).trans (hbx.1.mono (by omega));clear qs t9 hbx;go_wp2_with fail
       go_ret2;exact⟨by rw[HPK2.out];rfl,tx⟩
 ·have HP:=af (GC hv);have hv1:(dB ⟨f,R,S⟩ g != 0)=true:=by simpa using hv
  have hv2:decide (dB ⟨f,R,S⟩ g=0)=false:=decide_eq_false hv;have hv3:(dB ⟨f,R,S⟩ g==0)=false:=by simpa using hv
  generalize dB ⟨f,R,S⟩ g=vd at*;clear hv;go_enter Tryz.func11,Tryz.ntmps11
  go_wp2_with fail
  refine(q1.out _ b0).mono ?_;rintro e w1 ⟨rfl,hb1⟩;have c1:=ay b0 hb1;clear q1;go_wp2_with fail
  go_ret2;exact⟨by rw[HP.out];rfl,c1⟩
end
section
open Go.RowKit
attribute [local go_sem] am aq
def C5(r:nd×Nat×Int)(e:Ending)(w':World):Prop:=∃gv sv,e=.returned (.tuple #[.agg #[.int .i64 r.1.floor,gv,sv],.int .i64 (r.2.1:Int),.int .i64 r.2.2])/\jE w' gv sv r.1
theorem lx(x:Int)(w:World):C5 (aY,0,x) (.returned (.tuple #[.agg #[.int .i64 0,.slice none 0 0,.slice none 0 0],.int .i64 0,.int .i64 x])) w:=
 ⟨_,_,rfl,⟨by simp[aY],by simp[aY]⟩,⟨none,0,rfl,by simp[aY],fun i x hx=>by simp[aY] at hx⟩,iu.nil w⟩
theorem iO{P:Program}{fn:Func}{p t u:Tmp}{ty:TypeId}(h:fn.results=#[.cell p ty,.tmp t,.tmp u])(tmps:Array Value)(w:World)(g:Nat)(tb:TypeId)(cs:Array Value)(d:TypeDesc)
 (hp:tmps.getD p undef=.pointer (some ⟨g,0,none⟩)) (hg:ag w g tb cs)
 (hu:P.underlying ty=some d) (hd:(match d with|.struct _|.array _ _=>true|_=>false)=true) (hi:(P.info? ty).map (·.size)=some cs.size):
 (results fn tmps).run P w=.ok (.tuple #[.agg cs,tmps.getD t undef,tmps.getD u undef]) w:=by
 have hp':tmps[p]?.getD undef=.pointer (some ⟨g,0,none⟩):=by simpa using hp
 simp[results,h,hp',asAddr,run_loadVar_row w g tb ty cs (0,0) d hg hu hd hi]
theorem EC(s:List UInt8)(h:(cW s ex).2.2.2=0):1<=(cW s ex).1/\(cW s ex).1<=3/\(cW s ex).2.2.1.length<=s.length:=by
 unfold cW at h⊢;split
 ·rename_i h1;rw[if_pos h1] at h;cases h
 ·rename_i h1;rw[if_neg h1] at h;cases hg:eB (s.take (ex.length+6)) with
  |none=>rw[hg] at h;cases h
  |some b=>
   rw[hg] at h;simp only at h⊢;split
   ·rename_i h2;rw[if_pos h2] at h;cases h
   ·rename_i h2;rw[if_neg h2] at h;split
    ·rename_i h3;rw[if_pos h3] at h;cases h
    ·rename_i h3;rw[if_neg h3] at h;split
     ·rename_i h4;rw[if_pos h4] at h;cases h
     ·rename_i h4;simp only[List.length_drop];omega
theorem uM(s:List UInt8)(w:World)(hl:s.length<=900000)(hT:Tb w)(hg64:1<w.heap.size)(h1g:(cW s ex).2.2.2=0->(cW s ex).1=1):
 Calls Tryz.prog 20 #[.string (bs s)] w fun e w'=>C5 (my s) e w'/\Below w.heap.size w w':=by
 have HT:=af (fun W (hb:Below w.heap.size w W)=>(show Tb W/\1<W.heap.size from⟨hT.below hb hg64,dQ hg64 hb.size⟩))
 have HG:=af (show my s=match cW s ex with|(g,_,rest,e)=>if e≠0 then(aY,0,e) else match lL rest g with
  |none=>(aY,0,9)
  |some b=>if ia b g=(s,0) then(b,g,0) else(aY,0,9) from rfl)
 have b0:=ai w (.cells #[.int .i64 0,.slice none 0 0,.slice none 0 0] 25)
 have k0:=ag.new w 25 #[.int .i64 0,.slice none 0 0,.slice none 0 0]
 have q1:=af (fun W=>AL s ex (by omega) (by decide) W)
 have HO:=af (EC s)
 have H1:=af h1g
 unfold oO at q1
 obtain⟨⟨g,fl,r,er⟩,ho⟩:∃p,cW s ex=p:=⟨_,rfl⟩
 rw[ho] at q1 HG HO H1
 simp only at q1 HG HO H1
 clear ho hT hg64 h1g
 go_enter Tryz.func20,Tryz.ntmps20
 go_wp2_with fail
 refine(q1.out _).mono ?_
 rintro e w1 ⟨rfl,hb1⟩
 have c1:=ay b0 hb1
 have k1:=ag.below k0 hb1 k0.lt
 clear q1 hb1 b0 k0
 have HZ:=af (fun W (c:Below w.heap.size w W) (k:ag W w.heap.size 25 #[.int .i64 0,.slice none 0 0,.slice none 0 0])=>sD c (aF _) k rfl (.int .i64 0) (.slice none 0 0) (.slice none 0 0))
 by_cases he:er=0
 ·subst he;obtain⟨hga,hgb,hrl⟩:=HO.out rfl;have HG2:=HG.out;rw[if_neg (by simp)] at HG2;have HG3:=af HG2;have q2:=af (Gx r (g:Int) w1 (by omega) (by omega) (HT.out _ c1).1 (HT.out _ c1).2 (by rw[H1.out rfl];rfl));clear HG HG2 HO;go_wp2_with fail
  refine q2.out.mono ?_;rintro e w2 ⟨hri,hb2⟩;have c2:=ay c1 hb2;have k2:=ag.below k1 hb2 k1.lt;clear q2 hb2 c1 k1;cases hrk:lL r (g:Int) with
  |none=>
   have HE:=af (show my s=(aY,0,9) by rw[HG3.out,hrk]);rw[hrk] at hri;obtain⟨f,ga,gn,gc,sa,sn,sc,rfl⟩:=hri;have k3:=ag.alloc k2 (.cells #[.int .i64 f,.slice ga gn gc,.slice sa sn sc] 25);have c3:=c2.alloc c2.size (.cells #[.int .i64 f,.slice ga gn gc,.slice sa sn sc] 25);have p0:=ax k3 0 (.int .i64 0) rfl;have p1:=ax k3 1 (.slice none 0 0) rfl;have p2:=ax k3 2 (.slice none 0 0) rfl;have r0:=ag.frozen k3 0;have r1:=ag.frozen k3 1;have r2:=ag.frozen k3 2;have HK:=af (HZ.out _ c3 k3);clear c2 k2 c3 k3 HZ HG3 hrk;go_wp2_with fail
   refine bodyPost_ret (iO rfl _ _ w.heap.size 25 _ _ rfl HK.out.1 Tryz.underlying25 rfl (by kernel_rfl)) rfl ?_;rw[HE.out];exact⟨lx _ _,HK.out.2.1⟩
  |some b=>
   rw[hrk] at hri;obtain⟨gv,sv,rfl,hB⟩:=hri;have HGS:=af (show my s=if ia b g=(s,0) then(b,g,0) else(aY,0,9) by rw[HG3.out,hrk]);obtain⟨ga,gc,rfl,_⟩:=id hB.2.1;obtain⟨sa,sc,rfl,_⟩:=id hB.2.2;have k3:=ag.alloc k2 (.cells #[.int .i64 b.floor,.slice ga b.gone.length gc,.slice sa b.ser.length sc] 25);have j3:=ag.new w2 25 #[.int .i64 b.floor,.slice ga b.gone.length gc,.slice sa b.ser.length sc];have d3:=ai w2 (.cells #[.int .i64 b.floor,.slice ga b.gone.length gc,.slice sa b.ser.length sc] 25);have c3:=ay c2 d3;have q3:=af (m6 _ _ b (g:Int) _ (hB.below d3) (by omega) (by omega) (HT.out _ c3).1 (HT.out _ c3).2);obtain⟨⟨ps,pe⟩,hp⟩:∃p,ia b (g:Int)=p:=⟨_,rfl⟩
   rw[hp] at HGS q3;simp only at q3;have HB:=af (hB.below d3);clear HG3 hrk hB hp c2 k2 d3;go_wp2_with fail
   refine bL q3.out fun w4 hb4=>?_;have c4:=ay c3 hb4;have k4:=ag.below k3 hb4 k3.lt;have j4:=ag.below j3 hb4 j3.lt;have HB4:=af (HB.out.below hb4);have p0:=ax k4 0 (.int .i64 0) rfl;have p1:=ax k4 1 (.slice none 0 0) rfl;have p2:=ax k4 2 (.slice none 0 0) rfl;have r0:=ag.frozen k4 0;have r1:=ag.frozen k4 1;have r2:=ag.frozen k4 2;have HK:=af (HZ.out _ c4 k4);by_cases hg:pe=0/\ps=s
   ·obtain⟨rfl,rfl⟩:=hg;have HE:=af (show my ps=(b,g,0) by rw[HGS.out,if_pos rfl]);have y0:=ax j4 0 (.int .i64 b.floor) rfl;have y1:=ax j4 1 (.slice ga b.gone.length gc) rfl;have y2:=ax j4 2 (.slice sa b.ser.length sc) rfl;have HR:=af (sD c4 (aF _) k4 rfl (.int .i64 b.floor) (.slice ga b.gone.length gc) (.slice sa b.ser.length sc));have HM:=af k4;clear c3 c4 k3 k4 j3 j4 hb4 q3 HZ HGS HK;go_wp2_with fail
    refine bodyPost_ret (iO rfl _ _ w.heap.size 25 _ _ rfl HR.out.1 Tryz.underlying25 rfl (by kernel_rfl)) rfl ?_;rw[HE.out];exact⟨⟨_,_,rfl,HB4.out.bk HM.out HR.out.2.2⟩,HR.out.2.1⟩
   ·have HE:=af (show my s=(aY,0,9) by rw[HGS.out,if_neg (fun e=>hg ⟨(Prod.mk.inj e).2,(Prod.mk.inj e).1⟩)]);have hcs:((pe != 0)=true/\decide (pe=0)=false/\(pe==0)=false)\/(pe=0/\(ps != s)=true/\(ps==s)=false/\decide (ps=s)=false):=by
     by_cases h0:pe=0
     ·have h1:ps≠s:=fun e=>hg ⟨h0,e⟩;exact .inr ⟨h0,by simpa using h1,by simpa using h1,decide_eq_false h1⟩
     ·exact .inl ⟨by simpa using h0,decide_eq_false h0,by simpa using h0⟩
    clear c3 c4 k3 k4 j3 j4 hb4 q3 HZ HGS hg;rcases hcs with⟨h1,h2,h3⟩|⟨rfl,h1,h2,h3⟩
    ·go_wp2_with fail
     refine bodyPost_ret (iO rfl _ _ w.heap.size 25 _ _ rfl HK.out.1 Tryz.underlying25 rfl (by kernel_rfl)) rfl ?_;rw[HE.out];exact⟨lx _ _,HK.out.2.1⟩
    ·go_wp2_with fail
     refine bodyPost_ret (iO rfl _ _ w.heap.size 25 _ _ rfl HK.out.1 Tryz.underlying25 rfl (by kernel_rfl)) rfl ?_;rw[HE.out];exact⟨lx _ _,HK.out.2.1⟩
 ·have hx1:(er != 0)=true:=by simpa using he
  have hx2:decide (er=0)=false:=decide_eq_false he;have hx3:(er==0)=false:=by simpa using he
  have HE:=HG.out;rw[if_pos he] at HE;have HE:=af HE;have p0:=ax k1 0 (.int .i64 0) rfl;have p1:=ax k1 1 (.slice none 0 0) rfl;have p2:=ax k1 2 (.slice none 0 0) rfl;have r0:=ag.frozen k1 0;have r1:=ag.frozen k1 1;have r2:=ag.frozen k1 2;have HK:=af (HZ.out _ c1 k1);clear c1 k1 HG he HO HZ;go_wp2_with fail
  refine bodyPost_ret (iO rfl _ _ w.heap.size 25 _ _ rfl HK.out.1 Tryz.underlying25 rfl (by kernel_rfl)) rfl ?_;rw[HE.out];exact⟨lx _ _,HK.out.2.1⟩
def yO(s:List UInt8)(g:Int):List UInt8×Int:=if (my s).2.2≠0 then([],(my s).2.2) else ia (my s).1 g
theorem FR(s:List UInt8)(g:Int)(w:World)(hl:s.length<=900000)(g1: -9223372036854775808<=g)(g2:g<=9223372036854775807)(hT:Tb w)(hg64:1<w.heap.size)(h1g:(cW s ex).2.2.2=0->(cW s ex).1=1):
 Calls Tryz.prog 22 #[.string (bs s),.int .i64 g] w fun e w'=>e=.returned (.tuple #[.string (bs (yO s g).1),.int .i64 (yO s g).2])/\Below w.heap.size w w':=by
 have HT:=af (fun W (hb:Below w.heap.size w W)=>(show Tb W/\1<W.heap.size from⟨hT.below hb hg64,dQ hg64 hb.size⟩))
 have q1:=af (uM s w hl hT hg64 h1g)
 have HN:=af (show yO s g=if (my s).2.2≠0 then([],(my s).2.2) else ia (my s).1 g from rfl)
 obtain⟨⟨b,gn,er⟩,hg⟩:∃p,my s=p:=⟨_,rfl⟩
 rw[hg] at q1 HN
 simp only at HN
 clear hg hT hg64 h1g
 go_enter Tryz.func22,Tryz.ntmps22
 go_wp2_with fail
 refine q1.out.mono ?_
 rintro e w1 ⟨⟨gv,sv,rfl,hB⟩,hb1⟩
 simp only at hB⊢
 obtain⟨ga,gc,rfl,_⟩:=id hB.2.1
 obtain⟨sa,sc,rfl,_⟩:=id hB.2.2
 have d3:=ai w1 (.cells #[.int .i64 b.floor,.slice ga b.gone.length gc,.slice sa b.ser.length sc] 25)
 have c3:=ay hb1 d3
 by_cases he:er=0
 ·subst he;have q3:=af (m6 _ _ b g _ (hB.below d3) g1 g2 (HT.out _ c3).1 (HT.out _ c3).2);have HE:=HN.out;rw[if_neg (by simp)] at HE;have HE:=af HE;clear q1 HN hB hb1 d3;go_wp2_with fail
  refine bL q3.out fun w4 hb4=>?_;go_wp2_with fail
  go_ret2;exact⟨by rw[HE.out];rfl,ay c3 hb4⟩
 ·have HE:=HN.out;rw[if_pos he] at HE;have HE:=af HE;have h1:(er != 0)=true:=by simpa using he
  have h2:decide (er=0)=false:=decide_eq_false he;have h3:(er==0)=false:=by simpa using he
  clear q1 HN hB hb1 d3 he;go_wp2_with fail
  go_ret2;exact⟨by rw[HE.out];rfl,c3⟩
theorem Cw{sv lv mv:Value}{S S':List aO}{l:List Lb}{M:List Mr}{f f' kd t tb:Int}{u:Nat}{w:World}(hd:(Fr ⟨S,f⟩ kd l M t tb u 3).1=⟨S',f'⟩)(h:aM w sv S)(hl:aC w lv l)(hM:iG w mv M)
 (hb0:∀m∈M,m.name.length<=1048576/\m.value.length<=1048576) (hu:ew (t,u)) (hS:S.length<=1000) (hSs:∀x∈S,x.samples.length<=1000) (og:Int):
 Calls Tryz.prog 29 #[.agg #[sv,.int .i64 f],.agg #[.int .i64 kd,lv,mv,.int .i64 t,.int .i64 tb,.int .u64 (u:Int),.int .i64 og],.int .i64 3] w fun e w'=>∃va n vc x y aa an ac rv,e=.returned (.tuple #[.agg #[.slice va n vc,.int .i64 f'],.agg #[.int .i64 x,.int .i64 y,.slice aa an ac],rv])/\aM w' (.slice va n vc) S'/\Below w.heap.size w w':=by
 refine(KU sv lv mv S l M f kd t tb og 3 u w h hl hM hb0 hu (by decide) hS hSs).mono ?_
 rintro e w' ⟨v',av,rv,Z,rfl,h1,h3,_,_,_,h2⟩
 rw[hd] at h1⊢
 obtain⟨va,vc,rfl,_⟩:=id h1
 obtain⟨aa,ac,rfl,_⟩:=id h3
 exact⟨_,_,_,_,_,_,_,_,rv,rfl,h1,h2⟩
theorem tL(w:World):iG w (.slice none 0 0) []:=⟨none,0,rfl,by simp,fun i x hx=>by simp at hx⟩
theorem Hk(w:World):aC w (.slice none 0 0) []:=⟨none,0,rfl,by simp,fun i x hx=>by simp at hx⟩
theorem wS(w:World):jE w (.slice none 0 0) (.slice none 0 0) aY:=⟨by decide,⟨none,0,rfl,by simp[aY],fun i x hx=>by simp[aY] at hx⟩,iu.nil w⟩
theorem Kq(w:World):aC (w.alloc (.cells #[.string ⟨#[97]⟩,.string ⟨#[120]⟩] 73)) (.slice (some ⟨w.heap.size,0,none⟩) 1 1) F0:=by
 have k:=ag.new w 73 #[.string ⟨#[97]⟩,.string ⟨#[120]⟩];refine⟨_,_,rfl,by decide,fun i x hx=>?_⟩;cases i with
 |zero=>
  obtain rfl:([97],[120])=x:=by simpa[F0] using hx
  exact⟨by decide,by decide,w.heap.size,0,rfl,(ag.cell k 0).trans rfl,(ag.cell k 1).trans rfl⟩
 |succ i=>simp[F0] at hx
theorem yH(w:World)(hT:Tb w)(hg64:1<w.heap.size):Calls Tryz.prog 9 #[] w fun e w'=>e=.returned (.bool true)/\Below w.heap.size w w':=by
 have HT:=af (fun W (hb:Below w.heap.size w W)=>(show Tb W/\1<W.heap.size from⟨hT.below hb hg64,dQ hg64 hb.size⟩));have q1:=af (m6 (.slice none 0 0) (.slice none 0 0) aY 2 w (wS w) (by decide) (by decide) hT hg64);clear hT hg64;obtain⟨⟨ab,ae⟩,ha⟩:∃p,ia aY 2=p:=⟨_,rfl⟩
 have h5:=LY;rw[ha] at h5 q1;simp only at h5 q1;obtain⟨rfl,hal⟩:=h5;clear ha;go_enter Tryz.func9,Tryz.ntmps9
 go_wp2_with fail
 refine bL q1.out fun w1 hb1=>?_;have HL1:=af (Kq w1);have B1:=hb1.alloc hb1.size (.cells #[.string ⟨#[97]⟩,.string ⟨#[120]⟩] 73);have q2:=af (Cw (S':=IR.ser) (f':=0) (og:=0) L4 (iu.nil _) HL1.out (tL _) (by simp) (by unfold ew;decide) (by simp) (by simp));clear q1 hb1;go_wp2_with fail
 refine q2.out.mono ?_;rintro e w2 ⟨v1,n1,u1,x1,y1,aa1,an1,ac1,r1,rfl,hs1,hb2⟩;have B2:=ay B1 hb2;have HL2:=af (HL1.out.below hb2);have K2:=ag.alloc (ag.new w2 49 #[.slice v1 n1 u1,.int .i64 0]) (.cells #[.int .i64 x1,.int .i64 y1,.slice aa1 an1 ac1] 62);have b2:=(ai w2 (.cells #[.slice v1 n1 u1,.int .i64 0] 49)).alloc (ai w2 (.cells #[.slice v1 n1 u1,.int .i64 0] 49)).size (.cells #[.int .i64 x1,.int .i64 y1,.slice aa1 an1 ac1] 62);have y0:=ax K2 0 (.slice v1 n1 u1) rfl;have y1':=ax K2 1 (.int .i64 0) rfl;have B3:=ay B2 b2;have HA:=af (hs1.below b2);have HL3:=af (HL2.out.below b2);have q3:=af (Cw (S':=LB.ser) (f':=0) (og:=0) L3 HA.out HL3.out (tL _) (by simp) (by unfold ew;decide) (by decide) (by decide));clear q2 B1 hb2 hs1 HL1 HL2 B2 b2;go_wp2_with fail
 refine q3.out.mono ?_;rintro e w3 ⟨v2,n2,u2,x2,y2,aa2,an2,ac2,r2,rfl,hs2,hb3⟩;have B4:=ay B3 hb3;have K3:=ag.below K2 hb3 K2.lt;have HA3:=af (HA.out.below hb3);have hge:=B4.size;have a2:=ai w3 (.cells #[.slice v2 n2 u2,.int .i64 0] 49);have b2:=a2.alloc a2.size (.cells #[.int .i64 x2,.int .i64 y2,.slice aa2 an2 ac2] 62);have K4:=ag.alloc (ag.alloc K3 (.cells #[.slice v2 n2 u2,.int .i64 0] 49)) (.cells #[.int .i64 x2,.int .i64 y2,.slice aa2 an2 ac2] 62);have J4:=ag.alloc (ag.new w3 49 #[.slice v2 n2 u2,.int .i64 0]) (.cells #[.int .i64 x2,.int .i64 y2,.slice aa2 an2 ac2] 62);have z0:=ax J4 0 (.slice v2 n2 u2) rfl;have z1:=ax J4 1 (.int .i64 0) rfl;have B5:=ay B4 b2;have HA4:=af (HA3.out.below b2);have hne:w2.heap.size≠w3.heap.size:=Nat.ne_of_lt (K3.lt);have q4:=af (Cw (S':=De.ser) (f':=0) (og:=0) L1 (hs2.below b2) (Hk _) (tL _) (by simp) (by unfold ew;decide) (by decide) (by decide));clear q3 B3 K2 y0 y1' HA HL3 hb3 hs2 B4 K3 HA3 a2;go_wp2_with fail
 refine q4.out.mono ?_;rintro e w4 ⟨v3,n3,u3,x3,y3,aa3,an3,ac3,r3,rfl,hs3,hb4⟩;have B6:=ay B5 hb4;have K5:=ag.below K4 hb4 K4.lt;have J5:=ag.below J4 hb4 J4.lt;have f0:=ag.frozen J5 0;have f1:=ag.frozen J5 1;have z0:=ax J5 0 (.slice v2 n2 u2) rfl;have z1:=ax J5 1 (.int .i64 0) rfl;have J6:=ag.set_ (ag.set_ J5 0 (.slice v3 n3 u3)) 1 (.int .i64 0);have K6:=ag.far (ag.far K5 (p:=⟨w3.heap.size,0,none⟩) hne (.slice v3 n3 u3)) (p:=⟨w3.heap.size,1,none⟩) hne (.int .i64 0);have hk6:ak w4 ((w4.setCell ⟨w3.heap.size,0,none⟩ (.slice v3 n3 u3)).setCell ⟨w3.heap.size,1,none⟩ (.int .i64 0)) (fun k=>k=w3.heap.size):=(ak.of_grown (ap _ _ _ _) fun k e=>(az e).symm).trans (ak.of_grown (ap _ _ _ _) fun k e=>(az e).symm);have HA6:=af ((HA4.out.below hb4).st J5 hk6);have HC6:=af (hs3.st J5 hk6);have B7:=B6.trans (hk6.below B6.size fun k e=>by omega);have y0:=ax K6 0 (.slice v1 n1 u1) rfl;have y1':=ax K6 1 (.int .i64 0) rfl;have z2:=ax J6 0 (.slice v3 n3 u3) rfl;have z3:=ax J6 1 (.int .i64 0) rfl;clear q4 B5 B6 hb4 K4 J4 K5 J5 b2 hs3 hk6 HA4 hne;go_wp2_with fail
 generalize (w4.setCell ⟨w3.heap.size,0,none⟩ (.slice v3 n3 u3)).setCell ⟨w3.heap.size,1,none⟩ (.int .i64 0)=W at*;have HW:=af (And.intro B7 (And.intro K6 (And.intro J6 (And.intro HA6.out HC6.out))));have hcA:iE 1000 IR.ser:=by unfold iE;decide
 have hcC:iE 1000 De.ser:=by unfold iE;decide
 have q5:=af (wR (.slice v1 n1 u1) (.slice v3 n3 u3) IR.ser De.ser 0 0 W HA6.out HC6.out (by decide) (by decide) hcA hcC (by decide) (by decide));rw[show lP ⟨IR.ser,0⟩ ⟨De.ser,0⟩=lI from LZ] at q5;refine q5.out.mono ?_;rintro e w5 ⟨gv,sv,rfl,hD,hb5⟩;obtain⟨ga,gc,hgv,_⟩:=id hD.2.1;obtain⟨sa,sc,hsv,_⟩:=id hD.2.2;obtain rfl:gv=.slice ga 1 gc:=hgv;obtain rfl:sv=.slice sa 1 sc:=hsv;rw[show lI.floor=0 from rfl];clear q5 B7 K6 J6 HA6 HC6 y0 y1' z0 z1 z2 z3 f0 f1;have k5:=ag.new w5 25 #[.int .i64 0,.slice ga 1 gc,.slice sa 1 sc];have d5:=ai w5 (.cells #[.int .i64 0,.slice ga 1 gc,.slice sa 1 sc] 25);have b5:=ay hb5 d5;have hD5:=hD.below d5;have y0:=ax k5 0 (.int .i64 0) rfl;have y1:=ax k5 1 (.slice ga 1 gc) rfl;have y2:=ax k5 2 (.slice sa 1 sc) rfl;have c5:=HW.out.1.trans (b5.mono HW.out.1.size);have q6:=af (m6 (.slice ga 1 gc) (.slice sa 1 sc) lI 1 _ hD5 (by decide) (by decide) (HT.out _ c5).1 (HT.out _ c5).2);rw[show ia lI 1=(Ko,0) from Prod.ext rfl LX] at q6;simp only at q6;go_wp2_with fail
 refine bL q6.out fun w6 hb6=>?_;have b6:=ay b5 hb6;have k6:=ag.below k5 hb6 k5.lt;have c6:=HW.out.1.trans (b6.mono HW.out.1.size);have HD6:=af (hD5.below hb6);have q7:=af (uM Ko w6 (by rw[wU];decide) (HT.out _ c6).1 (HT.out _ c6).2 (fun _=>Dd));rw[LO] at q7;clear q6 k5 d5 b5 hD5 y0 y1 y2 c5 hb5 hb6 hD;go_wp2_with fail
 refine q7.out.mono ?_;rintro e w7 ⟨⟨gv,sv,rfl,hG⟩,hb7⟩;simp only at hG⊢;obtain⟨gb,gd,hgv,_⟩:=id hG.2.1;obtain⟨sb,sd,hsv,_⟩:=id hG.2.2;obtain rfl:gv=.slice gb 1 gd:=hgv;obtain rfl:sv=.slice sb 1 sd:=hsv;rw[show lI.floor=0 from rfl];have k8:=ag.new w7 25 #[.int .i64 0,.slice gb 1 gd,.slice sb 1 sd];have d8:=ai w7 (.cells #[.int .i64 0,.slice gb 1 gd,.slice sb 1 sd] 25);have e8:=ay hb7 d8;have b8:=ay b6 e8;have j8:=ag.below k6 e8 k6.lt;have HD8:=af (HD6.out.below e8);have HG8:=af (hG.below d8);have y0:=ax k8 0 (.int .i64 0) rfl;have y1:=ax k8 1 (.slice gb 1 gd) rfl;have y2:=ax k8 2 (.slice sb 1 sd) rfl;have s8:=ag.below HW.out.2.1 b8 HW.out.2.1.lt;have x0:=ax s8 0 (.slice v1 n1 u1) rfl;have x1':=ax s8 1 (.int .i64 0) rfl;have q8:=af (qB (.slice v1 n1 u1) (.slice gb 1 gd) (.slice sb 1 sd) IR.ser lI.ser lI.gone 0 0 _ (HW.out.2.2.2.1.below b8) HG8.out.2.1 HG8.out.2.2 (by decide) (by decide) (by unfold iE;decide) (by unfold iE;decide));rw[show jN ⟨IR.ser,0⟩ ⟨0,lI.gone,lI.ser⟩=(De,0) from LW] at q8;clear q7 hb7 e8 d8 k6 b6 c6 HD6 hG;go_wp2_with fail
 refine q8.out.mono ?_;rintro e w9 ⟨⟨vo,rfl,hO⟩,hb9⟩;simp only at hO⊢;obtain⟨oa,oc,hov,_⟩:=id hO;obtain rfl:vo=.slice oa 1 oc:=hov;rw[show De.floor=0 from rfl];have k10:=ag.new w9 49 #[.slice oa 1 oc,.int .i64 0];have d10:=ai w9 (.cells #[.slice oa 1 oc,.int .i64 0] 49);have e10:=ay hb9 d10;have b10:=ay b8 e10;have c10:=HW.out.1.trans (b10.mono HW.out.1.size);have j10:=ag.below j8 e10 j8.lt;have g10:=ag.below k8 e10 k8.lt;have HD10:=af (HD8.out.below e10);have HG10:=af (HG8.out.below e10);have HO10:=af (hO.below d10);have q10:=af (FR Ko 3 _ (by rw[wU];decide) (by decide) (by decide) (HT.out _ c10).1 (HT.out _ c10).2 (fun _=>Dd));rw[show yO Ko 3=ia lI 3 by unfold yO;rw[LO];rfl] at q10;obtain⟨⟨ub,ue⟩,hu⟩:∃p,ia lI 3=p:=⟨_,rfl⟩
 have h9:=K9;have h9b:=LV;rw[hu] at q10 h9 h9b;simp only at h9 h9b q10;subst h9;clear hu q8 k8 d10 e10 b8 j8 HD8 HG8 y0 y1 y2 s8 x0 x1' hb9 hO;go_wp2_with fail
 refine bL q10.out fun w11 hb11=>?_;have c11:=ay c10 hb11;have q11:=af (show Calls Tryz.prog 20 #[.string ⟨#[]⟩] w11 fun e w'=>C5 (my []) e w'/\Below w11.heap.size w11 w' from uM [] w11 (by decide) (HT.out _ c11).1 (HT.out _ c11).2 (fun h=>by cases h));have h10:=LI;obtain⟨⟨zb,zg,ze⟩,hz⟩:∃p,my []=p:=⟨_,rfl⟩
 rw[hz] at q11 h10;simp only at h10;subst h10;clear hz q10;go_wp2_with fail
 refine q11.out.mono ?_;rintro e w12 ⟨⟨gv,sv,rfl,hZ⟩,hb12⟩;simp only at hZ⊢;obtain⟨za,zc,rfl,_⟩:=id hZ.2.1;obtain⟨ya,yc,rfl,_⟩:=id hZ.2.2;have d12:=ai w12 (.cells #[.int .i64 zb.floor,.slice za zb.gone.length zc,.slice ya zb.ser.length yc] 25);have e12:=hb11.trans ((ay hb12 d12).mono hb11.size);have b12:=ay b10 e12;have j12:=ag.below j10 e12 j10.lt;have g12:=ag.below g10 e12 g10.lt;have o12:=ag.below k10 e12 k10.lt;have HD12:=af (HD10.out.below e12);have HG12:=af (HG10.out.below e12);have HO12:=af (HO10.out.below e12);have t12:=ag.below HW.out.2.2.1 b12 HW.out.2.2.1.lt;have HT12:=af (HW.out.2.2.2.2.below b12);have HB:=af (HW.out.1.trans (b12.mono HW.out.1.size));clear q11 hb11 hb12 d12 c10 c11 b10 j10 g10 k10 HD10 HG10 HO10 e12 hZ HW b12 HT;have d0:=ax j12 0 (.int .i64 0) rfl;have d1:=ax j12 1 (.slice ga 1 gc) rfl;have d2:=ax j12 2 (.slice sa 1 sc) rfl;have g0:=ax g12 0 (.int .i64 0) rfl;have g1:=ax g12 1 (.slice gb 1 gd) rfl;have g2:=ax g12 2 (.slice sb 1 sd) rfl;obtain⟨p1,p2,p3,p4,p5⟩:=LH;have qa:=af (qx (.slice gb 1 gd) (.slice sb 1 sd) (.slice ga 1 gc) (.slice sa 1 sc) lI lI _ HG12.out HD12.out);rw[p1,show lI.floor=0 from rfl] at qa;have hsl:=wU;go_wp2_with fail
 refine bL qa.out fun wa ha=>?_;have d0:=ax (ag.below j12 ha j12.lt) 0 (.int .i64 0) rfl;have d1:=ax (ag.below j12 ha j12.lt) 1 (.slice ga 1 gc) rfl;have d2:=ax (ag.below j12 ha j12.lt) 2 (.slice sa 1 sc) rfl;have o0:=ax (ag.below o12 ha o12.lt) 0 (.slice oa 1 oc) rfl;have o1:=ax (ag.below o12 ha o12.lt) 1 (.int .i64 0) rfl;have t0:=ax (ag.below t12 ha t12.lt) 0 (.slice v3 n3 u3) rfl;have t1:=ax (ag.below t12 ha t12.lt) 1 (.int .i64 0) rfl;have qb:=af (qq (.slice oa 1 oc) (.slice v3 n3 u3) De De wa (HO12.out.below ha) (HT12.out.below ha));rw[p2,show De.floor=0 from rfl] at qb;have Ba:=af (HB.out.trans (ha.mono HB.out.size));have HDa:=af (HD12.out.below ha);have ja:=ag.below j12 ha j12.lt;clear qa HG12 HD12 HO12 HT12 HB ha g0 g1 g2 j12 g12 o12 t12;go_wp2_with fail
 refine bL qb.out fun wb hb=>?_;have d0:=ax (ag.below ja hb ja.lt) 0 (.int .i64 0) rfl;have d1:=ax (ag.below ja hb ja.lt) 1 (.slice ga 1 gc) rfl;have d2:=ax (ag.below ja hb ja.lt) 2 (.slice sa 1 sc) rfl;have Bb:=af (Ba.out.trans (hb.mono Ba.out.size));have HDb:=af (HDa.out.below hb);have jb:=ag.below ja hb ja.lt;have qc:=af (pA (.slice ga 1 gc) (.slice sa 1 sc) lI.gone lI.ser 0 wb HDb.out.2.1 HDb.out.2.2);rw[show ey ⟨0,lI.gone,lI.ser⟩=1 from p3] at qc;clear qb Ba HDa hb ja o0 o1 t0 t1;go_wp2_with fail
 refine bL qc.out fun wc hc=>?_;have d0:=ax (ag.below jb hc jb.lt) 0 (.int .i64 0) rfl;have d1:=ax (ag.below jb hc jb.lt) 1 (.slice ga 1 gc) rfl;have d2:=ax (ag.below jb hc jb.lt) 2 (.slice sa 1 sc) rfl;have Bc:=af (Bb.out.trans (hc.mono Bb.out.size));have HDc:=af (HDb.out.below hc);have jc:=ag.below jb hc jb.lt;have qd:=af (fun g (h1: -9223372036854775808<=g) (h2:g<=9223372036854775807) W (hb:Below wc.heap.size wc W)=>uK (.slice ga 1 gc) (.slice sa 1 sc) lI.gone lI.ser 0 g W (HDc.out.2.1.below hb) (HDc.out.2.2.below hb) h1 h2);have qe:=af (qd.out 1 (by decide) (by decide) wc (bR));rw[show dB ⟨0,lI.gone,lI.ser⟩ 1=0 from p4] at qe;clear qc Bb HDb hc jb;go_wp2_with fail
 refine bL qe.out fun wd hd=>?_;have d0:=ax (ag.below jc hd jc.lt) 0 (.int .i64 0) rfl;have d1:=ax (ag.below jc hd jc.lt) 1 (.slice ga 1 gc) rfl;have d2:=ax (ag.below jc hd jc.lt) 2 (.slice sa 1 sc) rfl;have Bd:=af (Bc.out.trans (hd.mono Bc.out.size));have qf:=af (qd.out 0 (by decide) (by decide) wd hd);rw[show dB ⟨0,lI.gone,lI.ser⟩ 0=1 from p5] at qf;clear qe Bc hd jc;go_wp2_with fail
 refine bL qf.out fun wf hf=>?_;go_wp2_with fail
 go_ret;exact⟨rfl,Bd.out.trans (hf.mono Bd.out.size)⟩
end
section
open Go.RowKit Go.Maps Go.WideMaps Go.ChangeShapes Go.WideShapes Go.Deep
attribute [local go_sem] am aq
theorem DK{m:Nat}:∀{S:List aO},iE m S->Ih S<=S.length*m
 |[],_=>Nat.zero_le _
 |x::S,h=>by
  have h1:=h x List.mem_cons_self;have h2:=DK (S:=S) fun y hy=>h y (List.mem_cons_of_mem _ hy);unfold Ih at h2⊢;rw[List.map_cons,List.sum_cons,cY,Nat.add_mul];omega
theorem IP(cs cb:Array Value)(W:World)(hTb:Tb W/\1<W.heap.size)(_hsz1:cs.size=Tryz.prog.cellsOf 49){H:Type}{enc:TypeId×Value->H}{d1 d2:DataW H}{p1 p2:List MemPlace}
 (k1:DataW.Trod enc Tryz.prog W 0 (fun _=>true) true 49 (.agg cs) d1 p1) (_hsz2:cb.size=Tryz.prog.cellsOf 25) (k2:DataW.Trod enc Tryz.prog W 0 (fun _=>true) true 25 (.agg cb) d2 p2):
 Calls Tryz.prog 6 #[.agg cs,.agg cb] W fun e w'=>e=.returned (.bool true)/\Below W.heap.size W w':=by
 obtain⟨s,tv,e,htf,hTS⟩:=yP k1
 rw[e]
 clear e k1 _hsz1
 obtain⟨b,gv,sv,e,hf,hR,hS⟩:=Ax k2
 rw[e]
 clear e k2 _hsz2
 obtain⟨ta,tc,rfl,_⟩:=id hTS
 obtain⟨ga,gc,rfl,_⟩:=id hR
 obtain⟨sa,sc,rfl,_⟩:=id hS
 have a0:=ai W (.cells #[.slice ta s.ser.length tc,.int .i64 s.floor] 49)
 have b0:=a0.alloc a0.size (.cells #[.int .i64 b.floor,.slice ga b.gone.length gc,.slice sa b.ser.length sc] 25)
 have k0:=ag.new (W.alloc (.cells #[.slice ta s.ser.length tc,.int .i64 s.floor] 49)) 25 #[.int .i64 b.floor,.slice ga b.gone.length gc,.slice sa b.ser.length sc]
 have j0:=ag.alloc (ag.new W 49 #[.slice ta s.ser.length tc,.int .i64 s.floor]) (.cells #[.int .i64 b.floor,.slice ga b.gone.length gc,.slice sa b.ser.length sc] 25)
 have q0:=af (yH _ (hTb.1.below b0 hTb.2) (dQ hTb.2 b0.size))
 rw[aW] at k0
 clear hTb a0
 go_enter Tryz.func6,Tryz.ntmps6
 go_wp2_with fail
 refine bL q0.out fun w1 hb1=>?_
 have c1:=ay b0 hb1
 have k1:=ag.below k0 hb1 k0.lt
 have j1:=ag.below j0 hb1 j0.lt
 have q1:=af (FT (f:=b.floor) (hR.below c1) (hS.below c1))
 have y0:=ax k1 0 (.int .i64 b.floor) rfl
 have y1:=ax k1 1 (.slice ga b.gone.length gc) rfl
 have y2:=ax k1 2 (.slice sa b.ser.length sc) rfl
 clear q0 hb1 b0 k0 j0
 go_wp2_with fail
 refine q1.out.mono ?_
 rintro e w2 ⟨fw,rfl,hb2,hfw⟩
 have HFW:=af hfw
 have c2:=ay c1 hb2
 have k2:=ag.below k1 hb2 k1.lt
 have j2:=ag.below j1 hb2 j1.lt
 clear hfw q1 hb2 c1 k1 j1 y0 y1 y2
 cases fw with
 |false=>
  go_wp2_with fail
  go_ret;exact⟨rfl,c2⟩
 |true=>
  obtain⟨hfR,hfS⟩:=HFW.out rfl;have q2:=af (ws (hTS.below c2));have z0:=ax j2 0 (.slice ta s.ser.length tc) rfl;go_wp2_with fail
  refine q2.out.mono ?_;rintro e w3 ⟨fs,rfl,hb3,hfs⟩;have HFS:=af hfs;have c3:=ay c2 hb3;have k3:=ag.below k2 hb3 k2.lt;have j3:=ag.below j2 hb3 j2.lt;clear hfs q2 hb3 c2 k2 j2 z0 HFW;cases fs with
  |false=>
   go_wp2_with fail
   go_ret;exact⟨rfl,c3⟩
  |true=>
   have hfT:=HFS.out rfl;have HB:=af (show jE W (.slice ga b.gone.length gc) (.slice sa b.ser.length sc) b from⟨hf,hR.at hfR,hS.at hfS⟩);have HS:=af (show aM W (.slice ta s.ser.length tc) s.ser from hTS.at hfT);have hln:=af (And.intro hfR.1 (And.intro hfS.1 hfT.1));have hcp:=af (show iE 1000 s.ser/\iE 1000 b.ser from⟨fun x hx=>aK (hfT.2 x hx).2 (by omega),fun x hx=>aK (hfS.2 x hx).2 (by omega)⟩);clear hR hS hTS hfR hfS hfT HFS;have z0:=ax j3 0 (.slice ta s.ser.length tc) rfl;have z1:=ax j3 1 (.int .i64 s.floor) rfl;have q3:=af (ol (.slice ta s.ser.length tc) s.ser s.floor w3 (HS.out.below c3));rw[Jd s] at q3;have HV1:=af (EA (s:=s));have HV2:=af (BI (s:=s) b);have HV3:=af (fun h=>Ft ((sJ s).1 h).2.2.1);go_wp2_with fail
   refine bL q3.out fun w4 hb4=>?_;have c4:=ay c3 hb4;have k4:=ag.below k3 hb4 k3.lt;have j4:=ag.below j3 hb4 j3.lt;clear q3 hb4 c3 k3 j3 z0 z1;obtain⟨vs,hvs⟩:∃v,fx s=v:=⟨_,rfl⟩
   rw[hvs] at HV1 HV2 HV3⊢;clear hvs;cases vs with
   |false=>
    go_wp2_with fail
    go_ret;exact⟨rfl,c4⟩
   |true=>
    have HZ:=af (HV1.out rfl);have HD:=af (HV3.out rfl);obtain⟨hvx,hre⟩:=HV2.out rfl;clear HV1 HV2 HV3;obtain⟨S,f⟩:=s;obtain⟨bf,R,T⟩:=b;simp only at htf hf j4 k4 hvx hre HZ HD HB HS hln hcp⊢;have q5:=af (qB (.slice ta S.length tc) (.slice none 0 0) (.slice none 0 0) S [] [] f 0 w4 (HS.out.below c4) ⟨none,0,rfl,by simp,fun i x hx=>by simp at hx⟩ (iu.nil _) (by have:=hln.out.2.2;simp only[List.length_nil];omega) (by simp) hcp.out.1 (fun x hx=>by cases hx));rw[show jN ⟨S,f⟩ ⟨0,[],[]⟩=(⟨S,f⟩,0) from HZ.out] at q5;have z0:=ax j4 0 (.slice ta S.length tc) rfl;have z1:=ax j4 1 (.int .i64 f) rfl;go_wp2_with fail
    refine q5.out.mono ?_;rintro e w5 ⟨⟨vo,rfl,hO⟩,hb5⟩;simp only at hO⊢;obtain⟨oa,oc,rfl,_⟩:=id hO;have o5:=ag.new w5 49 #[.slice oa S.length oc,.int .i64 f];have d5:=ai w5 (.cells #[.slice oa S.length oc,.int .i64 f] 49);have e5:=ay hb5 d5;have c5:=ay c4 e5;have k5:=ag.below k4 e5 k4.lt;have j5:=ag.below j4 e5 j4.lt;have HO:=af (hO.below d5);have z0:=ax j5 0 (.slice ta S.length tc) rfl;have z1:=ax j5 1 (.int .i64 f) rfl;have y0:=ax k5 0 (.int .i64 bf) rfl;have y1:=ax k5 1 (.slice ga R.length gc) rfl;have y2:=ax k5 2 (.slice sa T.length sc) rfl;have q6:=af (qB (.slice ta S.length tc) (.slice ga R.length gc) (.slice sa T.length sc) S T R f bf _ (HS.out.below c5) (HB.out.2.1.below c5) (HB.out.2.2.below c5) (by have:=hln.out;omega) (by have:=hln.out;omega) hcp.out.1 hcp.out.2);obtain⟨⟨⟨X,xf⟩,xe⟩,hx⟩:∃p,jN ⟨S,f⟩ ⟨bf,R,T⟩=p:=⟨_,rfl⟩
    rw[hx] at q6 hvx hre;simp only at hvx hre;clear q5 hb5 d5 e5 c4 k4 j4 hO hx;go_wp2_with fail
    refine q6.out.mono ?_;rintro e w6 ⟨⟨vx,rfl,hX⟩,hb6⟩;simp only at hX⊢;obtain⟨xa,xc,rfl,_⟩:=id hX;have x6:=ag.new w6 49 #[.slice xa X.length xc,.int .i64 xf];have d6:=ai w6 (.cells #[.slice xa X.length xc,.int .i64 xf] 49);have e6:=ay hb6 d6;have c6:=ay c5 e6;have j6:=ag.below j5 e6 j5.lt;have o6:=ag.below o5 e6 o5.lt;have HO6:=af (HO.out.below e6);have HX6:=af (hX.below d6);clear q6 hb6 d6 c5 k5 j5 o5 HO y0 y1 y2 z0 z1 e6 hX HB;have z0:=ax j6 0 (.slice ta S.length tc) rfl;have z1:=ax j6 1 (.int .i64 f) rfl;have u0:=ax o6 0 (.slice oa S.length oc) rfl;have u1:=ax o6 1 (.int .i64 f) rfl;have q7:=af (qq (.slice oa S.length oc) (.slice ta S.length tc) ⟨S,f⟩ ⟨S,f⟩ _ HO6.out (HS.out.below c6));rw[tg] at q7;go_wp2_with fail
    refine bL q7.out fun w7 hb7=>?_;have c7:=ay c6 hb7;have j7:=ag.below j6 hb7 j6.lt;have x7:=ag.below x6 hb7 x6.lt;have HX7:=af (HX6.out.below hb7);have v0:=ax x7 0 (.slice xa X.length xc) rfl;have v1:=ax x7 1 (.int .i64 xf) rfl;have q8:=af (ol (.slice xa X.length xc) X xf w7 HX7.out);rw[hvx] at q8;clear q7 hb7 c6 j6 x6 o6 HO6 HX6 z0 z1 u0 u1;have HDF:=af (fun W' (hb:Below W.heap.size W W')=>wR (.slice ta S.length tc) (.slice ta S.length tc) S S f f W' (HS.out.below hb) (HS.out.below hb) (by have:=hln.out;omega) (by have:=hln.out;omega) hcp.out.1 hcp.out.1 htf (aK (DK hcp.out.1) (by have:=hln.out;omega)));rw[HD.out] at HDF;go_wp2_with fail
    refine bL q8.out fun w8 hb8=>?_;have c8:=ay c7 hb8;have j8:=ag.below j7 hb8 j7.lt;have x8:=ag.below x7 hb8 x7.lt;have HX8:=af (HX7.out.below hb8);have v0:=ax x8 0 (.slice xa X.length xc) rfl;have v1:=ax x8 1 (.int .i64 xf) rfl;have z0:=ax j8 0 (.slice ta S.length tc) rfl;have z1:=ax j8 1 (.int .i64 f) rfl;clear q8 hb8 c7 j7 x7 HX7 hvx;rcases hre with rfl|⟨rfl,hxs⟩
    ·go_wp2_with fail
     refine(HDF.out _ c8).mono ?_;rintro e w9 ⟨dv,ev,rfl,hD,hb9⟩;have hD2:=hD;obtain⟨da,dc,rfl,_⟩:=id hD.2.1;obtain⟨ea,ec,rfl,_⟩:=id hD.2.2;have c9:=ay c8 hb9;have qs:=af (show Calls Tryz.prog 19 #[.agg #[.int .i64 aY.floor,.slice da aY.gone.length dc,.slice ea aY.ser.length ec],.agg #[.int .i64 0,.slice none 0 0,.slice none 0 0]] w9 fun e w'=>e=.returned (.bool (qR aY aY))/\Below w9.heap.size w9 w' from qx _ _ (.slice none 0 0) (.slice none 0 0) aY aY w9 hD (wS w9));rw[show qR aY aY=true by decide] at qs;go_wp2_with fail
     refine bL qs.out fun wz hbz=>?_;go_wp2_with fail
     go_ret;exact⟨rfl,ay c9 hbz⟩
    ·obtain⟨rfl,rfl⟩:=kt.mk.inj hxs;have q9:=af (qq (.slice xa X.length xc) (.slice ta X.length tc) ⟨X,xf⟩ ⟨X,xf⟩ _ HX8.out (HS.out.below c8));rw[tg] at q9;go_wp2_with fail
     refine bL q9.out fun wq hbq=>?_;have j9:=ag.below j8 hbq j8.lt;have z0:=ax j9 0 (.slice ta X.length tc) rfl;have z1:=ax j9 1 (.int .i64 xf) rfl;have c8:=ay c8 hbq;clear q9 hbq j8 x8 v0 v1;go_wp2_with fail
     refine(HDF.out _ c8).mono ?_;rintro e w9 ⟨dv,ev,rfl,hD,hb9⟩;have hD2:=hD;obtain⟨da,dc,rfl,_⟩:=id hD.2.1;obtain⟨ea,ec,rfl,_⟩:=id hD.2.2;have c9:=ay c8 hb9;have qs:=af (show Calls Tryz.prog 19 #[.agg #[.int .i64 aY.floor,.slice da aY.gone.length dc,.slice ea aY.ser.length ec],.agg #[.int .i64 0,.slice none 0 0,.slice none 0 0]] w9 fun e w'=>e=.returned (.bool (qR aY aY))/\Below w9.heap.size w9 w' from qx _ _ (.slice none 0 0) (.slice none 0 0) aY aY w9 hD (wS w9));rw[show qR aY aY=true by decide] at qs;go_wp2_with fail
     refine bL qs.out fun wz hbz=>?_;go_wp2_with fail
     go_ret;exact⟨rfl,ay c9 hbz⟩
end
section
open Go.RowKit Go.WideShapes Go.ChangeShapes
section
variable {H:Type} {enc:TypeId×Value->H} {P:Program}
theorem IU{f:Func}{s:ChangeSpec}{apart fresh handsOn again:Bool}{W W':World}{args:Array Value}{v:Value}{ds gs:List (DataW H)}{before pa pv:List MemPlace}
 (hW:DataW.Whole enc P f.params.toList s.vars apart W args.toList ds gs before)
 (hres:∀(b:Nat) (sp:Nat->Bool) (hd:Bool),DataW.TrodAll enc P W' b sp hd f.resultTypes.toList (v.resultList f.resultTypes.size) (s.fn H (ds++gs)).results [])
 (hargs:∀sp:Nat->Bool,(∀p∈before,sp p.block=true)->DataW.TrodAll enc P W' 0 sp true f.params.toList args.toList (s.fn H (ds++gs)).args pa)
 (hvars:∀sp:Nat->Bool,(∀p∈before,sp p.block=true)->DataW.TrodVars enc P W' sp s.vars (s.fn H (ds++gs)).vars pv)
 (hps:before=pa++pv) (hb:Below W.heap.size W W')
 (hok:∀(j:Nat) (t:TypeId) (r:Value),f.resultTypes[j]?=some t->(v.resultList f.resultTypes.size)[j]?=some r->Value.okWide P W' .any 0 t r):
 s.post enc P f apart fresh handsOn again W args v W':=by
 have hlt:∀p∈before,p.block<W.heap.size:=fun p hp=>hW.lt p hp
 have hold:∀p∈before,(fun b=>decide (b<W.heap.size)) p.block=true:=fun p hp=>by simpa using hlt p hp
 refine⟨ds,gs,before,[],pa,pv,hW,hres _ _ _,hargs _ hold,hvars _ hold,World.keptBut_mono (fun p hp=>⟨hp,?_⟩) (hb.frame (·∈before)),fun _=>?_⟩
 ·rw[hps,List.mem_append] at hp;exact Or.inr hp
 ·obtain⟨_,_,_,_,_,hz,hn⟩:=hW;refine⟨hok,_,_,([]++pa)++pv,⟨[]++pa,pv,trodAll_append (hargs _ (fun _ _=>rfl)) (hres _ _ _),hvars _ (fun _ _=>rfl),rfl,?_,?_⟩,?_⟩
  ·intro b off hp;have hin:MemPlace.cell b off∈before:=by rw[hps];simpa using hp
   rw[hb.frozen (hlt _ hin)];exact hz b off hin
  ·intro ha;have:=hn ha;rw[hps] at this;simpa using this
  ·intro p hp _;rw[hps];simpa using hp
end
end
end Go.Proofs.YtcdgfajdlaeodaaGreatDoor
