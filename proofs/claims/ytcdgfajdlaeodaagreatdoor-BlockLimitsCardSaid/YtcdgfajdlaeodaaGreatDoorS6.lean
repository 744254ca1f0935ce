/- Part 6 of the proof: contracts of functions, and plain laws. -/
import Derived.Test.YtcdgfajdlaeodaaGreatDoorS5
import Derived.Laws.EntriesVeiled
import Derived.WideKeyEntry
import Derived.Maps.GroupsBeside
import Derived.Shelf.SlicesE.Clone
import Derived.Shelf.SlicesQ.Contains
import Derived.Shelf.SlSortCmp.NoneTotal
import Derived.Test.YtcdgfajdlaeodaaGreatDoorRows
import Derived.Lib.LaidTab
import Derived.Maps.Ext
set_option maxRecDepth 100000
set_option maxHeartbeats 4000000
namespace Go.Proofs.YtcdgfajdlaeodaaGreatDoor
section
open Go.RowKit
attribute [local go_sem] am aq
theorem Cd(G:Nat)(sv lv mv:Value)(S:List aP)(M:List Mr)(f ge kd t tb og:Int)(u:Nat)(w0 w:World)(hG:ag w G 158 (lW sv f (.int .i64 ge) kd lv mv t tb u og (.slice none 0 0)))
 (h:aM w0 sv S) (hM:iA w0 mv M) (hw:Below w0.heap.size w0 w) (hGw:w0.heap.size<=G) (hb0:∀m∈M,m.name.length<=1048576/\m.value.length<=1048576):
 Calls Tryz.prog 100 #[.pointer (some ⟨G,0,none⟩)] w (gJ w G ge kd lv mv t tb u og (eP ⟨S,f⟩ M t tb).1 (eP ⟨S,f⟩ M t tb).2.1 (eP ⟨S,f⟩ M t tb).2.2.1 [] (eP ⟨S,f⟩ M t tb).2.2.2):=by
 have HA:=af (show eP ⟨S,f⟩ M t tb=if ly M t tb then(⟨S.map (xG M t tb),f⟩,0,(o6 M t tb S:Int),xF M t tb S) else(⟨S,f⟩,1,0,[]) from rfl)
 have hlen:=h.len
 obtain⟨sa,sc,rfl,_⟩:=id h
 obtain⟨ma,mc,rfl,_⟩:=id hM
 obtain⟨N,hN⟩:∃N,S.length=N:=⟨_,rfl⟩
 have HN:=af hN
 have H:=af h
 have q3:=af (fun W (hb:Below w0.heap.size w0 W)=>fV _ S w0 W h hb)
 rw[hN] at h H hlen hG q3
 have HG:=af hG
 have b1:=ai w (.cells #[.int .i64 0,.int .i64 0,.slice none 0 0] 62)
 have k1:=ag.new w 62 #[.int .i64 0,.int .i64 0,.slice none 0 0]
 have hGl:=hG.lt
 have q1:=af (we G _ _ _ _ _ _ _ _ _ _ _ M _ (ag.alloc hG (.cells #[.int .i64 0,.int .i64 0,.slice none 0 0] 62)) ((hM.below hw).below b1) hb0)
 have HM:=af hM
 have HR:=af (show S.map (xG M t tb)=rI M t tb S N/\o6 M t tb S=o6 M t tb (S.take N)/\xF M t tb S=xF M t tb (S.take N) by
  rw[<-hN,List.take_of_length_le (aF _)]
  refine⟨?_,rfl,rfl⟩
  unfold rI
  rw[List.take_of_length_le (aF _),List.drop_length,List.append_nil])
 clear hG h hN hM hb0
 go_enter Tryz.func100,Tryz.ntmps100
 go_upto_region 1 with fail
 generalize hW0:w.alloc _=W0 at*
 clear hW0
 go_wp2_with fail
 refine bP q1.out fun w1 hb1=>?_
 have B1:=ay b1 hb1
 have kr:=ag.below k1 hb1 k1.lt
 have hs1:w.heap.size+1<=w1.heap.size:=kr.lt
 have G1:=ag.below HG.out B1 hGl
 have BB1:=ay hw B1
 have hws:=hw.size
 clear q1 b1 k1 hb1
 cases hask:ly M t tb with
 |false=>
  have HZ:=af (show eP ⟨S,f⟩ M t tb=(⟨S,f⟩,1,0,[]) by rw[HA.out,hask];rfl);have f0:=ag.frozen kr 0;have f1:=ag.frozen kr 1;have f2:=ag.frozen kr 2;have c0:=ax kr 0 (.int .i64 0) rfl;have c1:=ax kr 1 (.int .i64 0) rfl;have c2:=ax kr 2 (.slice none 0 0) rfl;obtain⟨n9,kA,kB⟩:=iG (ak.of_below (S:=fun k=>k=G) B1) (aF _) kr (.int .i64 1) (.int .i64 0) (.slice none 0 0);have hs9:=(H.out.below BB1).an kr kB;have G9:=ag.keptK G1 kB (show ¬(G=w.heap.size) by omega);clear HA kr kB hask;go_wp2_with fail
  refine bodyPost_ret (results_cell_row rfl _ _ w.heap.size 62 #[.int .i64 1,.int .i64 0,.slice none 0 0] (0,0) _ rfl n9 Tryz.underlying62 rfl (by kernel_rfl)) rfl ?_;unfold gJ;rw[HZ.out];exact⟨_,_,.slice none 0 0,[],rfl,iq.nil _,hs9,G9,eE,by simp,rfl,kA⟩
 |true=>
 have HZ:=af (show eP ⟨S,f⟩ M t tb=(⟨S.map (xG M t tb),f⟩,0,(o6 M t tb S:Int),xF M t tb S) by rw[HA.out,hask];rfl)
 have y0:=ax G1 0 (.slice sa N sc) rfl
 clear HA hask
 go_wp2_with fail
 refine(q3.out _ BB1).mono ?_
 rintro e w2 ⟨v1,Z,rfl,hZ,hV,hrow,hb2⟩
 obtain⟨ca,cc,hv1⟩:=aH hrow
 have hZl:=af (show Z.length=N by rw[<-HN.out,<-hZ,List.length_map])
 rw[hZl.out] at hv1
 subst hv1
 have G2:=ag.below G1 hb2 G1.lt
 have kr2:=ag.below kr hb2 kr.lt
 have B2:=ay B1 hb2
 have BB2:=ay BB1 hb2
 have hkG:ak w2 (w2.setCell ⟨G,0,none⟩ (.slice ca N cc)) (fun k=>k=G):=ak.of_grown (ap _ _ _ _) fun k e=>(aA e).symm
 have G3:ag (w2.setCell ⟨G,0,none⟩ (.slice ca N cc)) G 158 (lW (.slice ca N cc) f (.int .i64 ge) kd lv (.slice ma M.length mc) t tb u og (.slice none 0 0)):=ag.set_ G2 0 _
 have kr3:=ag.keptK kr2 hkG (show ¬(w.heap.size=G) by omega)
 have hrl:=hrow.lt
 have BB3:=BB2.trans (hkG.below BB2.size fun k e=>by omega)
 have hs2:w1.heap.size<=w2.heap.size:=hb2.size
 have I3:pY w0 w G (.slice ca N cc) (.slice none 0 0) (w2.setCell ⟨G,0,none⟩ (.slice ca N cc)) Z []:=
  ⟨BB3,(ak.of_below B2).trans hkG,aK (aK hs1 hs2) hkG.size,eK (aw hrow hkG fun k hk e=>by have:=(hrl k hk).1;omega) hs1,eE,fun k _ e=>(by cases e),
   fun z hz=>⟨(hV z hz).1,(hV z hz).2.1,(hV z hz).2.2.below BB3,AP (hV z hz).2.2 fun k hk=>by
    rcases hk with hk|hk|hk
    ·have:=(hrl k hk).1;omega
    ·omega
    ·cases hk⟩,fun z hz=>(by cases hz)⟩
 have hf0:=ag.frozen G2 0
 have y0:=ax G2 0 (.slice sa N sc) rfl
 have y1:=ax G3 0 (.slice ca N cc) rfl
 have HZ0:=af (show Z.map (fun z=>z.1)=rI M t tb S 0 by rw[hZ];unfold rI;simp)
 clear q3 hrow hrl hV hb2 G2 kr2 B2 BB2 hkG hZ G1 kr B1 BB1 hs1 hs2 BB3
 go_wp2_with fail
 generalize hW3:w2.setCell _ _=W3 at*
 clear hW3 hf0 y0 y1
 go_loopw [3,27] (fun vn vi wr=>∃(j:Nat) (rv:Value) (Z:List (aP×Value×Value)) (R:List (Rc×Value)),j<=N/\vi=.int .i64 (j:Int)/\vn=.int .i64 (o6 M t tb (S.take j):Int)/\o6 M t tb (S.take j)<=j*100000/\pY w0 w G (.slice ca N cc) rv wr Z R/\
  ag wr w.heap.size 62 #[.int .i64 0,.int .i64 0,.slice none 0 0]/\ag wr G 158 (lW (.slice ca N cc) f (.int .i64 ge) kd lv (.slice ma M.length mc) t tb u og rv)/\Hid (Z.map (fun z=>z.1)=rI M t tb S j)/\Hid (R.map (fun z=>z.1)=xF M t tb (S.take j))/\R.length<=j/\Hid (Z.length=N)) (fun _ vi _=>N-(intOf vi).toNat)
 case atStart=>exact⟨0,_,Z,[],Nat.zero_le _,rfl,rfl,Nat.zero_le _,I3,kr3,G3,HZ0,af rfl,aF _,hZl⟩
 clear I3 kr3 G3 HZ0 hZl Z
 obtain⟨j,rv,Z,R,hj,rfl,rfl,hnc,I,kr,Gr,HZj,HRj,hRl,hZl⟩:=hrel
 obtain⟨ra,rc,rfl⟩:=aH I.rrow
 rcases(show j<N\/j=N by omega) with hjn|rfl
 ·have hjl:j<S.length:=by rw[HN.out];exact hjn
  have hjZ:j<Z.length:=by rw[hZl.out];exact hjn
  obtain⟨z,hz⟩:∃z,Z[j]?=some z:=⟨_,aW hjZ⟩
  have hzm:=List.mem_of_getElem? hz;have hzS:z.1=S[j]:=by
   have h1:=yY M t tb S hjl;rw[<-HZj.out,List.getElem?_map,hz] at h1;exact aA h1
  have hzV:=I.ser z hzm;rcases I.row.2 with⟨_,h0⟩|⟨g,gcc,cur,e9,_⟩
  ·omega
  obtain⟨rfl,e10,e11⟩:=Value.slice.inj e9;clear e9 e10 e11;obtain⟨d0,d1,d2⟩:=ee I.row hz;have HNs:=af (E9 M t tb S hjl);have HRs:=af (E8 M t tb S hjl);have HMs:=af (And.intro (yX M t tb S hjl) (Ek M t tb S hjl));rw[<-hzS] at HNs HRs HMs;generalize o6 M t tb (S.take j)=dn at*;have hnx:=af (show ∀d,d<=100000->dn+d<=(j+1)*100000 from fun d h=>by rw[Nat.add_mul];omega);obtain⟨⟨yl,ys,b⟩,zl,zv⟩:=z;simp only at hzV d0 d1 d2;obtain⟨hok,hlab,hsm,hap⟩:=hzV;obtain⟨ya,yc,rfl,_⟩:=id hlab;obtain⟨za2,zc2,rfl,_⟩:=id hsm;have hgl:=I.row.lt g rfl;have b3:=ai wr (.cells #[.slice ya yl.length yc,.slice za2 ys.length zc2,.int .i64 b] 88);have k3:=ag.new wr 88 #[.slice ya yl.length yc,.slice za2 ys.length zc2,.int .i64 b];have e1:=ax k3 1 (.slice za2 ys.length zc2) rfl;have I3:=I.next b3;have G3:=ag.below Gr b3 Gr.lt;have q:=af (fun W (hW:Below wr.heap.size wr W)=>mF _ ys t tb W (hsm.below hW));have qA:=af (fun W (hW:Below wr.heap.size wr W)=>DC M _ yl _ W (HM.out.below (I.below.trans (hW.mono I.below.size))) (hlab.below (I.below.trans (hW.mono I.below.size))));have hys:=hsm.len;have HH:=af (show rK M t tb ⟨yl,ys,b⟩=(uo M yl&& !decide ((bU ys t tb).length=ys.length)) from rfl);have HC:=af (show xG M t tb ⟨yl,ys,b⟩=if rK M t tb ⟨yl,ys,b⟩ then⟨yl,bU ys t tb,b⟩ else⟨yl,ys,b⟩ from rfl);have hle:(bU ys t tb).length<=ys.length:=List.length_filter_le _ _;simp only at HNs HRs;clear hzS;generalize bU ys t tb=ys2 at*;go_upto_region 8 with fail
  generalize hW3:wr.alloc _=W3' at*;clear hW3;have g1:=aj e1;have g6:=aj (ax G3 6 (.int .i64 t) rfl);have g7:=aj (ax G3 7 (.int .i64 tb) rfl);refine cC (R:=bZ) 12 100 (by kernel_rfl) (by kernel_rfl) (by kernel_rfl) ?_;simp only[List.take_succ_cons,List.take_zero,List.drop_succ_cons,List.drop_zero];iterate 12 (refine bH fun K hK=>?_;go_big_quiet_step (fail);refine hK _ ?_;clear hK K)
  refine eF ?_;intro w4 hb4;simp only[az];unfold bD;have B4:=ay b3 hb4;clear g1 g6 g7;go_wp2_with fail
  refine(q.out _ B4).mono ?_;rintro e w5 ⟨v2,rfl,hs2,hb5,hfr⟩;have hb35:=ay hb4 hb5;have k5:=ag.below k3 hb35 k3.lt;have B5:=ay B4 hb5;obtain⟨ba,bc,rfl,_⟩:=id hs2;have hlen2:=hs2.len;have I5:=I3.next hb35;have kr5:=ag.below kr B5 kr.lt;have G5:=ag.below G3 hb35 G3.lt;have z0:=ax k5 0 (.slice ya yl.length yc) rfl;have z1:=ax k5 1 (.slice za2 ys.length zc2) rfl;have z5:=ax G5 5 (.slice ma M.length mc) rfl;have hwk:wr.heap.size<W3'.heap.size:=k3.lt;have hnew:∀k,(Value.slice ba ys2.length bc).ownBlock=some k->wr.heap.size<k:=fun k e=>by have:=hfr k e;have:=hb4.size;omega
  have hrr:=I.rrow.lt;have hGr:=Gr.lt;have hsz5:=hb35.size;have hw9:IntKind.i64.wrap ((j:Int)+1)=(j:Int)+1:=ct _ (by omega);clear q hfr hb4 hb5 hb35 k3 e1 b3 B4 G3 I3 d0 d1 d2 kr Gr;have g0:=aj z0;have gx:=aj z1;have g5:=aj z5;cases hAll:uo M yl with
  |false=>
   rw[hAll] at qA HH;have hhit:rK M t tb ⟨yl,ys,b⟩=false:=HH.out;go_wp2_with fail
   refine ed ?_;iterate 7 (refine bH fun K hK=>?_;go_big_quiet_step (fail);refine hK _ ?_;clear hK K)
   (refine fP (f:=167) (args:=#[.slice ma M.length mc,.slice ya yl.length yc]) (v:=.bool false) (fun W hW=>qA.out W (B5.trans (Below.mono hW B5.size))) fun K hK=>?_;go_big_quiet_step (fail);refine hK _ ?_;clear hK K);iterate 2 (refine bH fun K hK=>?_;go_big_quiet_step (fail);refine hK _ ?_;clear hK K)
   iterate 6 (refine Bo fun K hK=>?_;go_big_quiet_step (fail);refine hK _ ?_;clear hK K)
   (refine bH fun K hK=>?_;go_big_quiet_step (fail);refine hK _ ?_;clear hK K);refine eF ?_;intro w6 hb6;simp only[az];have I6:=I5.next hb6;have hs6:=hs2.below hb6;have k6:=ag.below k5 hb6 k5.lt;have kr6:=ag.below kr5 hb6 kr5.lt;have G6:=ag.below G5 hb6 G5.lt;have hsz6:=hb6.size;clear g0 gx g5 z0 z1 z5 qA hs2 hb6 k5 kr5 G5 I5;clear hs6 k6 hok hlab hsm hap;go_wp2_with fail
   go_roundw
   case rel=>exact⟨j+1,_,Z,R,hjn,by go_num,by rw[HNs.out,hhit,if_neg (by decide),Nat.add_zero],by rw[HNs.out,hhit,if_neg (by decide)];exact hnx.out 0 (Nat.zero_le _),I6,kr6,G6,af (by rw[HZj.out];exact HMs.out.2 hhit),af (by rw[HRs.out,hhit,HRj.out];simp),by omega,hZl⟩
   case measure=>simp[intOf];omega
  |true=>
   rw[hAll] at qA HH;by_cases hq:ys2.length=ys.length
   ·have hhit:rK M t tb ⟨yl,ys,b⟩=false:=by rw[HH.out,decide_eq_true hq];rfl
    have hqi:(ys2.length:Int)=(ys.length:Int):=by omega
    have Hq:=af hq;clear hq;go_wp2_with fail
    refine ed ?_;iterate 7 (refine bH fun K hK=>?_;go_big_quiet_step (fail);refine hK _ ?_;clear hK K)
    (refine fP (f:=167) (args:=#[.slice ma M.length mc,.slice ya yl.length yc]) (v:=.bool true) (fun W hW=>qA.out W (B5.trans (Below.mono hW B5.size))) fun K hK=>?_;go_big_quiet_step (fail);refine hK _ ?_;clear hK K);iterate 3 (refine bH fun K hK=>?_;go_big_quiet_step (fail);refine hK _ ?_;clear hK K)
    (refine nt (v:=.int .i64 (ys2.length:Int)) (fun _ _=>by go_simp) fun K hK=>?_;go_big_quiet_step (fail);refine hK _ ?_;clear hK K);iterate 2 (refine bH fun K hK=>?_;go_big_quiet_step (fail);refine hK _ ?_;clear hK K)
    (refine nt (v:=.int .i64 (ys.length:Int)) (fun _ _=>by go_simp) fun K hK=>?_;go_big_quiet_step (fail);refine hK _ ?_;clear hK K);iterate 2 (refine bH fun K hK=>?_;go_big_quiet_step (fail);refine hK _ ?_;clear hK K)
    refine eF ?_;intro w6 hb6;simp only[az];have I6:=I5.next hb6;have hs6:=hs2.below hb6;have k6:=ag.below k5 hb6 k5.lt;have kr6:=ag.below kr5 hb6 kr5.lt;have G6:=ag.below G5 hb6 G5.lt;have hsz6:=hb6.size;clear g0 gx g5 z0 z1 z5 qA hs2 hb6 k5 kr5 G5 I5;clear hs6 k6 hok hlab hsm hap;go_wp2_with fail
    go_roundw
    case rel=>exact⟨j+1,_,Z,R,hjn,by go_num,by rw[HNs.out,hhit,if_neg (by decide),Nat.add_zero],by rw[HNs.out,hhit,if_neg (by decide)];exact hnx.out 0 (Nat.zero_le _),I6,kr6,G6,af (by rw[HZj.out];exact HMs.out.2 hhit),af (by rw[HRs.out,hhit,HRj.out];simp),by omega,hZl⟩
    case measure=>simp[intOf];omega
   ·have hhit:rK M t tb ⟨yl,ys,b⟩=true:=by rw[HH.out,decide_eq_false hq];rfl
    have hqi:¬((ys2.length:Int)=(ys.length:Int)):=by omega
    go_wp2_with fail
    refine ed ?_;iterate 7 (refine bH fun K hK=>?_;go_big_quiet_step (fail);refine hK _ ?_;clear hK K)
    (refine fP (f:=167) (args:=#[.slice ma M.length mc,.slice ya yl.length yc]) (v:=.bool true) (fun W hW=>qA.out W (B5.trans (Below.mono hW B5.size))) fun K hK=>?_;go_big_quiet_step (fail);refine hK _ ?_;clear hK K);iterate 3 (refine bH fun K hK=>?_;go_big_quiet_step (fail);refine hK _ ?_;clear hK K)
    (refine nt (v:=.int .i64 (ys2.length:Int)) (fun _ _=>by go_simp) fun K hK=>?_;go_big_quiet_step (fail);refine hK _ ?_;clear hK K);iterate 2 (refine bH fun K hK=>?_;go_big_quiet_step (fail);refine hK _ ?_;clear hK K)
    (refine nt (v:=.int .i64 (ys.length:Int)) (fun _ _=>by go_simp) fun K hK=>?_;go_big_quiet_step (fail);refine hK _ ?_;clear hK K);iterate 2 (refine bH fun K hK=>?_;go_big_quiet_step (fail);refine hK _ ?_;clear hK K)
    refine eF ?_;intro w6 hb6;simp only[az];have I6:=I5.next hb6;have hs6:=hs2.below hb6;have k6:=ag.below k5 hb6 k5.lt;have kr6:=ag.below kr5 hb6 kr5.lt;have G6:=ag.below G5 hb6 G5.lt;have hsz6:=hb6.size;clear g0 gx g5 z0 z1 z5 qA hs2 hb6 k5 kr5 G5 I5;have hgg:=hgl;have z1:=ax k6 1 (.slice za2 ys.length zc2) rfl;have y0:=ax G6 0 (.slice (some ⟨g,0,none⟩) N cc) rfl;have gf:=bn (j:=j*3+1) I6.row rfl;have gc:=(ee I6.row hz).2.1;simp only at gc;have hw10:IntKind.i64.wrap ((ys.length:Int)-(ys2.length:Int))=(ys.length:Int)-(ys2.length:Int):=ct _ (by omega);have hw11:IntKind.i64.wrap ((dn:Int)+((ys.length:Int)-(ys2.length:Int)))=(dn:Int)+((ys.length:Int)-(ys2.length:Int)):=ct _ (by omega);have hjN:(j:Int)<(N:Int):=by omega
    have I7:=I6.setSer (u:=.slice ba ys2.length bc) hGl hGw rfl hz hs6 fun k hk e=>by
     have h1:=hnew k e;rcases hk with hk|hk|hk
     ·obtain rfl:=aA hk;exact absurd h1 (by have:=hgg.2;simp at*;omega)
     ·omega
     ·have:=(hrr k hk).2;omega
    have hkg:ak w6 (w6.setCell ⟨g,j*3+1,none⟩ (.slice ba ys2.length bc)) (fun k=>k=g):=ak.of_grown (ap _ _ _ _) fun k e=>(aA e).symm;have G7:=ag.keptK G6 hkg (show ¬(G=g) by omega);have k7:=ag.keptK k6 hkg (show ¬(wr.heap.size=g) by omega);have kr7:=ag.keptK kr6 hkg (show ¬(w.heap.size=g) by omega);have HQ:=af hq;clear hkg I6 G6 k6 kr6 hs6 hq hsm hap;go_upto_region 12 with fail
    generalize hW7:w6.setCell _ _=W7 at*;clear hW7 z1 y0 gf gc;have g10:=aj (ax G7 10 (.slice ra R.length rc) rfl);have g6:=aj (ax G7 6 (.int .i64 t) rfl);have g7:=aj (ax G7 7 (.int .i64 tb) rfl);have g0:=aj (ax k7 0 (.slice ya yl.length yc) rfl);go_wp2_with fail
    refine cC (R:=bZ) 19 0 (by kernel_rfl) (by kernel_rfl) (by kernel_rfl) ?_;simp only[List.take_succ_cons,List.take_zero,List.drop_succ_cons,List.drop_zero];iterate 17 (refine bH fun K hK=>?_;go_big_quiet_step (fail);refine hK _ ?_;clear hK K)
    (refine nt (v:=.agg #[.int .i64 1,.slice ya yl.length yc,.int .i64 t,.int .i64 tb,.int .u64 0]) (fun _ _=>by go_simp) fun K hK=>?_;go_big_quiet_step (fail);refine hK _ ?_;clear hK K);refine jr 97 1 [.int .i64 1,.slice ya yl.length yc,.int .i64 t,.int .i64 tb,.int .u64 0] (by kernel_rfl) (fun _ _ h=>by cases h) (by kernel_rfl) rfl 108 (fun W=>by go_simp) ?_;refine eF ?_;intro w8 hb8;simp only[az];rintro x ⟨p,cp,rfl,hp,hcells⟩;unfold bD;have I8:=I7.next hb8;have G8:=ag.below G7 hb8 G7.lt;have kr8:=ag.below kr7 hb8 kr7.lt;have hrow8:=I8.rrow;have hsz8:=I8.sz;obtain⟨i0,z0',hin,hz0,hz1,hz2,hz3⟩:=vS.info;clear g10 g6 g7 g0 hp G7 kr7 I7 k7;go_wp2_with (at_builtin;(refine wpList_append_own_at _ rfl _ _ 22 rfl (w.heap.size+1) 108 i0 z0' 5 56 vS.und hin hz0 hz1 hz2 hz3 (by decide) _ R.length _ rfl hrow8 ⟨p,0,none⟩ 1 cp [.int .i64 1,.slice ya yl.length yc,.int .i64 t,.int .i64 tb,.int .u64 0] rfl rfl hcells (by simp[Value.oneCell']) (by unfold maxLen;omega) (by omega) hsz8 ?_);intro rv' w9 hown' hgrow hnil hloc;obtain⟨na9,nc9,rfl⟩:=aH hown';have hk9:ak w8 w9 (fun k=>(Value.slice ra R.length rc).ownBlock=some k):=ak.of_grown hgrow (fun k e=>e);have G9:=ag.keptK G8 hk9 (fun e=>by have:=(hrr G e).1;omega);have f10:=ag.frozen G9 10;have c10:=ax G9 10 (.slice ra R.length rc) rfl)
    have I9:=I8.app (x:=⟨1,yl,t,tb,0⟩) (sl:=.slice ya yl.length yc) hGl hGw hk9 hlab hown' (hloc.imp id fun e k hk=>by rw[e] at hk;have:=aA hk;omega);have kr9:=ag.keptK kr8 hk9 (fun e=>by have:=(hrr _ e).1;omega);have hkX:ak w9 (w9.setCell ⟨G,10,none⟩ (.slice na9 (R.length+1) nc9)) (fun k=>k=G):=ak.of_grown (ap _ _ _ _) fun k e=>(aA e).symm;have krX:=ag.keptK kr9 hkX (show ¬(w.heap.size=G) by omega);have GX:ag (w9.setCell ⟨G,10,none⟩ (.slice na9 (R.length+1) nc9)) G 158 (lW (.slice (some ⟨g,0,none⟩) N cc) f (.int .i64 ge) kd lv (.slice ma M.length mc) t tb u og (.slice na9 (R.length+1) nc9)):=ag.set_ G9 10 _;clear hown' hgrow hnil hloc hk9 G9 G8 kr8 kr9 hkX hrow8 I8 hcells f10 c10;go_roundw
    case rel=>
     refine⟨j+1,_,_,_,hjn,by go_num,?_,?_,I9,krX,GX,af ?_,af ?_,?_,af ?_⟩
     ·rw[HNs.out,hhit,if_pos rfl];congr 1;omega
     ·rw[HNs.out,hhit,if_pos rfl];exact hnx.out _ (by omega)
     ·rw[List.map_set,HZj.out,<-HMs.out.1,HC.out,hhit,if_pos rfl]
     ·rw[List.map_append,HRj.out,HRs.out,hhit,if_pos rfl];rfl
     ·rw[aG];simp;omega
     ·rw[List.length_set];exact hZl.out
    case measure=>simp[intOf];omega
 ·have hat:=cX I.row rfl (by rw[hZl.out];omega) fun z hz=>I.serV hz;rw[HZj.out,<-HR.out.1] at hat;have f0:=ag.frozen kr 0;have f1:=ag.frozen kr 1;have f2:=ag.frozen kr 2;have c0:=ax kr 0 (.int .i64 0) rfl;have c1:=ax kr 1 (.int .i64 0) rfl;have c2:=ax kr 2 (.slice none 0 0) rfl;obtain⟨n9,kA,kB⟩:=iG I.kept (aF _) kr (.int .i64 0) (.int .i64 (o6 M t tb (S.take j):Int)) (.slice none 0 0);have hs9:=hat.an kr kB;have G9:=ag.keptK Gr kB (show ¬(G=w.heap.size) by omega);have row9:=eK (aw I.rrow kB fun k hk e=>by have:=(I.rrow.lt k hk).1;omega) (Nat.le_succ w.heap.size);have hlb:=I.labs;have hlbb:Below w0.heap.size w0 (((wr.setCell ⟨w.heap.size,0,none⟩ (.int .i64 0)).setCell ⟨w.heap.size,1,none⟩ (.int .i64 (o6 M t tb (S.take j):Int))).setCell ⟨w.heap.size,2,none⟩ (.slice none 0 0)):=I.below.trans (kB.below I.below.size fun k e=>by omega);clear hat kr kB I Gr HZj;go_wp2_with fail
  refine bodyPost_ret (results_cell_row rfl _ _ w.heap.size 62 #[.int .i64 0,.int .i64 (o6 M t tb (S.take j):Int),.slice none 0 0] (0,0) _ rfl n9 Tryz.underlying62 rfl (by kernel_rfl)) rfl ?_;unfold gJ;rw[HZ.out];rw[HR.out.2.1,HR.out.2.2];exact⟨_,_,_,R,rfl,iq.nil _,hs9,G9,row9,fun z hz=>(hlb z hz).below hlbb,HRj.out,kA⟩
theorem qE{P:Program}{fn:Func}{p q u:Tmp}{ty tz:TypeId}(h:fn.results=#[.cell p ty,.cell q tz,.tmp u])(tmps:Array Value)(w:World)(g g':Nat)(tb tc:TypeId)(cs ds:Array Value)(d e:TypeDesc)
 (hp:tmps.getD p undef=.pointer (some ⟨g,0,none⟩)) (hg:ag w g tb cs) (hq:tmps.getD q undef=.pointer (some ⟨g',0,none⟩)) (hg':ag w g' tc ds)
 (hu:P.underlying ty=some d) (hd:(match d with|.struct _|.array _ _=>true|_=>false)=true) (hi:(P.info? ty).map (·.size)=some cs.size)
 (hu':P.underlying tz=some e) (hd':(match e with|.struct _|.array _ _=>true|_=>false)=true) (hi':(P.info? tz).map (·.size)=some ds.size):
 (results fn tmps).run P w=.ok (.tuple #[.agg cs,.agg ds,tmps.getD u undef]) w:=by
 have hp':tmps[p]?.getD undef=.pointer (some ⟨g,0,none⟩):=by simpa using hp
 have hq':tmps[q]?.getD undef=.pointer (some ⟨g',0,none⟩):=by simpa using hq
 simp[results,h,hp',hq',asAddr,run_loadVar_row w g tb ty cs (0,0) d hg hu hd hi,run_loadVar_row w g' tc tz ds (0,0) e hg' hu' hd' hi']
def JA(w0:World)(g1 g2:Nat)(T1 T2:TypeId)(z1 c1 z2 c2:Array Value)(h1:ag w0 g1 T1 z1)(h2:ag w0 g2 T2 z2):fM where
 ph q w:=ak w0 w (fun k=>k=g1\/k=g2)/\ag w g1 T1 (if q=0 then z1 else c1)/\ag w g2 T2 (if q<=1 then z2 else c2)
 K _ _:=True
 w0:=w0
 start:=⟨ak.refl _ _,h1,h2⟩
 refl _:=trivial
 trans _ _:=trivial
 grow _:=trivial
 stay h k:=⟨h.1.trans (ak.of_below k),ag.below h.2.1 k h.2.1.lt,ag.below h.2.2 k h.2.2.lt⟩
theorem iu{w0:World}{g1 g2:Nat}{T1 T2:TypeId}{z1 c1 z2 c2:Array Value}{h1:ag w0 g1 T1 z1}{h2:ag w0 g2 T2 z2}{p:Addr}{v:Value}(hp:w0.cell? p=some v)(hn:p.block≠g1)(hm:p.block≠g2):∀x:PW (JA w0 g1 g2 T1 T2 z1 c1 z2 c2 h1 h2),x.w.cell? p=some v:=fun x=>by
 obtain⟨q,hq⟩:=x.2;exact hq.1.cell hp fun e=>e.elim hn hm
def E4 (s:m9)(k:Int)(l:List Lb)(M:List Mr)(t tb:Int)(u:Nat)(g:Int):m9×Int×Int×List aP×List Rc:=
 if k=0 then((eQ s l t u g).1,(eQ s l t u g).2.1,(eQ s l t u g).2.2.1,[],(eQ s l t u g).2.2.2)
 else if k=1 then((eP s M t tb).1,(eP s M t tb).2.1,(eP s M t tb).2.2.1,[],(eP s M t tb).2.2.2)
 else if k=2 then((iU s t).1,(iU s t).2.1,(iU s t).2.2.1,[],(iU s t).2.2.2)
 else if k=3 then(s,(xP s.ser M t tb).1,0,(xP s.ser M t tb).2,[])
 else(s,1,0,[],[])
def Ky (w:World)(r:m9×Int×Int×List aP×List Rc)(e:Ending)(w':World):Prop:=
 ∃v' av rv Z,e=.returned (.tuple #[.agg #[v',.int .i64 r.1.floor],.agg #[.int .i64 r.2.1,.int .i64 r.2.2.1,av],rv])/\aM w' v' r.1.ser/\aM w' av r.2.2.2.1/\
  w'.ownsRow w.heap.size 108 5 rv Z.length (aV Z)/\(∀z∈Z,aC w' z.2 z.1.labels)/\Z.map (fun z=>z.1)=r.2.2.2.2/\Below w.heap.size w w'
theorem Kx(sv lv mv:Value)(S:List aP)(l:List Lb)(M:List Mr)(f kd t tb og ge:Int)(u:Nat)(w:World)(h:aM w sv S)(hl:aC w lv l)(hM:iA w mv M)
 (hb0:∀m∈M,m.name.length<=1048576/\m.value.length<=1048576) (hu:ew (t,u)) (hg: -9223372036854775808<=ge/\ge<=9223372036854775807) (hS:S.length<=1000) (hSs:∀x∈S,x.samples.length<=1000):
 Calls Tryz.prog 29 #[.agg #[sv,.int .i64 f],.agg #[.int .i64 kd,lv,mv,.int .i64 t,.int .i64 tb,.int .u64 (u:Int),.int .i64 og],.int .i64 ge] w (Ky w (E4 ⟨S,f⟩ kd l M t tb u ge)):=by
 have HA:=af (show E4 ⟨S,f⟩ kd l M t tb u ge=if kd=0 then((eQ ⟨S,f⟩ l t u ge).1,(eQ ⟨S,f⟩ l t u ge).2.1,(eQ ⟨S,f⟩ l t u ge).2.2.1,[],(eQ ⟨S,f⟩ l t u ge).2.2.2)
  else if kd=1 then((eP ⟨S,f⟩ M t tb).1,(eP ⟨S,f⟩ M t tb).2.1,(eP ⟨S,f⟩ M t tb).2.2.1,[],(eP ⟨S,f⟩ M t tb).2.2.2)
  else if kd=2 then((iU ⟨S,f⟩ t).1,(iU ⟨S,f⟩ t).2.1,(iU ⟨S,f⟩ t).2.2.1,[],(iU ⟨S,f⟩ t).2.2.2)
  else if kd=3 then(⟨S,f⟩,(xP S M t tb).1,0,(xP S M t tb).2,[])
  else(⟨S,f⟩,1,0,[],[]) from rfl)
 obtain⟨va,vc,rfl,_⟩:=id h
 obtain⟨ra,rc,rfl,_⟩:=id hl
 obtain⟨ma,mc,rfl,_⟩:=id hM
 have b1:=ai w (.cells #[.slice va S.length vc,.int .i64 f] 49)
 have b2:=b1.alloc b1.size (.cells #[.int .i64 kd,.slice ra l.length rc,.slice ma M.length mc,.int .i64 t,.int .i64 tb,.int .u64 (u:Int),.int .i64 og] 69)
 have b3:=b2.alloc b2.size (.cells #[.slice none 0 0,.int .i64 0] 49)
 have b4:=b3.alloc b3.size (.cells #[.int .i64 0,.int .i64 0,.slice none 0 0] 62)
 have k1:=ag.new w 49 #[.slice va S.length vc,.int .i64 f]
 generalize hw1:w.alloc (.cells #[.slice va S.length vc,.int .i64 f] 49)=w1 at*
 have hz1:w1.heap.size=w.heap.size+1:=by rw[<-hw1,aY]
 have k2:=ag.new w1 69 #[.int .i64 kd,.slice ra l.length rc,.slice ma M.length mc,.int .i64 t,.int .i64 tb,.int .u64 (u:Int),.int .i64 og]
 have k1:=ag.alloc k1 (.cells #[.int .i64 kd,.slice ra l.length rc,.slice ma M.length mc,.int .i64 t,.int .i64 tb,.int .u64 (u:Int),.int .i64 og] 69)
 generalize hw2:w1.alloc (.cells #[.int .i64 kd,.slice ra l.length rc,.slice ma M.length mc,.int .i64 t,.int .i64 tb,.int .u64 (u:Int),.int .i64 og] 69)=w2 at*
 have hz2:w2.heap.size=w.heap.size+1+1:=by rw[<-hw2,aY,hz1]
 have k3:=ag.new w2 49 #[.slice none 0 0,.int .i64 0]
 have k1:=ag.alloc k1 (.cells #[.slice none 0 0,.int .i64 0] 49)
 have k2:=ag.alloc k2 (.cells #[.slice none 0 0,.int .i64 0] 49)
 generalize hw3:w2.alloc (.cells #[.slice none 0 0,.int .i64 0] 49)=w3 at*
 have hz3:w3.heap.size=w.heap.size+1+1+1:=by rw[<-hw3,aY,hz2]
 have k4:=ag.new w3 62 #[.int .i64 0,.int .i64 0,.slice none 0 0]
 have k1:=ag.alloc k1 (.cells #[.int .i64 0,.int .i64 0,.slice none 0 0] 62)
 have k2:=ag.alloc k2 (.cells #[.int .i64 0,.int .i64 0,.slice none 0 0] 62)
 have k3:=ag.alloc k3 (.cells #[.int .i64 0,.int .i64 0,.slice none 0 0] 62)
 rw[hz1] at k2
 rw[hz2] at k3
 rw[hz3] at k4
 generalize hw4:w3.alloc (.cells #[.int .i64 0,.int .i64 0,.slice none 0 0] 62)=w4 at*
 have hz4:w4.heap.size=w.heap.size+1+1+1+1:=by rw[<-hw4,aY,hz3]
 go_enter Tryz.func29,Tryz.ntmps29
 go_upto_region 1 with fail
 have y0:=ax k1 0 (.slice va S.length vc) rfl
 have y1:=ax k1 1 (.int .i64 f) rfl
 have z0:=ax k2 0 (.int .i64 kd) rfl
 have z1:=ax k2 1 (.slice ra l.length rc) rfl
 have z2:=ax k2 2 (.slice ma M.length mc) rfl
 have z3:=ax k2 3 (.int .i64 t) rfl
 have z4:=ax k2 4 (.int .i64 tb) rfl
 have z5:=ax k2 5 (.int .u64 (u:Int)) rfl
 have z6:=ax k2 6 (.int .i64 og) rfl
 have b5:=b4.alloc b4.size (.cells #[.slice va S.length vc,.int .i64 f,.int .i64 ge,.int .i64 kd,.slice ra l.length rc,.slice ma M.length mc,.int .i64 t,.int .i64 tb,.int .u64 (u:Int),.int .i64 og,.slice none 0 0] 158)
 have k5:=ag.new w4 158 (lW (.slice va S.length vc) f (.int .i64 ge) kd (.slice ra l.length rc) (.slice ma M.length mc) t tb u og (.slice none 0 0))
 rw[hz4] at k5
 have k1':=ag.alloc k1 (.cells (lW (.slice va S.length vc) f (.int .i64 ge) kd (.slice ra l.length rc) (.slice ma M.length mc) t tb u og (.slice none 0 0)) 158)
 have k2':=ag.alloc k2 (.cells (lW (.slice va S.length vc) f (.int .i64 ge) kd (.slice ra l.length rc) (.slice ma M.length mc) t tb u og (.slice none 0 0)) 158)
 have k3':=ag.alloc k3 (.cells (lW (.slice va S.length vc) f (.int .i64 ge) kd (.slice ra l.length rc) (.slice ma M.length mc) t tb u og (.slice none 0 0)) 158)
 have k4':=ag.alloc k4 (.cells (lW (.slice va S.length vc) f (.int .i64 ge) kd (.slice ra l.length rc) (.slice ma M.length mc) t tb u og (.slice none 0 0)) 158)
 unfold lW at k1' k2' k3' k4' k5
 clear k1 k2 k3 k4 b1 b2 b3 b4 hw1 hw2 hw3 hw4 hz1 hz2 hz3
 go_upto_region 3 with fail
 have hnb:w4.heap.size=w.heap.size+1+1+1+1:=hz4
 clear hz4 y0 y1 z0 z1 z2 z3 z4 z5 z6
 generalize hw5:w4.alloc _=w5 at*
 clear hw5
 have kz:=ax k2' 0 (.int .i64 kd) rfl
 have H:=af (And.intro h (And.intro hl (And.intro hM (And.intro hb0 (And.intro hu (And.intro hg (And.intro hS hSs)))))))
 have HK:=af (And.intro k1' (And.intro k3' (And.intro k4' k5)))
 have hy0:=ax k1' 0 (.slice va S.length vc) rfl
 have hy1:=ax k1' 1 (.int .i64 f) rfl
 clear h hl hM hb0 hu hg hS hSs k1' k2' k3' k4' k5
 go_upto_block 0 with fail
 go_cut [10] (fun s10 wx=>w5=wx/\∃fn,s10=.func (.func fn) #[.pointer (some ⟨w.heap.size+1+1+1+1,0,none⟩)] #[]/\(∀args W,(callFunc fn args).run Tryz.prog W=.ok (.enter fn args) W)/\
  Calls Tryz.prog fn #[.pointer (some ⟨w.heap.size+1+1+1+1,0,none⟩)] w5 (gJ w5 (w.heap.size+1+1+1+1) ge kd (.slice ra l.length rc) (.slice ma M.length mc) t tb u og (E4 ⟨S,f⟩ kd l M t tb u ge).1 (E4 ⟨S,f⟩ kd l M t tb u ge).2.1 (E4 ⟨S,f⟩ kd l M t tb u ge).2.2.1 (E4 ⟨S,f⟩ kd l M t tb u ge).2.2.2.1 (E4 ⟨S,f⟩ kd l M t tb u ge).2.2.2.2))
 case first=>
  by_cases h0:kd=0
  ·have f0:(kd==0)=true:=by simpa using h0
   have h0:=af h0;go_wp2_with fail
   go_meet;refine⟨rfl,99,rfl,fun _ _=>rfl,?_⟩;rw[HA.out,if_pos h0.out];exact Cv _ _ _ _ S l f ge kd t tb og u w5 HK.out.2.2.2 (H.out.1.below b5) (H.out.2.1.below b5) H.out.2.2.2.2.1 H.out.2.2.2.2.2.1 H.out.2.2.2.2.2.2.1 H.out.2.2.2.2.2.2.2
  have f0:(kd==0)=false:=by simpa using h0
  have h0:=af h0;by_cases h1:kd=1
  ·have f1:(kd==1)=true:=by simpa using h1
   have h1:=af h1;go_wp2_with fail
   go_meet;refine⟨rfl,100,rfl,fun _ _=>rfl,?_⟩;rw[HA.out,if_neg h0.out,if_pos h1.out];exact Cd _ _ _ _ S M f ge kd t tb og u w w5 HK.out.2.2.2 H.out.1 H.out.2.2.1 b5 (by omega) H.out.2.2.2.1
  have f1:(kd==1)=false:=by simpa using h1
  have h1:=af h1;by_cases h2:kd=2
  ·have f2:(kd==2)=true:=by simpa using h2
   have h2:=af h2;go_wp2_with fail
   go_meet;refine⟨rfl,101,rfl,fun _ _=>rfl,?_⟩;rw[HA.out,if_neg h0.out,if_neg h1.out,if_pos h2.out];exact GQ _ _ _ _ S f ge kd t tb og u w5 HK.out.2.2.2 (H.out.1.below b5) ⟨H.out.2.2.2.2.1.1,(show (0:Nat)<18446744073709551616 by decide)⟩ H.out.2.2.2.2.2.2.1 H.out.2.2.2.2.2.2.2
  have f2:(kd==2)=false:=by simpa using h2
  have h2:=af h2;by_cases h3:kd=3
  ·have f3:(kd==3)=true:=by simpa using h3
   have h3:=af h3;go_wp2_with fail
   go_meet;refine⟨rfl,102,rfl,fun _ _=>rfl,?_⟩;rw[HA.out,if_neg h0.out,if_neg h1.out,if_neg h2.out,if_pos h3.out];exact Jo _ _ _ _ S M f ge kd t tb og u w5 HK.out.2.2.2 (H.out.1.below b5) (H.out.2.2.1.below b5) H.out.2.2.2.1
  have f3:(kd==3)=false:=by simpa using h3
  have h3:=af h3;have HZ:=af (show E4 ⟨S,f⟩ kd l M t tb u ge=(⟨S,f⟩,1,0,[],[]) by rw[HA.out,if_neg h0.out,if_neg h1.out,if_neg h2.out,if_neg h3.out]);obtain⟨k1,k3,k4,k5⟩:=HK.out;obtain⟨n8,s2,s3⟩:=ix b5 (by omega) k3 (.slice va S.length vc) f;have c4:=s3 _ _ (H.out.1.below b5);have hkk:ak w5 ((w5.setCell ⟨w.heap.size+1+1,0,none⟩ (.slice va S.length vc)).setCell ⟨w.heap.size+1+1,1,none⟩ (.int .i64 f)) (fun k=>k=w.heap.size+1+1):=(ak.of_grown (ap _ _ _ _) fun k e=>(aA e).symm).trans (ak.of_grown (ap _ _ _ _) fun k e=>(aA e).symm);have k4:=ag.keptK k4 hkk (show ¬(w.heap.size+1+1+1=w.heap.size+1+1) by omega);have kf0:=ag.frozen k3 0;have kf1:=ag.frozen k3 1;have kc0:=ax k3 0 (.slice none 0 0) rfl;have kc1:=ax k3 1 (.int .i64 0) rfl;have f0:=ag.frozen k4 0;have f1:=ag.frozen k4 1;have f2:=ag.frozen k4 2;have c0:=ax k4 0 (.int .i64 0) rfl;have c1:=ax k4 1 (.int .i64 0) rfl;have c2:=ax k4 2 (.slice none 0 0) rfl;obtain⟨n9,kA,kB⟩:=iG (ak.of_below (S:=fun _=>False) s2) (show w.heap.size<=w.heap.size+1+1+1 by omega) k4 (.int .i64 1) (.int .i64 0) (.slice none 0 0);have hs9:=c4.an k4 kB;have n8':=ag.keptK n8 kB (show ¬(w.heap.size+1+1=w.heap.size+1+1+1) by omega);have hBB:=kA.below (aF _) (fun _ e=>e.elim);clear s3 c4 k1 k3 k4 k5 hkk kA kB n8 s2;go_wp2_with fail
  refine bodyPost_ret (qE rfl _ _ (w.heap.size+1+1) (w.heap.size+1+1+1) 49 62 _ _ _ _ rfl n8' rfl n9 Tryz.underlying49 rfl (by kernel_rfl) Tryz.underlying62 rfl (by kernel_rfl)) rfl ?_;unfold Ky;rw[HZ.out];exact⟨_,.slice none 0 0,.slice none 0 0,[],rfl,hs9,iq.nil _,eE,by simp,rfl,hBB⟩
 case rest=>
  obtain⟨rfl,fn,rfl,hcf,hq⟩:=hcut;obtain⟨k1,k3,k4,k5⟩:=HK.out;have Q:=af hq;obtain⟨⟨⟨S',f'⟩,er,nn,A,R⟩,hR⟩:∃p,E4 ⟨S,f⟩ kd l M t tb u ge=p:=⟨_,rfl⟩
  rw[hR] at Q;have HZ:=af hR;clear hq hR HA HK H kz hy0 hy1;go_wp2_with fail
  refine Q.out.mono ?_;rintro e w6 ⟨av,sv',rv,Z,rfl,hA,hs,G6,row,hlb,hZR,hk6⟩;have hA:aM w6 av A:=hA;have hs:aM w6 sv' S':=hs;obtain⟨aa,ac,rfl,_⟩:=id hA;obtain⟨ba,bc,rfl,_⟩:=id hs;obtain⟨ra',rc',rfl⟩:=aH row;have b7:=ai w6 (.cells #[.int .i64 er,.int .i64 nn,.slice aa A.length ac] 62);have k11:=ag.new w6 62 #[.int .i64 er,.int .i64 nn,.slice aa A.length ac];have B6:=b5.trans (hk6.below b5.size fun k e=>by omega);have k3:=ag.below (ag.keptK k3 hk6 (by omega)) b7 (ag.keptK k3 hk6 (by omega)).lt;have k4:=ag.below (ag.keptK k4 hk6 (by omega)) b7 (ag.keptK k4 hk6 (by omega)).lt;have G7:=ag.below G6 b7 G6.lt;have hG6:=G6.lt;have HF:=af (And.intro (hA.below b7) (And.intro (hs.below b7) (And.intro (aw row (ak.of_below (S:=fun _=>False) b7) (fun _ _ e=>e)) (And.intro (fun z hz=>(hlb z hz).below b7) (And.intro hZR (ay B6 b7))))));have hrl:=row.lt;have hw5s:w.heap.size+1+1+1+1<w5.heap.size:=k5.lt;clear Q hA hs G6 row hlb hZR hk6 k5 b5 B6 k1;go_upto_region 14 with fail
  generalize hW7:w6.alloc _=W7 at*;clear hW7;have p0:=iu (h1:=k3) (h2:=k4) (c1:=#[.slice ba S'.length bc,.int .i64 f']) (c2:=#[.int .i64 er,.int .i64 nn,.slice aa A.length ac]) (ax G7 0 (.slice ba S'.length bc) rfl) (show w.heap.size+1+1+1+1≠w.heap.size+1+1 by omega) (show w.heap.size+1+1+1+1≠w.heap.size+1+1+1 by omega);have p1:=iu (h1:=k3) (h2:=k4) (c1:=#[.slice ba S'.length bc,.int .i64 f']) (c2:=#[.int .i64 er,.int .i64 nn,.slice aa A.length ac]) (ax G7 1 (.int .i64 f') rfl) (show w.heap.size+1+1+1+1≠w.heap.size+1+1 by omega) (show w.heap.size+1+1+1+1≠w.heap.size+1+1+1 by omega);have p2:=iu (h1:=k3) (h2:=k4) (c1:=#[.slice ba S'.length bc,.int .i64 f']) (c2:=#[.int .i64 er,.int .i64 nn,.slice aa A.length ac]) (ax G7 10 (.slice ra' Z.length rc') rfl) (show w.heap.size+1+1+1+1≠w.heap.size+1+1 by omega) (show w.heap.size+1+1+1+1≠w.heap.size+1+1+1 by omega);have p3:=iu (h1:=k3) (h2:=k4) (c1:=#[.slice ba S'.length bc,.int .i64 f']) (c2:=#[.int .i64 er,.int .i64 nn,.slice aa A.length ac]) (ax k11 0 (.int .i64 er) rfl) (show w6.heap.size≠w.heap.size+1+1 by omega) (show w6.heap.size≠w.heap.size+1+1+1 by omega);have p4:=iu (h1:=k3) (h2:=k4) (c1:=#[.slice ba S'.length bc,.int .i64 f']) (c2:=#[.int .i64 er,.int .i64 nn,.slice aa A.length ac]) (ax k11 1 (.int .i64 nn) rfl) (show w6.heap.size≠w.heap.size+1+1 by omega) (show w6.heap.size≠w.heap.size+1+1+1 by omega);have p5:=iu (h1:=k3) (h2:=k4) (c1:=#[.slice ba S'.length bc,.int .i64 f']) (c2:=#[.int .i64 er,.int .i64 nn,.slice aa A.length ac]) (ax k11 2 (.slice aa A.length ac) rfl) (show w6.heap.size≠w.heap.size+1+1 by omega) (show w6.heap.size≠w.heap.size+1+1+1 by omega);refine cQ (JA W7 (w.heap.size+1+1) (w.heap.size+1+1+1) 49 62 #[.slice none 0 0,.int .i64 0] #[.slice ba S'.length bc,.int .i64 f'] #[.int .i64 0,.int .i64 0,.slice none 0 0] #[.int .i64 er,.int .i64 nn,.slice aa A.length ac] k3 k4) [9,10] rfl (by kernel_rfl) (by kernel_rfl) (by kernel_rfl) (by kernel_rfl) ?_;iterate 9 (refine iK fun K hK=>?_;go_big_quiet_step (fail);refine hK _ ?_;clear hK K)
  refine fS 0 (by kernel_rfl) (by kernel_rfl) rfl (fun _ _ h=>by cases h) (by kernel_rfl) rfl (fun W hW=>?_) ?_
  ·obtain⟨h1,h2,h3⟩:=hW;have h2:ag W (w.heap.size+1+1) 49 #[.slice none 0 0,.int .i64 0]:=h2;have kf0:=ag.frozen h2 0;have kf1:=ag.frozen h2 1;have kc0:=ax h2 0 (.slice none 0 0) rfl;have kc1:=ax h2 1 (.int .i64 0) rfl;have hkk:ak W ((W.setCell ⟨w.heap.size+1+1,0,none⟩ (.slice ba S'.length bc)).setCell ⟨w.heap.size+1+1,1,none⟩ (.int .i64 f')) (fun k=>k=w.heap.size+1+1\/k=w.heap.size+1+1+1):=(ak.of_grown (ap _ _ _ _) fun k e=>.inl (aA e).symm).trans (ak.of_grown (ap _ _ _ _) fun k e=>.inl (aA e).symm);exact⟨_,by go_simp,trivial,h1.trans hkk,(ag.set_ h2 0 _).set_ 1 _,ag.far (ag.far h3 (p:=⟨w.heap.size+1+1,0,none⟩) (show w.heap.size+1+1+1≠w.heap.size+1+1 by omega) _) (p:=⟨w.heap.size+1+1,1,none⟩) (show w.heap.size+1+1+1≠w.heap.size+1+1 by omega) _⟩
  refine fS 1 (by kernel_rfl) (by kernel_rfl) rfl (fun _ _ h=>by cases h) (by kernel_rfl) rfl (fun W hW=>?_) ?_
  ·obtain⟨h1,h2,h3⟩:=hW;have h3:ag W (w.heap.size+1+1+1) 62 #[.int .i64 0,.int .i64 0,.slice none 0 0]:=h3;have f0:=ag.frozen h3 0;have f1:=ag.frozen h3 1;have f2:=ag.frozen h3 2;have c0:=ax h3 0 (.int .i64 0) rfl;have c1:=ax h3 1 (.int .i64 0) rfl;have c2:=ax h3 2 (.slice none 0 0) rfl;have hkk:ak W (((W.setCell ⟨w.heap.size+1+1+1,0,none⟩ (.int .i64 er)).setCell ⟨w.heap.size+1+1+1,1,none⟩ (.int .i64 nn)).setCell ⟨w.heap.size+1+1+1,2,none⟩ (.slice aa A.length ac)) (fun k=>k=w.heap.size+1+1\/k=w.heap.size+1+1+1):=((ak.of_grown (ap _ _ _ _) fun k e=>.inr (aA e).symm).trans (ak.of_grown (ap _ _ _ _) fun k e=>.inr (aA e).symm)).trans (ak.of_grown (ap _ _ _ _) fun k e=>.inr (aA e).symm);exact⟨_,by go_simp,trivial,h1.trans hkk,ag.far (ag.far (ag.far h2 (p:=⟨w.heap.size+1+1+1,0,none⟩) (show w.heap.size+1+1≠w.heap.size+1+1+1 by omega) _) (p:=⟨w.heap.size+1+1+1,1,none⟩) (show w.heap.size+1+1≠w.heap.size+1+1+1 by omega) _) (p:=⟨w.heap.size+1+1+1,2,none⟩) (show w.heap.size+1+1≠w.heap.size+1+1+1 by omega) _,((ag.set_ h3 0 _).set_ 1 _).set_ 2 _⟩
  (refine iK fun K hK=>?_;go_big_quiet_step (fail);refine hK _ ?_;clear hK K);refine xW ?_;rintro WE _ hp;obtain⟨hkE,n8,n9⟩:=hp;have n8:ag WE (w.heap.size+1+1) 49 #[.slice ba S'.length bc,.int .i64 f']:=n8;have n9:ag WE (w.heap.size+1+1+1) 62 #[.int .i64 er,.int .i64 nn,.slice aa A.length ac]:=n9;simp only[az];clear p0 p1 p2 p3 p4 p5 G7 k11;go_wp2_with fail
  refine bodyPost_ret (qE rfl _ _ (w.heap.size+1+1) (w.heap.size+1+1+1) 49 62 _ _ _ _ rfl n8 rfl n9 Tryz.underlying49 rfl (by kernel_rfl) Tryz.underlying62 rfl (by kernel_rfl)) rfl ?_;unfold Ky;rw[HZ.out];obtain⟨hA,hs,row,hlb,hZR,hB⟩:=HF.out;have hkm:ak W7 ((W7.setCell ⟨w.heap.size+1+1,0,none⟩ (.slice ba S'.length bc)).setCell ⟨w.heap.size+1+1,1,none⟩ (.int .i64 f')) (fun k=>k=w.heap.size+1+1):=(ak.of_grown (ap _ _ _ _) fun k e=>(aA e).symm).trans (ak.of_grown (ap _ _ _ _) fun k e=>(aA e).symm);have n8m:ag ((W7.setCell ⟨w.heap.size+1+1,0,none⟩ (.slice ba S'.length bc)).setCell ⟨w.heap.size+1+1,1,none⟩ (.int .i64 f')) (w.heap.size+1+1) 49 #[.slice ba S'.length bc,.int .i64 f']:=(ag.set_ k3 0 _).set_ 1 _;have k4m:=ag.keptK k4 hkm (show ¬(w.heap.size+1+1+1=w.heap.size+1+1) by omega);have hszm:((W7.setCell ⟨w.heap.size+1+1,0,none⟩ (.slice ba S'.length bc)).setCell ⟨w.heap.size+1+1,1,none⟩ (.int .i64 f')).heap.size=W7.heap.size:=by simp[World.setCell]
  have hkn:ak ((W7.setCell ⟨w.heap.size+1+1,0,none⟩ (.slice ba S'.length bc)).setCell ⟨w.heap.size+1+1,1,none⟩ (.int .i64 f')) WE (fun k=>k=w.heap.size+1+1+1):=
   ⟨hkE.os.trans hkm.os.symm,hkE.tape.trans hkm.tape.symm,hkE.output.trans hkm.output.symm,by rw[hszm];exact hkE.size,fun i hi hn=>by
    by_cases e:i=w.heap.size+1+1
    ·subst e
     exact n8.trans n8m.symm
    ·rw[hszm] at hi
     exact(hkE.block i hi fun e2=>e2.elim e hn).trans (hkm.block i hi e).symm⟩
  exact⟨_,_,_,Z,rfl,(hs.st k3 hkm).an k4m hkn,(hA.st k3 hkm).an k4m hkn,eK (aw row hkE fun k hk e=>by have:=(hrl k hk).1;omega) (by omega),fun z hz=>((hlb z hz).st k3 hkm).an k4m hkn,hZR,hB.trans (hkE.below hB.size fun k e=>by omega)⟩
end
section
open Go Go.RowKit Go.Shelf Go.Maps
theorem IU(c:Nat)(h:c<4):IntKind.u64.wrap (IntKind.u64.wrap (2^(c+1))-2)=((2^(c+1)-2:Nat):Int):=by
 rcases(show c=0\/c=1\/c=2\/c=3 by omega) with rfl|rfl|rfl|rfl<;>rfl
theorem J7(s:Ak)(t:Int)(h:s.n≠0):sF s t=Fc (d9 s t):=by unfold sF;rw[if_neg h]
structure pX(w:World)(b:Nat)(L:List Bool)(g:Nat)(t:TypeId)(cs:Array Value)(W:World):Prop where
 wr:jZ b L W
 bx:ag W g t cs
 bk:BK b b w W
theorem jZ.far{b g i:Nat}{L:List Bool}{W:World}{t:TypeId}{cs:Array Value}{u:Value}(h:jZ b L W)(k:ag W g t cs)(ht:t≠5)(hg:g≠b):jZ b L (W.setCell ⟨g,i,none⟩ u):=by
 obtain⟨v,h1,h2⟩:=h;refine⟨v,ag.far h1 (by simpa using fun e=>hg e.symm) _,h2.kept (ap W g i u) ?_⟩;cases hv:v.ownBlock with
 |none=>exact .inl rfl
 |some x=>exact .inr fun e=>mO h2 k ht x hv (aA e)
theorem pX.set{w W:World}{b g i:Nat}{L:List Bool}{t:TypeId}{cs:Array Value}{u:Value}(h:pX w b L g t cs W)(ht:t≠5)(hb:b<w.heap.size)(hg:w.heap.size<=g):pX w b L g t (cs.setIfInBounds i u) (W.setCell ⟨g,i,none⟩ u):=
 ⟨h.wr.far h.bx ht (by omega),ag.set_ h.bx i u,um h.bk (Nat.le_of_lt hb) (ap W g i u) fun r e=>by cases e;exact hg⟩
theorem pX.below{w W W':World}{b g:Nat}{L:List Bool}{t:TypeId}{cs:Array Value}(h:pX w b L g t cs W)(hb:b<=w.heap.size)(k:Below W.heap.size W W'):pX w b L g t cs W':=
 ⟨h.wr.below k,ag.below h.bx k h.bx.lt,h.bk.trans (BK.of_below k (aK hb h.bk.1.size))⟩
theorem Id(b:Nat)(L:List Bool)(s:Ak)(t:Int)(w:World)(h:jZ b L w)(hL:L.length<=900000)(hn:s.n<=100000):
 Calls Tryz.prog 292 #[.pointer (some ⟨b,0,none⟩),uD s,.int .i64 t] w fun e w'=>e=.returned (uD (bE s t))/\jZ b (L++sF s t) w'/\BK b b w w':=by
 have hb:b<w.heap.size:=h.elim fun _ h=>h.1.lt
 have k0:=ag.new w 359 (lU s)
 have k1:=ag.new (w.alloc (.cells (lU s) 359)) 359 #[.int .i64 0,.int .i64 0,.int .i64 0]
 have k0':=k0.alloc (.cells #[.int .i64 0,.int .i64 0,.int .i64 0] 359)
 have b1:=ai w (.cells (lU s) 359)
 have b2:=b1.alloc b1.size (.cells #[.int .i64 0,.int .i64 0,.int .i64 0] 359)
 rw[aY] at k1
 have h2:jZ b L ((w.alloc (.cells (lU s) 359)).alloc (.cells #[.int .i64 0,.int .i64 0,.int .i64 0] 359)):=h.below b2
 have x0:=ax k0' 0 (.int .i64 (s.n:Int)) rfl
 have x1:=ax k0' 1 (.int .i64 s.t) rfl
 have x2:=ax k0' 2 (.int .i64 s.d) rfl
 have hst:=af (gV s)
 have hqa:=af (fun W=>Fm s t (by omega) W)
 by_cases h0:s.n=0
 ·have f1:((s.n:Int)==0)=true:=by rw[h0];rfl
  have HB:=af (show sF s t=bF (aS t) 64 by unfold sF;rw[if_pos h0]);have hu:=dI t;have hq:=af (fun W hW=>eD b L (aS t) 64 W hW (gz t) (by omega) (by omega));clear h0 h;rw[hst.out] at hqa⊢;unfold lU at*;go_enter Tryz.func292,Tryz.ntmps292
  go_wp2_with fail
  refine(hq.out _ h2).mono ?_;rintro e w3 ⟨rfl,h3,c3⟩;have r0:=c3.blk k0' (by omega) (by decide);have r1:=c3.blk k1 (by omega) (by decide);have c3':=(BK.of_below b2 (Nat.le_of_lt hb)).trans c3;clear k0 k1 k0' b1 b2 h2 c3 x0 x1 x2 hq;have x0:=ax r0 0 (.int .i64 (s.n:Int)) rfl;have x1:=ax r0 1 (.int .i64 s.t) rfl;have x2:=ax r0 2 (.int .i64 s.d) rfl;go_wp2_with fail
  refine(hqa.out _).mono ?_;rintro e w9 ⟨rfl,hb9⟩;have P:=(pX.mk h3 r1 c3').below (Nat.le_of_lt hb) hb9;have z0:=ag.frozen P.bx 0;have z1:=ag.frozen P.bx 1;have z2:=ag.frozen P.bx 2;have g0:=ax P.bx 0 (.int .i64 0) rfl;have g1:=ax P.bx 1 (.int .i64 0) rfl;have g2:=ax P.bx 2 (.int .i64 0) rfl;rw[gV];unfold lU;clear r0 r1 c3' h3 x0 x1 x2 hb9;go_wp2_with fail
  have P3:=((P.set (i:=0) (u:=.int .i64 ((bE s t).n:Int)) (by decide) hb (by omega)).set (i:=1) (u:=.int .i64 (bE s t).t) (by decide) hb (by omega)).set (i:=2) (u:=.int .i64 (bE s t).d) (by decide) hb (by omega);refine bodyPost_ret (results_cell_row rfl _ _ (w.heap.size+1) 359 (lU (bE s t)) (0,0) _ rfl P3.bx Tryz.underlying359 rfl (by kernel_rfl)) rfl ?_;exact⟨by rw[gV],by rw[HB.out];exact P3.wr,P3.bk⟩
 ·have f1:((s.n:Int)==0)=false:=by simp;omega
  have HB0:=J7 s t h0;have hqc:=af (fun W=>Ci s t W);have hqo:=af (fun W=>Jl (d9 s t) W);have hql:=af rj;have hcl:=pB (d9 s t);have HBC:=af (show Fc (d9 s t)=_ from rfl);have hib:=af (show d9 s t=dL (dL (t-s.t)-s.d) from rfl);have hcr:=rR (dL (t-s.t)-s.d);rw[<-hib.out] at hcr;have HIN:=af (fun hi:fe (d9 s t)<4=>uY (c:=d9 s t) rfl hi);unfold Fc at HBC;obtain⟨c,hc⟩:∃z,d9 s t=z:=⟨_,rfl⟩
  rw[hc] at HB0 hqc hqo hcl hcr HIN;clear hib;obtain⟨i,hi⟩:∃z,fe c=z:=⟨_,rfl⟩
  rw[hi] at hqo hcl HIN;have HB:Hid (sF s t=if i=4 then bF 15 4++bF (aS c) 64 else bF (2^(i+1)-2) (i+1)++bF (aS (c-gW i)) (kS i)):=af (by rw[HB0,<-hi];rfl);clear h0 h HB0 HBC hc hi;rw[hst.out] at hqa hqc⊢;unfold lU at*;go_enter Tryz.func292,Tryz.ntmps292
  go_wp2_with fail
  refine(hqc.out _).mono ?_;rintro e w3 ⟨rfl,hb3⟩;have h3:=h2.below hb3;have r0:=k0'.below hb3 k0'.lt;have r1:=k1.below hb3 k1.lt;have b3:=ay b2 hb3;clear k0 k1 k0' b1 b2 h2 hb3 x0 x1 x2 hqc;go_wp2_with fail
  refine(hqo.out _).mono ?_;rintro e w4 ⟨rfl,hb4⟩;go_wp2_with fail
  refine(hql.out _).mono ?_;rintro e w5 ⟨rfl,hb5⟩;have hb45:=ay hb4 hb5;have h5:=h3.below hb45;have r05:=r0.below hb45 r0.lt;have r15:=r1.below hb45 r1.lt;have b5:=ay b3 hb45;clear h3 r0 r1 b3 hb4 hb5 hb45 hqo hql;have k5:=ag.new w5 401 ug;have h6:=h5.below (ai w5 (.cells ug 401));have r06:=r05.alloc (.cells ug 401);have r16:=r15.alloc (.cells ug 401);have b6:=b5.alloc b5.size (.cells ug 401);have hlt5:w.heap.size+1<w5.heap.size:=r15.lt;unfold ug at*;clear h5 r05 r15 b5;by_cases h4:i=4
  ·subst h4;have hu:=dI c;have hq1:=af (fun W hW=>eD b L 15 4 W hW (by omega) (by omega) (by omega));have hq2:=af (fun W hW=>eD b (L++bF 15 4) (aS c) 64 W hW (gz c) (by omega) (by rw[aG,bJ];omega));go_wp2_with fail
   refine(hq1.out _ h6).mono ?_;rintro e w7 ⟨rfl,h7,c7⟩;go_wp2_with fail
   refine(hq2.out _ h7).mono ?_;rintro e w8 ⟨rfl,h3,c8⟩;have r0:=c8.blk (c7.blk r06 (by omega) (by decide)) (by omega) (by decide);have r1:=c8.blk (c7.blk r16 (by omega) (by decide)) (by omega) (by decide);have c3':=((BK.of_below b6 (Nat.le_of_lt hb)).trans c7).trans c8;clear h6 h7 c7 c8 b6 k5 r06 r16 hq1 hq2;have x0:=ax r0 0 (.int .i64 (s.n:Int)) rfl;have x1:=ax r0 1 (.int .i64 s.t) rfl;have x2:=ax r0 2 (.int .i64 s.d) rfl;go_wp2_with fail
   refine(hqa.out _).mono ?_;rintro e w9 ⟨rfl,hb9⟩;have P:=(pX.mk h3 r1 c3').below (Nat.le_of_lt hb) hb9;have z0:=ag.frozen P.bx 0;have z1:=ag.frozen P.bx 1;have z2:=ag.frozen P.bx 2;have g0:=ax P.bx 0 (.int .i64 0) rfl;have g1:=ax P.bx 1 (.int .i64 0) rfl;have g2:=ax P.bx 2 (.int .i64 0) rfl;rw[gV];unfold lU;clear r0 r1 c3' h3 x0 x1 x2 hb9;go_wp2_with fail
   have P3:=((P.set (i:=0) (u:=.int .i64 ((bE s t).n:Int)) (by decide) hb (by omega)).set (i:=1) (u:=.int .i64 (bE s t).t) (by decide) hb (by omega)).set (i:=2) (u:=.int .i64 (bE s t).d) (by decide) hb (by omega);refine bodyPost_ret (results_cell_row rfl _ _ (w.heap.size+1) 359 (lU (bE s t)) (0,0) _ rfl P3.bx Tryz.underlying359 rfl (by kernel_rfl)) rfl ?_;exact⟨by rw[gV],by rw[HB.out,if_pos trivial,<-List.append_assoc];exact P3.wr,P3.bk⟩
  ·have hi4:i<4:=by omega
   have hin:=HIN.out hi4;have f2:((i:Int)==4)=false:=by simp;omega
   have hw1:IntKind.i64.wrap ((i:Int)+1)=((i+1:Nat):Int):=ct _ (by omega);have hps:=IU i hi4;have hlow:gW i<=0/\ -2047<=gW i:=by unfold gW;repeat' split;all_goals omega
   have hhi:oy i<=2048:=by unfold oy;repeat' split;all_goals omega
   have hws:IntKind.i64.wrap (c-gW i)=c-gW i:=ct _ (by omega);have hu:=dI (c-gW i);have hsz:kS i<=64:=by rcases(show i=0\/i=1\/i=2\/i=3 by omega) with rfl|rfl|rfl|rfl<;>decide
   have hpl:(2:Nat)^(i+1)<=2^5:=Nat.pow_le_pow_right (by decide) (by omega);have hq1:=af (fun W hW=>eD b L (2^(i+1)-2) (i+1) W hW (by omega) (by omega) (by omega));have hq2:=af (fun W hW=>eD b (L++bF (2^(i+1)-2) (i+1)) (aS (c-gW i)) (kS i) W hW (gz _) hsz (by rw[aG,bJ];omega));have HI:=af (fun k (hk:k<12)=>hk);have e1:#[Value.int .i64 0,.int .i64 0,.int .i64 0,.int .i64 (-63),.int .i64 64,.int .i64 7,.int .i64 (-255),.int .i64 256,.int .i64 9,.int .i64 (-2047),.int .i64 2048,.int .i64 12][i*3]?=some (Value.int .i64 (gW i)):=by
    rcases(show i=0\/i=1\/i=2\/i=3 by omega) with rfl|rfl|rfl|rfl<;>rfl
   have e2:#[Value.int .i64 0,.int .i64 0,.int .i64 0,.int .i64 (-63),.int .i64 64,.int .i64 7,.int .i64 (-255),.int .i64 256,.int .i64 9,.int .i64 (-2047),.int .i64 2048,.int .i64 12][i*3+2]?=some (Value.int .i64 (kS i:Int)):=by
    rcases(show i=0\/i=1\/i=2\/i=3 by omega) with rfl|rfl|rfl|rfl<;>rfl
   clear hin HIN hhi hlow hpl HI hcr;go_wp2_with fail
   refine(hq1.out _ h6).mono ?_;rintro e w7 ⟨rfl,h7,c7⟩;have k7:=c7.blk k5 (by omega) (by decide);have r07:=c7.blk r06 (by omega) (by decide);have r17:=c7.blk r16 (by omega) (by decide);have c7':=(BK.of_below b6 (Nat.le_of_lt hb)).trans c7;have y0:=aj ((ag.cell k7 (i*3)).trans e1);have y1:=aj ((ag.cell k7 (i*3+2)).trans e2);clear h6 c7 b6 k5 r06 r16 hq1 k7;go_wp2_with fail
   refine kN ?_
   (try dsimp only);iterate 12 (refine bH fun K hK=>?_;go_big_quiet_step (fail);refine hK _ ?_;clear hK K)
   refine eF ?_;intro w75 hb75;simp only[az];have h75:=h7.below hb75;have r075:=r07.below hb75 r07.lt;have r175:=r17.below hb75 r17.lt;have c75:=c7'.trans (BK.of_below hb75 (aK (Nat.le_of_lt hb) c7'.1.size));clear y0 y1 h7 r07 r17 c7' hb75;go_wp2_with fail
   refine(hq2.out _ h75).mono ?_;rintro e w8 ⟨rfl,h3,c8⟩;have r0:=c8.blk r075 (by omega) (by decide);have r1:=c8.blk r175 (by omega) (by decide);have c3':=c75.trans c8;clear h75 c75 c8 r075 r175 hq2;have x0:=ax r0 0 (.int .i64 (s.n:Int)) rfl;have x1:=ax r0 1 (.int .i64 s.t) rfl;have x2:=ax r0 2 (.int .i64 s.d) rfl;go_wp2_with fail
   refine(hqa.out _).mono ?_;rintro e w9 ⟨rfl,hb9⟩;have P:=(pX.mk h3 r1 c3').below (Nat.le_of_lt hb) hb9;have z0:=ag.frozen P.bx 0;have z1:=ag.frozen P.bx 1;have z2:=ag.frozen P.bx 2;have g0:=ax P.bx 0 (.int .i64 0) rfl;have g1:=ax P.bx 1 (.int .i64 0) rfl;have g2:=ax P.bx 2 (.int .i64 0) rfl;rw[gV];unfold lU;clear r0 r1 c3' h3 x0 x1 x2 hb9;go_wp2_with fail
   have P3:=((P.set (i:=0) (u:=.int .i64 ((bE s t).n:Int)) (by decide) hb (by omega)).set (i:=1) (u:=.int .i64 (bE s t).t) (by decide) hb (by omega)).set (i:=2) (u:=.int .i64 (bE s t).d) (by decide) hb (by omega);refine bodyPost_ret (results_cell_row rfl _ _ (w.heap.size+1) 359 (lU (bE s t)) (0,0) _ rfl P3.bx Tryz.underlying359 rfl (by kernel_rfl)) rfl ?_;exact⟨by rw[gV],by rw[HB.out,if_neg h4,<-List.append_assoc];exact P3.wr,P3.bk⟩
end
section
open Go Go.RowKit Go.Shelf Go.Maps
attribute [local go_sem] am aq
theorem jZ.lt{b:Nat}{L:List Bool}{W:World}(h:jZ b L W):b<W.heap.size:=h.elim fun _ h=>h.1.lt
theorem cT{w W:World}{B g i:Nat}{u:Value}(h:Below B w W)(hg:B<=g):Below B w (W.setCell ⟨g,i,none⟩ u):=h.setCell (p:=⟨g,i,none⟩) hg u
theorem Ie(v:Value)(L:List Int)(w:World)(h:uw w v L)(hL:L.length<=1000):Calls Tryz.prog 267 #[v] w fun e w'=>e=.returned (.string (bs (kQ L)))/\Below w.heap.size w w':=by
 obtain⟨a,c,rfl,_,_,_,h5⟩:=h;obtain⟨N,hN⟩:∃N,L.length=N:=⟨_,rfl⟩
 rw[hN] at hL⊢;have HN:=af hN;have H5:=af h5;clear hN h5;have q:=af (nF w);go_enter Tryz.func267,Tryz.ntmps267
 go_wp2_with fail
 refine q.out.mono ?_;rintro e w1 ⟨rfl,h1,b1,hs1⟩;have h2:=h1.below (ai w1 (.cells #[.int .i64 0,.int .i64 0,.int .i64 0] 359));have k2:=ag.new w1 359 #[.int .i64 0,.int .i64 0,.int .i64 0];have b2:=b1.alloc b1.size (.cells #[.int .i64 0,.int .i64 0,.int .i64 0] 359);rw[hs1] at k2;clear q h1 b1;go_wp2_with fail
 generalize hw2:w1.alloc _=w2 at*;clear hw2 hs1;go_loopw [10] (fun i wr=>∃(j:Nat) (s:Ak) (P:List Bool),j<=N/\i=.int .i64 (j:Int)/\jZ w.heap.size P wr/\ag wr (w.heap.size+1) 359 (lU s)/\Below w.heap.size w wr/\s.n<=j/\P.length<=68*j/\Hid (kT ⟨0,0,0⟩ L=P++kT s (L.drop j))) (fun i _=>N-(intOf i).toNat)
 case atStart=>exact⟨0,⟨0,0,0⟩,[],Nat.zero_le _,rfl,h2,k2,b2,aF _,aF _,af rfl⟩
 case round=>
  clear h2 k2 b2;obtain⟨j,s,P,hj,rfl,hw,hk,hbl,hsn,hPl,HP⟩:=hrel;rcases(show j<N\/j=N by omega) with hjn|rfl
  ·have hjl:j<L.length:=by rw[HN.out];exact hjn
   obtain⟨g,o,rfl,hc⟩:=H5.out j L[j] (aW hjl);have hc2:=cu hbl hc;have HP2:=af (show kT ⟨0,0,0⟩ L=(P++sF s L[j])++kT (bE s L[j]) (L.drop (j+1)) by rw[HP.out,List.append_assoc,List.drop_eq_getElem_cons hjl];rfl);have hbl2:=yx s L[j];generalize L[j]=t at*;have hq:=af (Id w.heap.size P s t wr hw (by omega) (by omega));have hwl:=hw.lt;rw[gV] at hq;have HC:=af (show (bE s t).n<=j+1 by unfold bE;split<;>simp;omega);have y0:=ax hk 0 (.int .i64 (s.n:Int)) rfl;have y1:=ax hk 1 (.int .i64 s.t) rfl;have y2:=ax hk 2 (.int .i64 s.d) rfl;unfold lU at hq hk;clear hjl hc hw HP;go_wp2_with fail
   refine hq.out.mono ?_;rintro e w5 ⟨rfl,h5,k5⟩;have r5:=k5.blk hk (by omega) (by decide);have b5:=hbl.trans k5.1;clear hq y0 y1 y2 hc2 hk hbl k5;have f0:=ag.frozen r5 0;have f1:=ag.frozen r5 1;have f2:=ag.frozen r5 2;have g0:=ax r5 0 (.int .i64 (s.n:Int)) rfl;have g1:=ax r5 1 (.int .i64 s.t) rfl;have g2:=ax r5 2 (.int .i64 s.d) rfl;have hw1:IntKind.i64.wrap ((j:Int)+1)=(j:Int)+1:=ct _ (by omega);rw[gV];unfold lU;go_wp2_with fail
   have r6:=((r5.set_ 0 (.int .i64 ((bE s t).n:Int))).set_ 1 (.int .i64 (bE s t).t)).set_ 2 (.int .i64 (bE s t).d);have h6:=((h5.far (i:=0) (u:=.int .i64 ((bE s t).n:Int)) r5 (by decide) (by omega)).far (i:=1) (u:=.int .i64 (bE s t).t) (r5.set_ 0 _) (by decide) (by omega)).far (i:=2) (u:=.int .i64 (bE s t).d) ((r5.set_ 0 _).set_ 1 _) (by decide) (by omega);have b6:=cT (i:=2) (u:=.int .i64 (bE s t).d) (cT (i:=1) (u:=.int .i64 (bE s t).t) (cT (i:=0) (u:=.int .i64 ((bE s t).n:Int)) b5 (show w.heap.size<=w.heap.size+1 by omega)) (show w.heap.size<=w.heap.size+1 by omega)) (show w.heap.size<=w.heap.size+1 by omega);clear f0 f1 f2 g0 g1 g2 r5 h5 b5;go_roundw
   case rel=>exact⟨j+1,bE s t,P++sF s t,hjn,by go_num,h6,r6,b6,HC.out,by rw[aG];omega,HP2⟩
   case measure=>simp[intOf];omega
  ·have hq:=af (uq w.heap.size P wr hw);have HE:=af (show ef P=kQ L by
    unfold kQ
    rw[HP.out,List.drop_of_length_le (by rw[HN.out];exact aF _)]
    simp[kT])
   clear HP H5 hk hw;go_wp2_with fail
   refine bP hq.out fun w5 rfl=>?_;go_wp2_with fail
   go_ret;exact⟨by rw[<-HE.out];rfl,hbl⟩
end
section
open Go Go.RowKit Go.Shelf Go.Maps
theorem AW(p:Option Int)(L:List cJ)(j:Nat)(hj:j<L.length):nK p (L.drop j)=((match p with|none=>true|some t=>decide (t<L[j].1))&&nK (some L[j].1) (L.drop (j+1))):=by
 rw[List.drop_eq_getElem_cons hj];rfl
def qG(L:List cJ)(j:Nat):Option Int:=match j with
 |0=>none
 |k+1=>(L[k]?).map fun x=>x.1
theorem lz(v:Value)(L:List cJ)(w:World)(h:aI w v L):Calls Tryz.prog 62 #[v] w fun e w'=>e=.returned (.bool (dj L))/\Below w.heap.size w w':=by
 obtain⟨a,c,rfl,_,hl0,_,h5⟩:=h;obtain⟨N,hN⟩:∃N,L.length=N:=⟨_,rfl⟩
 rw[hN] at hl0⊢;have HN:=af hN;have H5:=af h5;clear hN h5;go_enter Tryz.func62,Tryz.ntmps62
 go_wp2_with fail
 go_loopw [6] (fun i wr=>∃j:Nat,j<=N/\i=.int .i64 (j:Int)/\Below w.heap.size w wr/\Hid (dj L=nK (qG L j) (L.drop j))) (fun i _=>N-(intOf i).toNat)
 case atStart=>exact⟨0,Nat.zero_le _,rfl,bQ,af rfl⟩
 case round=>
  obtain⟨j,hj,rfl,hbl,HJ⟩:=hrel;rcases(show j<N\/j=N by omega) with hjn|rfl
  ·have hjl:j<L.length:=by rw[HN.out];exact hjn
   have hj9:IntKind.i64.wrap ((j:Int)+1)=(j:Int)+1:=ct _ (by omega);have HS:=af (HJ.out.trans (AW (qG L j) L j hjl));have HP:=af (show qG L (j+1)=some L[j].1 by show (L[j]?).map _=_;rw[aW hjl];rfl);by_cases h0:j=0
   ·have f1:decide ((0:Int)<(j:Int))=false:=decide_eq_false (by omega);have f1':decide (0<j)=false:=decide_eq_false (by omega);have hpn:qG L j=none:=by rw[h0];rfl
    have HR:=af (show dj L=nK (qG L (j+1)) (L.drop (j+1)) by rw[HS.out,HP.out,hpn];rfl);clear hpn;clear HJ HS HP h0;go_wp2_with fail
    refine ed ?_
    (try dsimp only);iterate 3 (refine bH fun K hK=>?_;go_big_quiet_step (fail);refine hK _ ?_;clear hK K)
    iterate 12 (refine Bo fun K hK=>?_;go_big_quiet_step (fail);refine hK _ ?_;clear hK K)
    iterate 1 (refine bH fun K hK=>?_;go_big_quiet_step (fail);refine hK _ ?_;clear hK K)
    refine eF ?_;intro w5 hb5;simp only[az];have b5:=ay hbl hb5;go_wp2_with fail
    go_roundw
    case rel=>exact⟨j+1,by omega,by go_num,b5,HR⟩
    case measure=>simp[intOf];omega
   ·have f1:decide ((0:Int)<(j:Int))=true:=decide_eq_true (by omega);have f1':decide (0<j)=true:=decide_eq_true (by omega);obtain⟨k,hk⟩:∃k,k+1=j:=⟨j-1,by omega⟩
    have hkl:k<L.length:=by omega
    have hk9:IntKind.i64.wrap ((j:Int)-1)=(k:Int):=(ct _ (by omega)).trans (by omega);obtain⟨g,o,rfl,hx1⟩:=H5.out j L[j] (aW hjl);obtain⟨g2,o2,e2,hx2⟩:=H5.out k L[k] (aW hkl);obtain⟨rfl,rfl⟩:g=g2/\o=o2:=by injection e2 with e3;injection e3 with e4 e5;exact⟨e4,e5⟩
    have y1:=aj (cu hbl hx1.2.1);have y2:=aj (cu hbl hx2.2.1);have HQ:=af (show qG L j=some L[k].1 by subst hk;unfold qG;simp only[];rw[aW hkl];rfl);generalize L[k].1=tk at*;generalize L[j].1=tj at*;clear hx1 hx2 e2 hjl hkl;have hkN:k<N:=by omega
    by_cases hlt:tk<tj
    ·have f2:decide (tj<=tk)=false:=decide_eq_false (by omega);have HR:=af (show dj L=nK (qG L (j+1)) (L.drop (j+1)) by rw[HS.out,HP.out,HQ.out];simp[hlt]);clear HJ HS HP HQ hlt hk h0;go_wp2_with fail
     refine ed ?_
     (try dsimp only);iterate 16 (refine bH fun K hK=>?_;go_big_quiet_step (fail);refine hK _ ?_;clear hK K)
     refine eF ?_;intro w5 hb5;simp only[az];have b5:=ay hbl hb5;clear y1 y2;go_wp2_with fail
     go_roundw
     case rel=>exact⟨j+1,by omega,by go_num,b5,HR⟩
     case measure=>simp[intOf];omega
    ·have f2:decide (tj<=tk)=true:=decide_eq_true (by omega);have HR:=af (show dj L=false by rw[HS.out,HQ.out];simp[hlt]);clear HJ HS HP HQ hlt hk h0;go_wp2_with fail
     refine ed ?_
     (try dsimp only);iterate 16 (refine bH fun K hK=>?_;go_big_quiet_step (fail);refine hK _ ?_;clear hK K)
     refine eF ?_;intro w5 hb5;simp only[az];have b5:=ay hbl hb5;clear y1 y2;go_wp2_with fail
     go_ret;exact⟨by rw[HR.out];rfl,b5⟩
  ·have HR:=af (show dj L=true by rw[HJ.out,List.drop_of_length_le (by rw[HN.out];exact aF _)];rfl);clear HJ H5;go_wp2_with fail
   go_ret;exact⟨by rw[HR.out];rfl,hbl⟩
def jE:Array Value:=#[.nilFunc,.nilFunc,.func (.func 217) #[] #[],.func (.func 218) #[] #[],.func (.func 219) #[] #[],.func (.func 220) #[] #[],.func (.func 221) #[] #[],.func (.func 222) #[] #[]]
theorem vH(w:World):Calls Tryz.prog 170 #[] w fun e w'=>e=.returned (.agg jE)/\Below w.heap.size w w':=by
 go_enter Tryz.func170,Tryz.ntmps170
 go_wp2;refine bodyPost_ret (results_cell_row rfl _ _ w.heap.size 245 jE (0,0) _ rfl (ag.new _ _ _) Tryz.underlying245 rfl (by kernel_rfl)) rfl ?_;exact⟨rfl,ai _ _⟩
def wZ (g:Nat):Nat:=if g=1 then 217 else if g=2 then 219 else 221
def xy (g:Nat):Nat:=if g=1 then 218 else if g=2 then 220 else 222
def Hb(g:Nat):Array Value:=#[.func (.func (wZ g)) #[] #[],.func (.func (xy g)) #[] #[]]
theorem vI(g:Nat)(h1:1<=g)(h3:g<=3)(w:World):Calls Tryz.prog 107 #[.int .i64 (g:Int)] w fun e w'=>e=.returned (.tuple #[.agg (Hb g),.bool true])/\Below w.heap.size w w':=by
 have qf:=af vH;have r0:=ag.new w 177 #[.nilFunc,.nilFunc];have b0:=ai w (.cells #[.nilFunc,.nilFunc] 177);rcases(show g=1\/g=2\/g=3 by omega) with rfl|rfl|rfl
 ·go_enter Tryz.func107,Tryz.ntmps107
  go_wp2_with fail
  refine(qf.out _).mono ?_;rintro e w1 ⟨rfl,hb1⟩;have r1:=(r0.below hb1 r0.lt).alloc (.cells jE 245);have k1:=ag.new w1 245 jE;have b1:=(ay b0 hb1).alloc (ay b0 hb1).size (.cells jE 245);have z0:=ag.frozen r1 0;have z1:=ag.frozen r1 1;have g0:=ax r1 0 Value.nilFunc rfl;have g1:=ax r1 1 Value.nilFunc rfl;have y0:=ax k1 2 (.func (.func 217) #[] #[]) rfl;have y1:=ax k1 3 (.func (.func 218) #[] #[]) rfl;clear r0 b0 k1 qf;unfold jE at*;go_wp2_with fail
  refine i4 ((r1.set_ 0 _).set_ 1 _) Tryz.underlying177 ?_;exact⟨rfl,cT (cT b1 (aF _)) (aF _)⟩
 ·go_enter Tryz.func107,Tryz.ntmps107
  go_wp2_with fail
  refine(qf.out _).mono ?_;rintro e w1 ⟨rfl,hb1⟩;have r1:=(r0.below hb1 r0.lt).alloc (.cells jE 245);have k1:=ag.new w1 245 jE;have b1:=(ay b0 hb1).alloc (ay b0 hb1).size (.cells jE 245);have z0:=ag.frozen r1 0;have z1:=ag.frozen r1 1;have g0:=ax r1 0 Value.nilFunc rfl;have g1:=ax r1 1 Value.nilFunc rfl;have y0:=ax k1 4 (.func (.func 219) #[] #[]) rfl;have y1:=ax k1 5 (.func (.func 220) #[] #[]) rfl;clear r0 b0 k1 qf;unfold jE at*;go_wp2_with fail
  refine i4 ((r1.set_ 0 _).set_ 1 _) Tryz.underlying177 ?_;exact⟨rfl,cT (cT b1 (aF _)) (aF _)⟩
 ·go_enter Tryz.func107,Tryz.ntmps107
  go_wp2_with fail
  refine(qf.out _).mono ?_;rintro e w1 ⟨rfl,hb1⟩;have r1:=(r0.below hb1 r0.lt).alloc (.cells jE 245);have k1:=ag.new w1 245 jE;have b1:=(ay b0 hb1).alloc (ay b0 hb1).size (.cells jE 245);have z0:=ag.frozen r1 0;have z1:=ag.frozen r1 1;have g0:=ax r1 0 Value.nilFunc rfl;have g1:=ax r1 1 Value.nilFunc rfl;have y0:=ax k1 6 (.func (.func 221) #[] #[]) rfl;have y1:=ax k1 7 (.func (.func 222) #[] #[]) rfl;clear r0 b0 k1 qf;unfold jE at*;go_wp2_with fail
  refine i4 ((r1.set_ 0 _).set_ 1 _) Tryz.underlying177 ?_;exact⟨rfl,cT (cT b1 (aF _)) (aF _)⟩
theorem vJ(g:Int)(h:g<1\/3<g)(w:World):Calls Tryz.prog 107 #[.int .i64 g] w fun e w'=>e=.returned (.tuple #[.agg #[.nilFunc,.nilFunc],.bool false])/\Below w.heap.size w w':=by
 have qf:=af vH;have r0:=ag.new w 177 #[.nilFunc,.nilFunc];have b0:=ai w (.cells #[.nilFunc,.nilFunc] 177);by_cases h1:g<1
 ·have f1:decide (g<1)=true:=decide_eq_true h1;go_enter Tryz.func107,Tryz.ntmps107
  go_wp2_with fail
  refine(qf.out _).mono ?_;rintro e w1 ⟨rfl,hb1⟩;have r1:=(r0.below hb1 r0.lt).alloc (.cells jE 245);have k1:=ag.new w1 245 jE;have b1:=(ay b0 hb1).alloc (ay b0 hb1).size (.cells jE 245);have z0:=ag.frozen r1 0;have z1:=ag.frozen r1 1;have g0:=ax r1 0 Value.nilFunc rfl;have g1:=ax r1 1 Value.nilFunc rfl;clear r0 b0 k1 qf;unfold jE at*;go_wp2_with fail
  refine bodyPost_ret (me rfl _ _ w.heap.size 177 #[.nilFunc,.nilFunc] _ rfl ((r1.set_ 0 _).set_ 1 _) Tryz.underlying177 rfl (by kernel_rfl)) rfl ?_;exact⟨rfl,cT (cT b1 (aF _)) (aF _)⟩
 ·have f1:decide (g<1)=false:=decide_eq_false h1;have f2:decide (4<=g)=true:=decide_eq_true (by omega);go_enter Tryz.func107,Tryz.ntmps107
  go_wp2_with fail
  refine(qf.out _).mono ?_;rintro e w1 ⟨rfl,hb1⟩;have r1:=(r0.below hb1 r0.lt).alloc (.cells jE 245);have k1:=ag.new w1 245 jE;have b1:=(ay b0 hb1).alloc (ay b0 hb1).size (.cells jE 245);have z0:=ag.frozen r1 0;have z1:=ag.frozen r1 1;have g0:=ax r1 0 Value.nilFunc rfl;have g1:=ax r1 1 Value.nilFunc rfl;clear r0 b0 k1 qf;unfold jE at*;go_wp2_with fail
  refine bodyPost_ret (me rfl _ _ w.heap.size 177 #[.nilFunc,.nilFunc] _ rfl ((r1.set_ 0 _).set_ 1 _) Tryz.underlying177 rfl (by kernel_rfl)) rfl ?_;exact⟨rfl,cT (cT b1 (aF _)) (aF _)⟩
end
section
open Go.RowKit
attribute [local go_sem] am aq
theorem wT(x:aP)(f:Int)(h:(decide (bz x.labels=0)&&(decide (x.samples.length<=200)&&(dj x.samples&&decide (x.last<=1125899906842624))))=false):ex x f=false:=by
 unfold ex;rw[h];rfl
theorem AZ(x:aP)(f:Int)(h:(decide (bz x.labels=0)&&(decide (x.samples.length<=200)&&(dj x.samples&&decide (x.last<=1125899906842624))))=true)(hn:x.samples.length=0):ex x f=decide (f<=x.last):=by
 obtain⟨l,s,b⟩:=x;obtain rfl:s=[]:=List.length_eq_zero_iff.1 hn;unfold ex;rw[h];rfl
theorem yF(x:aP)(f:Int)(h:(decide (bz x.labels=0)&&(decide (x.samples.length<=200)&&(dj x.samples&&decide (x.last<=1125899906842624))))=true)(hn:0<x.samples.length):ex x f=(decide (f<=x.samples[0].1)&&decide ((x.samples[x.samples.length-1]'(by omega)).1<=x.last)):=by
 obtain⟨l,s,b⟩:=x;cases s with
 |nil=>simp at hn
 |cons y s=>
  unfold ex;rw[h];simp only[Bool.true_and,List.getLast_eq_getElem];rfl
theorem sI{w wr:World}{a:Option Addr}{n c:Nat}{L:List cJ}(h:aI w (.slice a n c) L){i:Nat}(hi:i<L.length)(hb:Below w.heap.size w wr):∃g o,a=some ⟨g,o,none⟩/\wr.cell? ⟨g,o+i*2,none⟩=some (.int .i64 L[i].1)/\wr.cell? ⟨g,o+i*2+1,none⟩=some (.int .u64 (L[i].2:Int)):=by
 obtain⟨a',c',h1,_,_,_,h5⟩:=h;obtain⟨rfl,_,_⟩:=Value.slice.inj h1;obtain⟨g,o,e,h6⟩:=h5 i L[i] (aW hi);obtain⟨_,k2,k3⟩:=pn.below h6 hb;exact⟨g,o,e,k2,k3⟩
theorem AY(sl sv:Value)(l:List Lb)(L:List cJ)(b f:Int)(w:World)(hl:aC w sl l)(hs:aI w sv L):
 Calls Tryz.prog 82 #[.agg #[sl,sv,.int .i64 b],.int .i64 f] w fun e w'=>e=.returned (.bool (ex ⟨l,L,b⟩ f))/\Below w.heap.size w w':=by
 have b1:=ai w (.cells #[sl,sv,.int .i64 b] 88)
 have k1:=ag.new w 88 #[sl,sv,.int .i64 b]
 have q1:=af (ji l sl _ (hl.below b1))
 have q2:=af (fun W (hb:Below w.heap.size w W)=>lz sv L W (hs.below hb))
 obtain⟨ra,rc,rfl,_⟩:=id hl
 obtain⟨sa,sc,rfl,_⟩:=id hs
 have H:=af hs
 have R1:=af (wT ⟨l,L,b⟩ f)
 have R2:=af (AZ ⟨l,L,b⟩ f)
 have R3:=af (yF ⟨l,L,b⟩ f)
 have hln:=hs.len
 obtain⟨c0,c1,c2⟩:=iQ k1
 simp only at R1 R2 R3
 clear hl hs
 go_enter Tryz.func82,Tryz.ntmps82
 go_wp2_with fail
 generalize hW0:w.alloc _=W0 at*
 clear hW0
 refine bP q1.out fun w1 hb1=>?_
 have B1:=ay b1 hb1
 have m1:=ag.below k1 hb1 k1.lt
 obtain⟨c0,c1,c2⟩:=iQ m1
 clear q1 hb1 k1 b1
 rcases od l with hc|hc
 case inr=>
  have HZ:=af (R1.out (by rw[hc];rfl));rw[hc];clear R1 R2 R3 hc q2;go_wp2_with fail
  go_ret;exact⟨by rw[HZ.out];rfl,B1⟩
 rw[hc] at R1 R2 R3⊢
 by_cases h2:L.length<=200
 case neg=>
  have HZ:=af (R1.out (by rw[decide_eq_false h2];rfl));have h2i:((200:Int)<(L.length:Int)):=by omega
  clear R1 R2 R3 hc q2;go_wp2_with fail
  go_ret;exact⟨by rw[HZ.out];rfl,B1⟩
 rw[decide_eq_true h2] at R1 R2 R3
 have h2i:¬((200:Int)<(L.length:Int)):=by omega
 clear hc
 go_wp2_with fail
 refine(q2.out _ B1).mono ?_
 rintro e w2 ⟨rfl,hb2⟩
 have B2:=ay B1 hb2
 have m2:=ag.below m1 hb2 m1.lt
 obtain⟨c0,c1,c2⟩:=iQ m2
 clear q2 hb2 m1
 cases hso:dj L with
 |false=>
  have HZ:=af (R1.out (by rw[hso];rfl));clear R1 R2 R3;go_wp2_with fail
  go_ret;exact⟨by rw[HZ.out];rfl,B2⟩
 |true=>
  rw[hso] at R1 R2 R3;clear hso;by_cases h4:b<=1125899906842624
  case neg=>
   have HZ:=af (R1.out (by rw[decide_eq_false h4];rfl));have h4i:((1125899906842624:Int)<b):=by omega
   clear R1 R2 R3;go_wp2_with fail
   go_ret;exact⟨by rw[HZ.out];rfl,B2⟩
  rw[decide_eq_true h4] at R1 R2 R3;have h4i:¬((1125899906842624:Int)<b):=by omega
  by_cases hn:L.length=0
  ·have HZ:=af (R2.out rfl hn);have hni:((L.length:Int)=0):=by omega
   have Hn:=af hn;clear R1 R2 R3 hn;go_wp2_with fail
   go_ret;exact⟨by rw[HZ.out];rfl,B2⟩
  ·have hp:0<L.length:=by omega
   have HZ:=af (R3.out rfl hp);have hni:¬((L.length:Int)=0):=by omega
   obtain⟨n',hn'⟩:∃n',n'=L.length-1:=⟨_,rfl⟩
   have hnl:n'<L.length:=by omega
   have HZ:=af (show ex ⟨l,L,b⟩ f=(decide (f<=L[0].1)&&decide (L[n'].1<=b)) by rw[HZ.out];subst hn';rfl);obtain⟨g,o,rfl,d0,_⟩:=sI H.out hp B2;obtain⟨g',o',e,e0,_⟩:=sI H.out hnl B2;cases e;rw[Nat.zero_mul,Nat.add_zero] at d0;have hwr:IntKind.i64.wrap ((L.length:Int)-1)=(n':Int):=by rw[ct _ (by omega)];omega
   have hnli:(n':Int)<(L.length:Int):=by omega
   have hpi:(0:Int)<(L.length:Int):=by omega
   clear hn' hn;have g1:=aj c1;have gb:=aj c2;have gd:=aj d0;have ge:=aj e0;by_cases h5:f<=L[0].1
   ·have HQ:=af (show ex ⟨l,L,b⟩ f=decide (L[n'].1<=b) by rw[HZ.out,decide_eq_true h5];rfl);clear R1 R2 R3 HZ;generalize L[0].1=x0 at*;generalize L[n'].1=x1 at*;go_wp2_with fail
    refine ed ?_;iterate 20 (refine bH fun K hK=>?_;go_big_quiet_step (fail);refine hK _ ?_;clear hK K)
    refine eF ?_;intro w5 hb5;simp only[az];go_wp2_with fail
    go_ret;exact⟨by rw[HQ.out];rfl,ay B2 hb5⟩
   ·have HQ:=af (show ex ⟨l,L,b⟩ f=false by rw[HZ.out,decide_eq_false h5];rfl);clear R1 R2 R3 HZ;generalize L[0].1=x0 at*;have h6:x0<f:=by omega
    have h7:decide (f<=x0)=false:=decide_eq_false h5;go_wp2_with fail
    refine ed ?_;iterate 8 (refine bH fun K hK=>?_;go_big_quiet_step (fail);refine hK _ ?_;clear hK K)
    iterate 10 (refine Bo fun K hK=>?_;go_big_quiet_step (fail);refine hK _ ?_;clear hK K)
    iterate 2 (refine bH fun K hK=>?_;go_big_quiet_step (fail);refine hK _ ?_;clear hK K)
    refine eF ?_;intro w5 hb5;simp only[az];go_wp2_with fail
    go_ret;exact⟨by rw[HQ.out];rfl,ay B2 hb5⟩
theorem xR{α:Type}(p:α->Bool):∀S:List α,S.any p=decide (0<=dX (S.findIdx? p))
 |[]=>rfl
 |x::S=>by
  have ih:=xR p S;rw[List.any_cons,List.findIdx?_cons];cases hp:p x with
  |true=>simp[dX]
  |false=>
   rw[Bool.false_or,ih,if_neg (by decide)];cases S.findIdx? p with
   |none=>rfl
   |some i=>
    show decide (0<=(i:Int))=decide (0<=((i+1:Nat):Int));rw[decide_eq_true (by omega),decide_eq_true (by omega)]
def xT(f:Nat)(capt:Array Value)(p:Rc->Bool)(w:World):Prop:=∀(x:Rc) (sl:Value) (W:World),Below w.heap.size w W->Kt W x sl->
 Calls Tryz.prog f (#[.agg #[.int .i64 x.kind,sl,.int .i64 x.t,.int .i64 x.u,.int .u64 (x.v:Int)]]++capt) W fun e W'=>e=.returned (.bool (p x))/\Below W.heap.size W W'
theorem GV(f:Nat)(capt:Array Value)(p:Rc->Bool)(v:Value)(S:List Rc)(w:World)(h:dz w v S)(hp:xT f capt p w)(hcf:∀args W,(callFunc f args).run Tryz.prog W=.ok (.enter f args) W):
 Calls Tryz.prog 133 #[v,.func (.func f) #[] capt] w fun e w'=>e=.returned (.int .i64 (dX (S.findIdx? p)))/\Below w.heap.size w w':=by
 obtain⟨a,c,rfl,hlen,hx⟩:=h
 have HX:=af hx
 have HP:=af hp
 clear hx hp
 obtain⟨N,hN⟩:∃N,S.length=N:=⟨_,rfl⟩
 have HN:=af hN
 rw[hN] at hlen⊢
 clear hN
 go_enter Tryz.func133,Tryz.ntmps133
 go_wp2_with fail
 go_loopw [5,8] (fun _ vi wr=>∃(i:Nat),i<=N/\vi=.int .i64 (i:Int)/\Below w.heap.size w wr/\Hid (S.findIdx? p=((S.drop i).findIdx? p).map (·+i))) (fun _ vi _=>N-(intOf vi).toNat)
 case atStart=>exact⟨0,Nat.zero_le _,rfl,bQ,af (by rw[List.drop_zero];cases S.findIdx? p<;>rfl)⟩
 obtain⟨i,hi',rfl,hb,HJ⟩:=hrel
 rcases(show i<N\/i=N by omega) with hil|rfl
 ·have hiL:i<S.length:=by rw[HN.out];exact hil
  obtain⟨b,o,rfl,hser⟩:=HX.out i S[i] (aW hiL);obtain⟨hok,sl,d0,d1,h1,d2,d3,d4⟩:=rs.below hser hb;have q:=af (HP.out S[i] sl wr hb ⟨hok,h1⟩);rw[i7 p S i hiL] at HJ;clear hser hok h1;generalize S[i]=y at*;clear hiL;obtain⟨bo,hbo⟩:∃bo,p y=bo:=⟨_,rfl⟩
  rw[hbo] at HJ q;clear hbo;have hw9:IntKind.i64.wrap ((i:Int)+1)=(i:Int)+1:=ct _ (by omega);go_wp2_with fail
  refine bP q.out fun w2 hb2=>?_;have B2:=ay hb hb2;clear q d0 d1 d2 d3 d4 hb hb2;cases bo with
  |true=>
   have HZ:=af (show dX (S.findIdx? p)=(i:Int) by rw[HJ.out];simp[dX]);clear HJ;go_wp2_with fail
   go_ret;exact⟨by rw[HZ.out];rfl,B2⟩
  |false=>
   have HZ:=af (show S.findIdx? p=((S.drop (i+1)).findIdx? p).map (·+(i+1)) by rw[HJ.out,if_neg (by decide)];cases (S.drop (i+1)).findIdx? p<;>simp[Nat.add_assoc,Nat.add_comm 1]);clear HJ;go_wp2_with fail
   go_roundw
   case rel=>exact⟨i+1,hil,by go_num,B2,HZ⟩
   case measure=>simp[intOf];omega
 ·have HZ:=af (show dX (S.findIdx? p)= -1 by rw[HJ.out,List.drop_of_length_le (by rw[HN.out];exact aF _)];rfl);clear HJ;go_wp2_with fail
  go_ret;exact⟨by rw[HZ.out];rfl,hb⟩
theorem Fb(f:Nat)(capt:Array Value)(p:aP->Bool)(v:Value)(S:List aP)(w:World)(h:aM w v S)(hp:jQ f capt p w)(hcf:∀args W,(callFunc f args).run Tryz.prog W=.ok (.enter f args) W):
 Calls Tryz.prog 65 #[v,.func (.func f) #[] capt] w fun e w'=>e=.returned (.bool (S.any p))/\Below w.heap.size w w':=by
 have q:=af (mp f capt p v S w h hp hcf)
 have HA:=af (xR p S)
 generalize dX (S.findIdx? p)=k at*
 clear h hp hcf
 go_enter Tryz.func65,Tryz.ntmps65
 go_wp2_with fail
 refine bP q.out fun w1 hb=>?_
 go_wp2_with fail
 go_ret
 exact⟨by rw[HA.out];rfl,hb⟩
theorem Fa(f:Nat)(capt:Array Value)(p:Rc->Bool)(v:Value)(S:List Rc)(w:World)(h:dz w v S)(hp:xT f capt p w)(hcf:∀args W,(callFunc f args).run Tryz.prog W=.ok (.enter f args) W):
 Calls Tryz.prog 64 #[v,.func (.func f) #[] capt] w fun e w'=>e=.returned (.bool (S.any p))/\Below w.heap.size w w':=by
 have q:=af (GV f capt p v S w h hp hcf)
 have HA:=af (xR p S)
 generalize dX (S.findIdx? p)=k at*
 clear h hp hcf
 go_enter Tryz.func64,Tryz.ntmps64
 go_wp2_with fail
 refine bP q.out fun w1 hb=>?_
 go_wp2_with fail
 go_ret
 exact⟨by rw[HA.out];rfl,hb⟩
end
section
open Go.RowKit Go.Maps Go.WideMaps Go.MapKept
attribute [local go_sem] am aq
theorem xI{T:TypeId}{w:World}{g:Nat}{sa:Option Addr}{c:Nat}{L:List Lb}(hB:ag w g T (List.replicate 12 (.string ⟨#[]⟩)).toArray)(hL:aC w (.slice sa L.length c) L)(h6:L.length<=6):
 ∃n w',(Builtin.copy_ #[65,65] 3 #[.slice (some ⟨g,0,none⟩) 6 6,.slice sa L.length c]).run Tryz.prog w=.ok (goInt n) w'/\ag w' g T (aQ (dG L)).toArray/\∀B w0,Below B w0 w->B<=g->Below B w0 w':=by
 have hp:aQ (dG L)=aQ L++List.replicate (12-L.length*2) (.string ⟨#[]⟩):=by
  unfold dG;rw[js,oT];congr 2;omega
 cases sa with
 |none=>
  have h0:L=[]:=by
   obtain⟨a,c',he,_,hc⟩:=hL;cases he;cases L with
   |nil=>rfl
   |cons x l=>
    obtain⟨_,_,_,_,e,_⟩:=hc 0 x rfl;cases e
  subst h0;refine⟨0,w,mb w _ _ _ 73 _ 6 6 c Tryz.underlying65 (by kernel_rfl),?_,fun _ _ h _=>h⟩;exact hB
 |some a=>
  have hm:Nat.min L.length 6=L.length:=Nat.min_eq_left h6;by_cases h0:L=[]
  ·subst h0;refine⟨0,_,dP w _ _ _ 73 g 0 6 6 a 0 c _ _ [] 2 0 Tryz.underlying65 (by kernel_rfl) hB rfl rfl (fun j v h=>by simp at h) (by simp) (by simp),?_,fun B w0 h hg=>below_setRow h hg _⟩;have:=setRow_heap w g _ (List.replicate 12 (Value.string ⟨#[]⟩)).toArray _ _ hB;exact this
  ·obtain⟨b,o,ha⟩:∃b o,a=⟨b,o,none⟩:=by
    obtain⟨a',c',he,_,hc⟩:=hL;cases he;cases L with
    |nil=>exact absurd rfl h0
    |cons x l=>
     obtain⟨_,_,b,o,e,_⟩:=hc 0 x rfl;exact⟨b,o,aA e⟩
   subst ha;refine⟨L.length,_,dP w _ _ _ 73 g 0 6 6 _ L.length c _ _ (aQ L) 2 L.length Tryz.underlying65 (by kernel_rfl) hB hm.symm (ek L) (qR hL) (by rw[ek];simp;omega) (fun v hv=>?_),?_,fun B w0 h hg=>below_setRow h hg _⟩
   ·unfold aQ at hv;obtain⟨x,_,hx⟩:=List.mem_flatMap.1 hv;simp only[List.mem_cons,List.not_mem_nil,or_false] at hx;rcases hx with rfl|rfl<;>rfl
   ·have:=setRow_heap w g (List.replicate 12 (Value.string ⟨#[]⟩)).toArray (aQ (dG L)).toArray _ _ hB;rw[hp] at this⊢;have e:List.take 0 (List.replicate 12 (Value.string ⟨#[]⟩)).toArray.toList++aQ L++List.drop (0+(aQ L).length) (List.replicate 12 (Value.string ⟨#[]⟩)).toArray.toList=aQ L++List.replicate (12-L.length*2) (.string ⟨#[]⟩):=by
     rw[ek,List.toList_toArray,List.take_zero,List.nil_append,Nat.zero_add,List.drop_replicate]
    rw[e];exact this
section
variable {P:Program} {k e t:TypeId} {w:World} {b clock:Nat} {es:Array MapEntry} {key z:Value} {kl:Lit}
def cZ(es:Array MapEntry)(clock:Nat)(key v:Value):Obj:=.map (es.push ⟨key,v,clock⟩) (clock+1)
theorem zL(K:KeyLaw P k)(hkey:keyOf P k key=some kl)(hk:∀x∈es.toList,∃l,keyOf P k x.key=some l)(hn:∀x∈es.toList,x.key≠key)(w:World):(Instr.findKey k key es.toList).run P w=.ok none w:=by
 rcases K.find w hkey es.toList hk with⟨h1,_⟩|⟨j,e0,_,h2,h3⟩
 ·exact h1
 ·exact absurd h3 (hn e0 (List.mem_of_getElem? h2))
theorem vO(K:KeyLaw P k)(hkey:keyOf P k key=some kl)(hk:∀x∈es.toList,∃l,keyOf P k x.key=some l)(hn:∀x∈es.toList,x.key≠key)(v:Value)(w:World):(Instr.findKey k key (es.push ⟨key,v,clock⟩).toList).run P w=.ok (some (es.size,v)) w:=by
 have hk':∀x∈(es.push ⟨key,v,clock⟩).toList,∃l,keyOf P k x.key=some l:=fun x hx=>by
  rw[Array.toList_push] at hx;rcases List.mem_append.1 hx with hx|hx
  ·exact hk x hx
  ·obtain rfl:=List.mem_singleton.1 hx;exact⟨kl,hkey⟩
 rcases K.find w hkey _ hk' with⟨_,h2⟩|⟨j,e0,h1,h2,h3⟩
 ·exact absurd rfl (h2 ⟨key,v,clock⟩ (by simp))
 ·rw[Array.toList_push] at h2;by_cases hj:j<es.toList.length
  ·rw[List.getElem?_append_left hj] at h2;exact absurd h3 (hn e0 (List.mem_of_getElem? h2))
  ·have hj2:=(List.getElem?_eq_some_iff.1 h2).1;simp at hj hj2;obtain rfl:j=es.size:=by omega
   simp at h2;subst h2;exact h1
theorem Gz(K:KeyLaw P k)(ht:P.underlying t=some (.map k e))(hz:∀u:World,(zeroValue e).run P u=.ok z u)(hkey:keyOf P k key=some kl)(hk:∀x∈es.toList,∃l,keyOf P k x.key=some l)(hn:∀x∈es.toList,x.key≠key)(hb:w.heap[b]?=some (.map es clock)):
 (Instr.lookup t (.map (some b)) key false).run P w=.ok z w:=by
 simp[Instr.lookup,run_underlying ht,MapKept.run_getObj_map hb,K.check w _ hkey,zL K hkey hk hn w,hz,Result.andThen]
theorem Et{c:Nat}(K:KeyLaw P k)(ht:P.underlying t=some (.map k e))(hkey:keyOf P k key=some kl)(hk:∀x∈es.toList,∃l,keyOf P k x.key=some l)(hn:∀x∈es.toList,x.key≠key)(hb:w.heap[b]?=some (.map (es.push ⟨key,z,clock⟩) c)):
 (Instr.lookup t (.map (some b)) key false).run P w=.ok z w:=by
 have h1:=vO (clock:=clock) K hkey hk hn z w
 simp only[Array.toList_push] at h1
 simp[Instr.lookup,run_underlying ht,MapKept.run_getObj_map hb,K.check w _ hkey,h1,Result.andThen]
theorem EZ(K:KeyLaw P k)(ht:P.underlying t=some (.map k e))(hz:∀u:World,(zeroValue e).run P u=.ok z u)(hkey:keyOf P k key=some kl)(hk:∀x∈es.toList,∃l,keyOf P k x.key=some l)(hn:∀x∈es.toList,x.key≠key)(hb:w.heap[b]?=some (.map es clock)):
 (Instr.mapEntry t (.map (some b)) key).run P w=.ok (.tuple #[z,goInt clock]) (Go.ChangeMaps.setBlock w b (cZ es clock key z)):=by
 simp[Instr.mapEntry,cZ,run_underlying ht,MapKept.run_getObj_map hb,K.check w false hkey,zL K hkey hk hn w,hz,MapKept.run_setObj_map _ hb,Result.andThen,Go.ChangeMaps.setBlock]
theorem BZ(K:KeyLaw P k)(ht:P.underlying t=some (.map k e))(hkey:keyOf P k key=some kl)(hk:∀x∈es.toList,∃l,keyOf P k x.key=some l)(hn:∀x∈es.toList,x.key≠key)(hb:w.heap[b]?=some (cZ es clock key z)):
 (Instr.mapEntry t (.map (some b)) key).run P w=.ok (.tuple #[z,goInt clock]) (Go.ChangeMaps.setBlock w b (cZ es clock key z)):=by
 unfold cZ at hb
 have h1:=vO (clock:=clock) K hkey hk hn z w
 simp only[Array.toList_push] at h1
 have hsame:(es.push ⟨key,z,clock⟩).modify es.size (fun e=>{e with key:=key})=es.push ⟨key,z,clock⟩:=by
  apply Array.ext';rw[Array.toList_modify,Array.toList_push,<-Array.length_toList,Go.WideElems.modify_last]
 simp[Instr.mapEntry,cZ,run_underlying ht,MapKept.run_getObj_map hb,K.check w false hkey,h1,hsame,K.stays w hkey,MapKept.run_setObj_map _ hb,Result.andThen,Go.ChangeMaps.setBlock]
theorem AO{v:Value}(hs1:∀x∈es.toList,x.born<clock)(hs2:(es.toList.map (·.born)).Nodup)(hb:w.heap[b]?=some (cZ es clock key z)):
 (Instr.entryStore t (.map (some b)) (goInt clock) v).run P w=.ok () (Go.ChangeMaps.setBlock w b (cZ es clock key v)):=by
 unfold cZ at hb
 have hidx:(es.push ⟨key,z,clock⟩).findIdx? (fun e=>((e.born:Nat):Int)==((clock:Nat):Int))=some es.size:=by
  rw[Go.WideElems.findIdx_arr];have:=Go.WideElems.findIdx_born (l:=(es.push ⟨key,z,clock⟩).toList) (j:=es.size) (e0:=⟨key,z,clock⟩) (by
   simp only[Array.toList_push,List.map_append,List.map_cons,List.map_nil]
   refine List.nodup_append.2 ⟨hs2,by simp,fun a ha c hc e1=>?_⟩
   simp only[List.mem_singleton] at hc
   obtain⟨x,hx,rfl⟩:=List.mem_map.1 ha
   have:=hs1 x hx
   omega) (by simp)
  exact this
 have hmod:(es.push ⟨key,z,clock⟩).modify es.size (fun e=>{e with val:=v})=es.push ⟨key,v,clock⟩:=by
  apply Array.ext';rw[Array.toList_modify,Array.toList_push,Array.toList_push,<-Array.length_toList,Go.WideElems.modify_last]
 simp[Instr.entryStore,cZ,MapKept.run_getObj_map hb,asInt,asIntOf,goInt,hidx,hmod,MapKept.run_setObj_map _ hb,Result.andThen,Go.ChangeMaps.setBlock]
end
end
section
open Go Go.ChangeMaps Go.MapKept Go.ChangeShapes Go.RowKit Go.WideMaps
open Go.WideElems (Fit rd rg pl rd_val elemAt findIdx_arr findIdx_born modify_last set_self)
open Go.Maps (Keyed)
section
variable {H:Type} {P:Program} {w:World} {t k e:TypeId} {R:Value->Option (DataW H×List MemPlace)} {b:Nat} {es:Array MapEntry} {clock:Nat}
theorem nX(F:Fit P k R es clock){i j:Nat}{x y:MapEntry}(h1:es.toList[i]?=some x)(h2:es.toList[j]?=some y)(hk:x.key=y.key):i=j/\x=y:=by
 have hn:es.toList.Pairwise (fun x y=>x.key≠y.key):=((stamped_iff es clock).1 F.stamped).2.2;obtain⟨hi,e1⟩:=List.getElem?_eq_some_iff.1 h1;obtain⟨hj,e2⟩:=List.getElem?_eq_some_iff.1 h2;rcases Nat.lt_trichotomy i j with h|h|h
 ·exact absurd (by rw[e1,e2];exact hk) (List.pairwise_iff_getElem.1 hn i j hi hj h)
 ·subst h;exact⟨rfl,e1.symm.trans e2⟩
 ·exact absurd (by rw[e1,e2];exact hk.symm) (List.pairwise_iff_getElem.1 hn j i hj hi h)
theorem DJ(K:KeyLaw P k)(ht:P.underlying t=some (.map k e))(F:Fit P k R es clock){key:Value}{kl:Lit}(hkey:keyOf P k key=some kl){val:Value}{es':Array MapEntry}{clock':Nat}(hb:w.heap[b]?=some (.map es clock))
 (h:(Instr.mapUpdate t (.map (some b)) key val).run P w=.ok () (setBlock w b (.map es' clock'))) {w':World} (hb':w'.heap[b]?=some (.map es clock)):(Instr.mapUpdate t (.map (some b)) key val).run P w'=.ok () (setBlock w' b (.map es' clock')):=by
 have hlt:b<w.heap.size:=(Array.getElem?_eq_some_iff.1 hb).1
 have hlt':b<w'.heap.size:=(Array.getElem?_eq_some_iff.1 hb').1
 have inj:∀{x y:Array MapEntry} {c d:Nat},setBlock w b (.map x c)=setBlock w b (.map y d)->x=y/\c=d:=fun {x y c d} h=>by
  have h1:(setBlock w b (.map x c)).heap[b]?=(setBlock w b (.map y d)).heap[b]?:=by rw[h]
  rw[heap_setBlock_same hb,heap_setBlock_same hb] at h1;have h2:=aA h1;exact⟨(Obj.map.inj h2).1,(Obj.map.inj h2).2⟩
 rcases K.find w hkey es.toList F.keys with⟨h1,h2⟩|⟨j,e0,h1,h2,h3⟩
 ·rcases K.find w' hkey es.toList F.keys with⟨g1,_⟩|⟨j',e',_,g2,g3⟩
  ·have r1:(Instr.mapUpdate t (.map (some b)) key val).run P w=.ok () (setBlock w b (.map (es.push ⟨key,val,clock⟩) (clock+1))):=by
    simp[Instr.mapUpdate,run_underlying ht,MapKept.run_getObj_map hb,K.check w false hkey,h1,MapKept.run_setObj_map _ hb,Result.andThen,setBlock]
   have r2:(Instr.mapUpdate t (.map (some b)) key val).run P w'=.ok () (setBlock w' b (.map (es.push ⟨key,val,clock⟩) (clock+1))):=by
    simp[Instr.mapUpdate,run_underlying ht,MapKept.run_getObj_map hb',K.check w' false hkey,g1,MapKept.run_setObj_map _ hb',Result.andThen,setBlock]
   rw[r1] at h;obtain⟨rfl,rfl⟩:=inj (by simpa using h);exact r2
  ·exact absurd g3 (h2 e' (List.mem_of_getElem? g2))
 ·rcases K.find w' hkey es.toList F.keys with⟨_,g2⟩|⟨j',e',g1,g2,g3⟩
  ·exact absurd h3 (g2 e0 (List.mem_of_getElem? h2))
  ·obtain⟨rfl,rfl⟩:=nX F h2 g2 (h3.trans g3.symm);have hj:es[j]?=some e0:=by simpa using h2
   have r1:(Instr.mapUpdate t (.map (some b)) key val).run P w=.ok () (setBlock w b (.map (es.modify j (fun e'=>{e' with key:=key,val:=val})) clock)):=by
    simp[Instr.mapUpdate,run_underlying ht,MapKept.run_getObj_map hb,K.check w false hkey,h1,hj,h3,K.stays w hkey,MapKept.run_setObj_map _ hb,Result.andThen,setBlock]
   have r2:(Instr.mapUpdate t (.map (some b)) key val).run P w'=.ok () (setBlock w' b (.map (es.modify j (fun e'=>{e' with key:=key,val:=val})) clock)):=by
    simp[Instr.mapUpdate,run_underlying ht,MapKept.run_getObj_map hb',K.check w' false hkey,g1,hj,h3,K.stays w' hkey,MapKept.run_setObj_map _ hb',Result.andThen,setBlock]
   rw[r1] at h;obtain⟨rfl,rfl⟩:=inj (by simpa using h);exact r2
theorem sL(w:World)(b:Nat)(o p:Obj):setBlock (setBlock w b o) b p=setBlock w b p:=by simp[setBlock]
theorem ez{w:World}{b:Nat}{es:Array MapEntry}{clock:Nat}{o':Obj}(h:w.heap[b]?=some (.map es clock)):w.grownBy (setBlock w b o') (some b):=⟨rfl,rfl,rfl,by simp[setBlock],fun i _ hi=>heap_setBlock_other h _ (fun e1=>hi (by rw[e1]))⟩
variable {E:TypeId} {base n:Nat} {q:IntKind} {D:DataW H}
theorem xq{key:Value}{kl:Lit}(h:w.ownsGroups (H:=H) P k base e q b n D)(K:KeyLaw P k)(ht:P.underlying t=some (.map k E))(hz:∀u:World,(zeroValue E).run P u=.ok (.slice none 0 0) u)(hn:n<maxLen)(hkey:keyOf P k key=some kl):
 ∃v zs st w1,(Instr.mapEntry t (.map (some b)) key).run P w=.ok (.tuple #[v,goInt (st:Nat)]) w1/\w.grownBy w1 (some b)/\v.ownBlock≠some b/\D.atKey kl .nil=rowDatum q v zs/\w.ownsInts base e q v zs/\zs.length<=n/\
  ∀(w2:World) (v':Value) (zs':List Int),w1.grownBy w2 v.ownBlock->w2.ownsInts base e q v' zs'->zs'.length<=n+1->(v'.ownBlock=v.ownBlock\/∃g,v'.ownBlock=some g/\w.heap.size<=g)->
   ∃w3,(Instr.entryStore t (.map (some b)) (goInt st) v').run P w2=.ok () w3/\w3.ownsGroups P k base e q b (n+1) (D.put kl (rowDatum q v' zs'))/\w2.grownBy w3 (some b):=by
 obtain⟨v,zs,hrun,hat,ho,hl,hback⟩:=h.at (Keyed.of_law K) ht (hz w) hn hkey
 obtain⟨es,clock,hb,F,hs,hD,hbb,hlen,hap⟩:=h
 obtain⟨v0,st,es1,clock1,hE,hcase,hS⟩:=WideElems.entry_then_store K ht hz hb F hkey
 have hvb:v.ownBlock≠some b:=fun e1=>by
  have:=(ho.1.lt b e1).1;omega
 have hlt:b<w.heap.size:=(Array.getElem?_eq_some_iff.1 hb).1
 have hv0:v0=v:=by
  rcases Maps.fit_look false (Keyed.of_law K) ht (hz w) hb F hkey with⟨hrun',hne,_⟩|⟨e0,y,hm0,h3,hrun',_,_,_⟩
  ·rw[hrun] at hrun';have hvz:v=.slice none 0 0:=by simpa using hrun'
   rcases hcase with⟨e1,hm1,hk1,rfl⟩|⟨_,rfl⟩
   ·exact absurd hk1 (hne e1 hm1)
   ·exact hvz.symm
  ·rw[hrun] at hrun';have hvz:v=e0.val:=by simpa using hrun'
   rcases hcase with⟨e1,hm1,hk1,rfl⟩|⟨hne,_⟩
   ·obtain⟨i,hi⟩:=List.getElem?_of_mem hm0;obtain⟨j,hj⟩:=List.getElem?_of_mem hm1;rw[hvz,(nX F hi hj (h3.trans hk1.symm)).2]
   ·exact absurd h3 (hne e0 hm0)
 subst hv0
 refine⟨v0,zs,st,_,hE,ez hb,hvb,hat,ho,hl,fun w2 v' zs' hg hown' hl' hloc=>?_⟩
 have hb2:w2.heap[b]?=some (.map es1 clock1):=by
  rw[hg.block b (by simp[setBlock];exact hlt) (fun e1=>hvb e1.symm),heap_setBlock_same hb]
 obtain⟨es',clock',hst,hup⟩:=hS w2 v' hb2
 have hg':w.grownBy (setBlock w2 b (.map es clock)) v0.ownBlock:=⟨hg.os,hg.tape,hg.output,by simpa[setBlock] using hg.size,fun i hi hne=>by
  by_cases hib:i=b
  ·subst hib
   rw[heap_setBlock_same hb2,hb]
  ·rw[heap_setBlock_other hb2 _ hib,hg.block i (by simpa[setBlock] using hi) hne,heap_setBlock_other hb _ hib]⟩
 have hvb':v'.ownBlock≠some b:=fun e1=>by
  have:=(hown'.1.lt b e1).1;omega
 obtain⟨w3,hrun3,r1,r2⟩:=hback (setBlock w2 b (.map es clock)) v' zs' hg' (hown'.kept (ez hb2) (.inr hvb')) hl' hloc
 have hbW:(setBlock w2 b (.map es clock)).heap[b]?=some (.map es clock):=heap_setBlock_same hb2 _
 rw[DJ K ht F hkey hb hup hbW,sL] at hrun3
 obtain rfl:setBlock w2 b (.map es' clock')=w3:=by simpa using hrun3
 exact⟨_,hst,r1,ez hb2⟩
end
end
section
open Go.RowKit Go.Maps Go.WideMaps Go.Sort Go.Shelf
attribute [local go_sem] am aq
theorem Ku(p cap:Nat)(u v:Int)(w:World)(c0:w.cell? ⟨p,0,none⟩=some (.int .i64 u))(c1:w.cell? ⟨p,1,none⟩=some (.int .i64 v)):
 Calls Tryz.prog 231 #[.slice (some ⟨p,0,none⟩) 2 cap] w fun e w'=>e=.returned (.int .i64 (if u≠0 then u else v))/\w=w':=by
 by_cases hu:u=0
 ·subst hu;rw[if_neg (by simp)];by_cases hv:v=0
  ·subst hv;go_enter Tryz.func231,Tryz.ntmps231
   go_wp2_with fail
   refine wp_loop_rounds 3 ?_;rw[rounds_succ];go_wp2_with fail
   rw[rounds_succ];go_wp2_with fail
   rw[rounds_succ];go_wp2_with fail
   go_ret;exact⟨rfl,rfl⟩
  ·have f1:(v != 0)=true:=by simpa using hv
   have f2:(v==0)=false:=by simpa using hv
   clear hv;go_enter Tryz.func231,Tryz.ntmps231
   go_wp2_with fail
   refine wp_loop_rounds 3 ?_;rw[rounds_succ];go_wp2_with fail
   rw[rounds_succ];go_wp2_with fail
   go_ret;exact⟨rfl,rfl⟩
 ·rw[if_pos hu];have f1:(u != 0)=true:=by simpa using hu
  have f2:(u==0)=false:=by simpa using hu
  clear hu;go_enter Tryz.func231,Tryz.ntmps231
  go_wp2_with fail
  refine wp_loop_rounds 3 ?_;rw[rounds_succ];go_wp2_with fail
  go_ret;exact⟨rfl,rfl⟩
def ux(a b:World):Prop:=Below a.heap.size a b/\a.drawn<=b.drawn
instance:bC ux:=⟨fun w=>⟨Below.refl _ w,aF _⟩,fun h k=>⟨h.1.trans (k.1.mono h.1.size),aK h.2 k.2⟩,fun w=>⟨(Below.refl _ w).drew,Nat.le_succ _⟩⟩
theorem mT{w:World}{p:Addr}{v:Value}(h:w.cell? p=some v):∀x:RW ux w,x.w.cell? p=some v:=fun x=>(Below.cell (show Below w.heap.size w x.w from x.is.1) (World.block_lt_of_cell? _ _ h)).trans h
theorem tM(k:Nat)(olds:List Value):(Dy k olds).keeps ux:=fun _ _ _ ⟨p,h1,h2⟩ hR=>⟨p,h1,fun j u hu=>(Below.cell hR.1 (World.block_lt_of_cell? _ _ (h2 j u hu))).trans (h2 j u hu)⟩
theorem EK{a b:World}(h:ux a b):∃q os,b=Go.Sort.grow (a.drewN q) os:=by
 obtain⟨⟨h1,h2,h3,h4,h5⟩,h6⟩:=h;refine⟨b.drawn-a.drawn,b.heap.extract a.heap.size b.heap.size,?_⟩;obtain⟨bh,bt,bd,bo,bu⟩:=b;obtain⟨ah,at',ad,ao,au⟩:=a;simp only at h1 h2 h3 h4 h5 h6;subst h1;subst h2;subst h3;simp only[Go.Sort.grow,World.drewN];congr 1
 ·apply Array.ext_getElem?;intro i;rw[Array.getElem?_append];split
  ·rename_i hi;exact h5 i hi
  ·rename_i hi;rw[Array.getElem?_extract];split
   ·congr 1;omega
   ·rw[Array.getElem?_eq_none (by omega)]
 ·omega
theorem Hl(x y:Lb)(w:World):
 Calls Tryz.prog 230 #[.agg #[.string (bs x.1),.string (bs x.2)],.agg #[.string (bs y.1),.string (bs y.2)]] w fun e w'=>e=.returned (.int .i64 (gw x y))/\ux w w':=by
 have k1:=(ag.new w 73 #[.string (bs x.1),.string (bs x.2)]).alloc (.cells #[.string (bs y.1),.string (bs y.2)] 73)
 have k2:=ag.new (w.alloc (.cells #[.string (bs x.1),.string (bs x.2)] 73)) 73 #[.string (bs y.1),.string (bs y.2)]
 rw[aY] at k2
 have b0:ux w ((w.alloc (.cells #[.string (bs x.1),.string (bs x.2)] 73)).alloc (.cells #[.string (bs y.1),.string (bs y.2)] 73)):=⟨((Below.refl _ w).alloc (aF _) _).alloc (by simp) _,aF _⟩
 have c0:=ax k1 0 (.string (bs x.1)) rfl
 have c1:=ax k1 1 (.string (bs x.2)) rfl
 have d0:=ax k2 0 (.string (bs y.1)) rfl
 have d1:=ax k2 1 (.string (bs y.2)) rfl
 have x0:=mT c0
 have x1:=mT c1
 have y0:=mT d0
 have y1:=mT d1
 have q1:=af (fun W=>(Tryz.strings_Compare (bs x.1) (bs y.1) W))
 have q2:=af (fun W=>(Tryz.strings_Compare (bs x.2) (bs y.2) W))
 have HC:=af (show gw x y=if Lib.compareBytes x.1 y.1≠0 then Lib.compareBytes x.1 y.1 else Lib.compareBytes x.2 y.2 from rfl)
 rw[ii,ii] at q1 q2
 generalize Lib.compareBytes x.1 y.1=u at*
 generalize Lib.compareBytes x.2 y.2=v at*
 generalize gw x y=R at*
 clear k1 k2 c0 c1 d0 d1
 go_enter Tryz.func230,Tryz.ntmps230
 go_wp2_with fail
 refine oo (R:=ux) (by kernel_rfl) (by kernel_rfl) ?_
 iterate 4 (refine bH fun K hK=>?_;go_big_quiet_step (fail);refine hK _ ?_;clear hK K)
 (refine fP (f:=232) (args:=#[.string (bs x.1),.string (bs y.1)]) (v:=.int .i64 u) (fun W hW=>(q1.out W).mono fun e w' ⟨h1,h2⟩=>⟨h1,h2▸bC.refl _⟩) fun K hK=>?_;go_big_quiet_step (fail);refine hK _ ?_;clear hK K)
 iterate 4 (refine bH fun K hK=>?_;go_big_quiet_step (fail);refine hK _ ?_;clear hK K)
 (refine fP (f:=232) (args:=#[.string (bs x.2),.string (bs y.2)]) (v:=.int .i64 v) (fun W hW=>(q2.out W).mono fun e w' ⟨h1,h2⟩=>⟨h1,h2▸bC.refl _⟩) fun K hK=>?_;go_big_quiet_step (fail);refine hK _ ?_;clear hK K)
 refine kw (d:=15) (tM 2 [.int .i64 u,.int .i64 v]) (by kernel_rfl) (fun _ _ h=>by cases h) (by kernel_rfl) rfl (fun W hW=>⟨_,_,(show _=Result.ok (Next.value (.slice (some ⟨W.heap.size,0,none⟩) 2 2)) (W.alloc (.cells [Value.int .i64 u,Value.int .i64 v].toArray 3)) by go_simp),⟨(Below.refl _ W).alloc (aF _) _,aF _⟩,W.heap.size,rfl,fun j z hz=>by rw[jY,World.cell?_alloc_new];simpa using hz⟩) ?_
 refine ED 15 (r:=Dy 2 [.int .i64 u,.int .i64 v]) (v:=.int .i64 R) (by kernel_rfl) (fun _ _ h=>by cases h) rfl (by simp) (by kernel_rfl) (by kernel_rfl) (by kernel_rfl) (by kernel_rfl) (fun x W hW hx=>by
  obtain⟨p,rfl,hc⟩:=hx
  have e0:=hc 0 _ rfl
  have e1:=hc 1 _ rfl
  rw[jY] at e0 e1
  refine⟨231,#[.slice (some ⟨p,0,none⟩) 2 2],by go_simp,?_⟩
  refine(Ku p 2 u v W e0 e1).mono ?_
  rintro e w' ⟨rfl,rfl⟩
  exact⟨by rw[HC.out],bC.refl _⟩) (i6 (type:=0) (pos:= "") (fun K hK=>?_));go_big_quiet_step (fail);refine hK _ ?_;clear hK K
 (refine bH fun K hK=>?_;go_big_quiet_step (fail);refine hK _ ?_;clear hK K)
 refine eF ?_
 intro w2 hb2
 simp only[az]
 intro z hz
 clear hz
 simp only[Act.put,List.setIfInBounds_toArray,List.set_cons_succ,List.set_cons_zero]
 go_wp2_with fail
 go_ret
 exact⟨rfl,bC.trans b0 hb2⟩
end
end Go.Proofs.YtcdgfajdlaeodaaGreatDoor
namespace Go.Proofs
open Go.Shelf
def Tryz.laysSlF06_f229_ren:Go.Shelf.Ren:=⟨fun|6=>229|15=>276|14=>277|28=>313|29=>314|20=>315|21=>316|22=>317|23=>318|24=>319|25=>320|26=>321|27=>322|46=>346|47=>341|48=>342|49=>347|50=>348|57=>361|n=>n,fun|22=>65|24=>73|25=>306|3=>3|39=>161|0=>0|53=>247|55=>67|4=>4|46=>376|45=>375|50=>298|5=>5|9=>9|66=>412|70=>415|76=>428|77=>429|n=>n,fun|n=>n⟩
theorem Tryz.laysSlF06_f229:Go.Proofs.SlLaysF0.n6 Tryz.prog Tryz.laysSlF06_f229_ren:={
 mixed:=by kernel_rfl
 f6:=⟨Tryz.f229.name,by decide,Tryz.func229.trans (congrArg some (by kernel_rfl))⟩
 f14:=⟨Tryz.f277.name,by decide,Tryz.func277.trans (congrArg some (by kernel_rfl))⟩
 f15:=Tryz.func276.trans (congrArg some (by kernel_rfl))
 f20:=⟨Tryz.f315.name,by decide,Tryz.func315.trans (congrArg some (by kernel_rfl))⟩
 f21:=⟨Tryz.f316.name,by decide,Tryz.func316.trans (congrArg some (by kernel_rfl))⟩
 f22:=⟨Tryz.f317.name,by decide,Tryz.func317.trans (congrArg some (by kernel_rfl))⟩
 f23:=⟨Tryz.f318.name,by decide,Tryz.func318.trans (congrArg some (by kernel_rfl))⟩
 f24:=⟨Tryz.f319.name,by decide,Tryz.func319.trans (congrArg some (by kernel_rfl))⟩
 f25:=⟨Tryz.f320.name,by decide,Tryz.func320.trans (congrArg some (by kernel_rfl))⟩
 f26:=⟨Tryz.f321.name,by decide,Tryz.func321.trans (congrArg some (by kernel_rfl))⟩
 f27:=⟨Tryz.f322.name,by decide,Tryz.func322.trans (congrArg some (by kernel_rfl))⟩
 f28:=Tryz.func313.trans (congrArg some (by kernel_rfl))
 f29:=Tryz.func314.trans (congrArg some (by kernel_rfl))
 f46:=⟨Tryz.f346.name,by decide,Tryz.func346.trans (congrArg some (by kernel_rfl))⟩
 f47:=Tryz.func341.trans (congrArg some (by kernel_rfl))
 f48:=Tryz.func342.trans (congrArg some (by kernel_rfl))
 f49:=⟨Tryz.f347.name,by decide,Tryz.func347.trans (congrArg some (by kernel_rfl))⟩
 f50:=⟨Tryz.f348.name,by decide,Tryz.func348.trans (congrArg some (by kernel_rfl))⟩
 f57:=⟨Tryz.f361.name,by decide,Tryz.func361.trans (congrArg some (by kernel_rfl))⟩
 t0:=Tryz.underlying0
 a0:=Tryz.isAgg0
 z0:=Tryz.sizeOf0
 v0:=Tryz.zeroValue0
 t3:=Tryz.underlying3
 a3:=Tryz.isAgg3
 z3:=Tryz.sizeOf3
 v3:=Tryz.zeroValue3
 t4:=Tryz.underlying4
 a4:=Tryz.isAgg4
 z4:=Tryz.sizeOf4
 v4:=Tryz.zeroValue4
 t5:=Tryz.underlying5
 a5:=Tryz.isAgg5
 z5:=Tryz.sizeOf5
 v5:=Tryz.zeroValue5
 t9:=Tryz.underlying9
 a9:=Tryz.isAgg9
 z9:=Tryz.sizeOf9
 v9:=Tryz.zeroValue9
 t22:=Tryz.underlying65
 a22:=Tryz.isAgg65
 z22:=Tryz.sizeOf65
 v22:=Tryz.zeroValue65
 t25:=Tryz.underlying306
 a25:=Tryz.isAgg306
 z25:=Tryz.sizeOf306
 v25:=Tryz.zeroValue306
 t39:=Tryz.underlying161
 a39:=Tryz.isAgg161
 z39:=Tryz.sizeOf161
 v39:=Tryz.zeroValue161
 t45:=Tryz.underlying375
 a45:=Tryz.isAgg375
 z45:=Tryz.sizeOf375
 v45:=Tryz.zeroValue375
 t46:=Tryz.underlying376
 a46:=Tryz.isAgg376
 z46:=Tryz.sizeOf376
 v46:=Tryz.zeroValue376
 t50:=Tryz.underlying298
 a50:=Tryz.isAgg298
 z50:=Tryz.sizeOf298
 v50:=Tryz.zeroValue298
 t53:=Tryz.underlying247
 a53:=Tryz.isAgg247
 z53:=Tryz.sizeOf247
 v53:=Tryz.zeroValue247
 t55:=Tryz.underlying67
 a55:=Tryz.isAgg67
 z55:=Tryz.sizeOf67
 v55:=Tryz.zeroValue67
 t66:=Tryz.underlying412
 a66:=Tryz.isAgg412
 z66:=Tryz.sizeOf412
 v66:=Tryz.zeroValue412
 t70:=Tryz.underlying415
 a70:=Tryz.isAgg415
 z70:=Tryz.sizeOf415
 v70:=Tryz.zeroValue415
 t76:=Tryz.underlying428
 a76:=Tryz.isAgg428
 z76:=Tryz.sizeOf428
 v76:=Tryz.zeroValue428
 t77:=Tryz.underlying429
 a77:=Tryz.isAgg429
 z77:=Tryz.sizeOf429
 v77:=Tryz.zeroValue429}
open Go.RowKit Go.Lib Go.Sort in
theorem Tryz.slices_SortFunc_none{α:Type}[Inhabited α](p:Option Addr)(cap:Nat)(fv:Value)(w:World):
 Calls Tryz.prog 229 #[.slice p 0 cap,fv] w fun e w'=>e=.returned (.tuple #[])/\w'=w:=AnyF.slices_SortFunc_none Tryz.laysSlF06_f229 p cap fv w
open Go.RowKit Go.Lib Go.Sort in
theorem Tryz.slices_SortFunc_total{α:Type}[Inhabited α](k:Nat)(aE:∀w,(isAgg 73).run Tryz.prog w=.ok true w)(zE:∀w,(Go.sizeOf 73).run Tryz.prog w=.ok k w)(enc:α->List Value)(hk:∀x,(enc x).length=k)(h1:∀x,∀v∈enc x,v.oneCell'=true)(cf:α->α->Int)(hO:SWO (ltOf cf))(g:Nat)(cb:Array Value)(blk off cap:Nat)(d:Array α)(w:World)(eg:∀args w,(callFunc g args).run Tryz.prog w=.ok (.enter g args) w)(hcmp:CmpLays Tryz.prog g cb enc k cf blk off d.size w)(hH:HoldsK enc k w blk off d)(hblk:blk<w.heap.size)(hsz:d.size<4611686018427387904)(hT:∀x y,(ltOf cf) x y=false->(ltOf cf) y x=false->x=y):
 Calls Tryz.prog 229 #[.slice (some ⟨blk,off,none⟩) d.size cap,.func (.func g) #[] cb] w fun e w'=>
  e=.returned (.tuple #[])/\∃n os,w'=sortWorldK enc k w blk off n (d.toList.mergeSort fun x y=> !(ltOf cf) y x).toArray os:=AnyQ.slices_SortFunc_total Tryz.laysSlF06_f229 k aE zE enc hk h1 cf hO g cb blk off cap d w eg hcmp hH hblk hsz hT
end Go.Proofs
namespace Go.Proofs.YtcdgfajdlaeodaaGreatDoor
section
open Go.RowKit Go.Maps Go.WideMaps Go.Sort Go.Shelf
attribute [local go_sem] am aq
theorem xL:∀a:List UInt8,Lib.compareBytes a a=0
 |[]=>rfl
 |a::l=>by
  unfold Lib.compareBytes;rw[if_neg (by simp),if_neg (by simp),xL l]
theorem Ck:∀a b:List UInt8,Lib.compareBytes a b= -Lib.compareBytes b a
 |[],[]=>rfl
 |[],_::_=>rfl
 |_::_,[]=>rfl
 |a::l,b::m=>by
  unfold Lib.compareBytes;by_cases h1:a<b
  ·have h2:¬b<a:=by have:a.toNat<b.toNat:=h1;intro h;have:b.toNat<a.toNat:=h;omega
   rw[if_pos h1,if_neg h2,if_pos h1]
  ·by_cases h2:b<a
   ·rw[if_neg h1,if_pos h2,if_pos h2];rfl
   ·rw[if_neg h1,if_neg h2,if_neg h2,if_neg h1,Ck l m]
theorem zY:∀a b:List UInt8,Lib.compareBytes a b=0->a=b
 |[],[],_=>rfl
 |[],_::_,h=>by cases h
 |_::_,[],h=>by cases h
 |a::l,b::m,h=>by
  unfold Lib.compareBytes at h;split at h
  ·cases h
  ·rename_i h1;split at h
   ·cases h
   ·rename_i h2;have e:a=b:=by
     apply UInt8.toNat_inj.1;have a1:¬a.toNat<b.toNat:=h1;have a2:¬b.toNat<a.toNat:=h2;omega
    rw[e,zY l m h]
theorem uj:∀a b c:List UInt8,Lib.compareBytes a b<0->Lib.compareBytes b c<0->Lib.compareBytes a c<0
 |_,[],[],_,h=>by simp[Lib.compareBytes] at h
 |[],_,_::_,_,_=>by simp[Lib.compareBytes]
 |_::_,[],_,h,_=>by simp[Lib.compareBytes] at h
 |[],_::_,[],_,h=>by simp[Lib.compareBytes] at h
 |_::_,_::_,[],_,h=>by simp[Lib.compareBytes] at h
 |a::l,b::m,c::n,h1,h2=>by
  unfold Lib.compareBytes at h1 h2⊢;by_cases ab:a<b
  ·have ab':a.toNat<b.toNat:=ab;by_cases bc:b<c
   ·have bc':b.toNat<c.toNat:=bc;rw[if_pos (show a<c from(by omega:a.toNat<c.toNat))];decide
   ·rw[if_neg bc] at h2;by_cases cb:c<b
    ·rw[if_pos cb] at h2;simp at h2
    ·have bc':¬b.toNat<c.toNat:=bc;have cb':¬c.toNat<b.toNat:=cb;rw[if_pos (show a<c from(by omega:a.toNat<c.toNat))];decide
  ·rw[if_neg ab] at h1;by_cases ba:b<a
   ·rw[if_pos ba] at h1;simp at h1
   ·rw[if_neg ba] at h1;have ab':¬a.toNat<b.toNat:=ab;have ba':¬b.toNat<a.toNat:=ba;have e:a=b:=UInt8.toNat_inj.1 (by omega);subst e;by_cases bc:a<c
    ·rw[if_pos bc];decide
    ·rw[if_neg bc] at h2⊢;by_cases cb:c<a
     ·rw[if_pos cb] at h2;simp at h2
     ·rw[if_neg cb] at h2⊢;exact uj l m n h1 h2
theorem Jn(x:Lb):gw x x=0:=by unfold gw;rw[xL,xL];rfl
theorem Hp(x y:Lb):gw x y= -gw y x:=by
 unfold gw;have h1:=Ck x.1 y.1;have h2:=Ck x.2 y.2;by_cases h:Lib.compareBytes x.1 y.1=0
 ·rw[if_neg (by simp[h]),if_neg (by simp;omega)];exact h2
 ·rw[if_pos h,if_pos (by omega)];exact h1
theorem JL(x y:Lb)(h:gw x y=0):x=y:=by
 unfold gw at h;split at h
 ·contradiction
 ·rename_i h1;exact Prod.ext (zY _ _ (by simpa using h1)) (zY _ _ h)
theorem zT(x y z:Lb)(h1:gw x y<0)(h2:gw y z<0):gw x z<0:=by
 unfold gw at h1 h2⊢;by_cases a:Lib.compareBytes x.1 y.1=0
 ·rw[if_neg (by simp[a])] at h1;rw[zY _ _ a];by_cases b:Lib.compareBytes y.1 z.1=0
  ·rw[if_neg (by simp[b])] at h2⊢;exact uj _ _ _ h1 h2
  ·rw[if_pos b] at h2⊢;exact h2
 ·rw[if_pos a] at h1;by_cases b:Lib.compareBytes y.1 z.1=0
  ·rw[<-zY _ _ b,if_pos a];exact h1
  ·rw[if_pos b] at h2;have:=uj _ _ _ h1 h2;rw[if_pos (by omega)];exact this
theorem Ko:SWO (ltOf gw) where
 irrefl x:=by unfold ltOf;rw[Jn];rfl
 trans x y z h1 h2:=by
  unfold ltOf at h1 h2⊢;simp only[decide_eq_true_eq] at h1 h2⊢;exact zT x y z h1 h2
 ntrans x y z h1 h2:=by
  unfold ltOf at h1 h2⊢;simp only[decide_eq_false_iff_not] at h1 h2⊢;intro h;by_cases a:gw x y=0
  ·rw[JL _ _ a] at h;exact h2 h
  ·have h3:gw y x<0:=by have:=Hp x y;omega
   exact h2 (zT y x z h3 h)
theorem Ho(x y:Lb)(h1:(ltOf gw) x y=false)(h2:(ltOf gw) y x=false):x=y:=by
 unfold ltOf at h1 h2;simp only[decide_eq_false_iff_not] at h1 h2;have:=Hp x y;exact JL x y (by omega)
theorem oY:∀(L:List Lb) (t:Nat),t<L.length*2->(L.flatMap eX)[t]?=some ((eX (L.getD (t/2) default))[t%2]!)
 |[],t,h=>by simp at h
 |x::L,0,_=>rfl
 |x::L,1,_=>rfl
 |x::L,t+2,h=>by
  have h1:=oY L t (by simp at h;omega);rw[List.flatMap_cons,show eX x=[.string (bs x.1),.string (bs x.2)] from rfl];rw[show (t+2)/2=t/2+1 by omega,show (t+2)%2=t%2 by omega,List.getD_cons_succ,<-h1];rfl
theorem zK(L:List Lb):(L.flatMap eX).length=L.length*2:=by
 induction L with
 |nil=>rfl
 |cons x L ih=>
  rw[List.flatMap_cons,aG,ih];simp[eX];omega
theorem Dh(L:List Lb):flatK eX 2 L.toArray=(L.flatMap eX).toArray:=by
 apply Array.ext
 ·rw[size_flatK];simp only[List.size_toArray];rw[zK]
 ·intro t h1 h2;have h3:t<L.length*2:=by simpa using h1
  have h4:=oY L t h3;have h5:=get_flatK eX 2 L.toArray t h3;rw[getElem!_pos _ t h1] at h5;rw[h5];have h6:(L.flatMap eX).toArray[t]?=some ((eX (L.getD (t/2) default))[t%2]!):=by simpa using h4
  rw[Array.getElem?_eq_getElem h2] at h6;rw[aA h6];have h7:t/2<L.length:=by omega
  rw[getElem!_pos L.toArray (t/2) (by simpa using h7),List.getD_eq_getElem?_getD,aW h7];rfl
theorem xd{w:World}{base:Nat}{e:TypeId}{g n cap q:Nat}{xs:List Value}(h:w.ownsRow base e 2 (.slice (some ⟨g,0,none⟩) n cap) n xs)(F:List Value)(hF:F.length=n*2):
 (putRow id (Go.Sort.ahead w q) g 0 F.toArray).ownsRow base e 2 (.slice (some ⟨g,0,none⟩) n cap) n F:=by
 rcases h.2 with⟨e0,_⟩|⟨g',cap',cur,e0,hb,hg,hn,hm,hs,ht⟩
 ·cases e0
 ·injection e0 with e1 _ e3;injection e1 with e1;injection e1 with e1;subst e1;subst e3;refine⟨hF,.inr ⟨g,cap,putCells id 0 F.toArray cur,rfl,hb,?_,hn,hm,by simpa[putCells] using hs,?_⟩⟩
  ·simp[putRow,mapBlock,Go.Sort.ahead,Array.getElem?_modify,hg,onCells]
  ·apply List.ext_getElem?;intro j;rw[List.getElem?_take,Array.getElem?_toList];by_cases hj:j<n*2
   ·have hjc:j<cur.size:=by have:=Nat.mul_le_mul_right 2 hn;omega
    simp only[if_pos hj,putCells,Array.getElem?_mapIdx,Array.getElem?_eq_getElem hjc,Option.map_some];rw[if_pos (by simp;omega),aW (by omega)];simp[getElem!_pos,show j<F.length by omega]
   ·rw[if_neg hj,List.getElem?_eq_none (by omega)]
theorem CD(L:List Lb)(B g n cap:Nat)(w:World)(h:w.ownsRow B 73 2 (.slice (some ⟨g,0,none⟩) n cap) n (L.flatMap eX))(hL:L.length=n)(hn:n<=1000000):
 Calls Tryz.prog 229 #[.slice (some ⟨g,0,none⟩) n cap,.func (.func 230) #[] #[]] w fun e w'=>e=.returned (.tuple #[])/\w'.ownsRow B 73 2 (.slice (some ⟨g,0,none⟩) n cap) n ((jT L).flatMap eX)/\ak w w' (fun k=>k=g):=by
 subst hL
 have hcells:∀j u,(L.flatMap eX)[j]?=some u->w.cell? ((⟨g,0,none⟩:Addr).add j)=some u:=h.cells (g:=g) rfl
 have hgl:=(h.lt g rfl).2
 have hfz:∀o,w.frozen? ⟨g,o,none⟩=false:=fun o=>by
  rcases h.2 with⟨e0,_⟩|⟨g',cap',cur,e0,_,hg,_⟩
  ·cases e0
  ·injection e0 with e1 _ e3;injection e1 with e1;injection e1 with e1;subst e1;simp[World.frozen?,hg]
 have hH:HoldsK eX 2 w g 0 L.toArray:=by
  unfold HoldsK;rw[Dh];intro j hj;have hj':j<(L.flatMap eX).length:=by simpa using hj
  refine⟨?_,hfz _⟩;have:=hcells j _ (aW hj');rw[jY] at this;rw[Nat.zero_add,this,getElem!_pos _ j hj];simp
 refine(Tryz.slices_SortFunc_total 2 Tryz.isAgg73 Tryz.sizeOf73 eX (fun _=>rfl) (fun x v hv=>by simp[eX] at hv;rcases hv with rfl|rfl<;>rfl) gw Ko 230 #[] g 0 cap L.toArray w (fun _ _=>by kernel_rfl) (fun m os dk hs x y=>(Hl x y _).mono fun e w' ⟨h1,h2⟩=>⟨h1,EK h2⟩) hH hgl (by simp;omega) Ho).mono ?_
 rintro e w' ⟨rfl,q,os,rfl⟩
 refine⟨rfl,?_,?_⟩
 ·unfold sortWorldK putRowK;rw[Dh];have h1:=xd (q:=q) h ((jT L).flatMap eX) (by rw[zK];unfold jT;rw[List.length_mergeSort]);exact aw h1 (mQ _ _ (fun _=>False)) (fun _ _ e=>e)
 ·unfold sortWorldK putRowK;exact(qU _ _ _ _ _).trans (mQ _ _ _)
end
section
open Go.RowKit Go.Maps Go.WideMaps
attribute [local go_sem] am aq
theorem zn:KeyLaw Tryz.prog 73:=deep_law (m:=2) (by omega) (by kernel_rfl) (by kernel_rfl) (by kernel_rfl)
def KO (y:Lb):Lit:=.string (keyBytes [.string y.1,.string y.2])
def kt (y:Lb):Prop:=y.1.length<=1048576/\y.2.length<=1048576
theorem pK(y:Lb)(h:kt y):keyOf Tryz.prog 73 (.agg #[.string (bs y.1),.string (bs y.2)])=some (KO y):=by
 have hu:=Tryz.underlying73;have hs:=Tryz.underlying9;have hk:Tryz.prog.keyType 73=true:=by kernel_rfl
 have hc:Tryz.prog.cellsOf 73=2:=by kernel_rfl
 have hc1:Tryz.prog.cellsOf 9=1:=by kernel_rfl
 have h1:(bs y.1).size<=maxLen:=by rw[aq];unfold maxLen;have:=h.1;omega
 have h2:(bs y.2).size<=maxLen:=by rw[aq];unfold maxLen;have:=h.2;omega
 obtain⟨N,hN⟩:∃N,Tryz.prog.types.size=N+1:=⟨Tryz.prog.types.size-1,by kernel_rfl⟩
 unfold keyOf;rw[hN];have e1:∀s:ByteArray,s.size<=maxLen->Tryz.prog.keyLits (N+1) 9 [.string s]=some [.string s.data.toList]:=fun s hl=>by
  unfold Program.keyLits;rw[hs];simp[hl]
 have e2:Tryz.prog.keyLits (N+1+1) 73 [.string (bs y.1),.string (bs y.2)]=some [.string y.1,.string y.2]:=by
  have a1:=e1 _ h1;have a2:=e1 _ h2;rw[ii] at a1 a2;unfold Program.keyLits;rw[hu];simp[hc,hc1,a1,a2]
 rw[hu];simp only[hk,Bool.true_and];rw[show Value.formed Tryz.prog 73 (.agg #[.string (bs y.1),.string (bs y.2)])=true by simp[Value.formed,hu,hc]];rw[if_pos rfl];rw[show (Value.agg #[.string (bs y.1),.string (bs y.2)]).cells.toList=[.string (bs y.1),.string (bs y.2)] from rfl,e2];rfl
theorem Je{y z:Lb}(h1:kt y)(h2:kt z)(h:KO y=KO z):y=z:=by
 have a:=pK y h1;have b:=pK z h2;rw[h] at a;have c:=zn.inj a b;injection c with c;have c1:bs y.1=bs z.1/\bs y.2=bs z.2:=by simpa using c
 exact Prod.ext (xM c1.1) (xM c1.2)
def o7(L:List Nat):DataW Unit:=if L=[] then .nil else .slice (Go.ChangeShapes.lits .i64 (jL L)) []
def CJ(D:DataW Unit)(S:List (Lb×Nat)):Prop:=∀y,kt y->D.atKey (KO y) .nil=o7 (cD S y)
theorem AC(S:List (Lb×Nat))(y:Lb)(i:Nat)(z:Lb):cD (S++[(y,i)]) z=cD S z++if y=z then[i] else[]:=by
 unfold cD;rw[List.filter_append,List.map_append,List.filter_cons,List.filter_nil];by_cases h:y=z<;>simp[h]
theorem GB{a b:List Int}(h:(Go.ChangeShapes.lits .i64 a:List (DataW Unit))=Go.ChangeShapes.lits .i64 b):a=b:=by
 unfold Go.ChangeShapes.lits at h;exact(List.map_inj_right (fun x y e=>by simpa using e)).1 h
theorem tW{w:World}{base:Nat}{e:TypeId}{v:Value}{zs:List Int}{L:List Nat}(h:w.ownsInts base e .i64 v zs)(hd:rowDatum (H:=Unit) .i64 v zs=o7 L):zs=jL L:=by
 unfold o7 at hd;split at hd
 ·rename_i hL;subst hL;rcases h.datum (H:=Unit) with⟨_,h0⟩|h1
  ·exact h0
  ·rw[h1] at hd;cases hd
 ·rcases h.datum (H:=Unit) with⟨h1,_⟩|h1
  ·rw[h1] at hd;cases hd
  ·rw[h1] at hd;injection hd with hd;exact GB hd
theorem Hk{D:DataW Unit}{S:List (Lb×Nat)}(hD:IsMap D)(h:CJ D S){y:Lb}(hy:kt y)(i:Nat){w:World}{base:Nat}{e:TypeId}{v:Value}(ho:w.ownsInts base e .i64 v (jL (cD S y)++[(i:Int)])):CJ (D.put (KO y) (rowDatum .i64 v (jL (cD S y)++[(i:Int)]))) (S++[(y,i)]):=fun z hz=>by
 rw[AC];by_cases e1:y=z
 ·subst e1;rw[atKey_put_same hD (by trivial),ho.datum_pos (by simp),if_pos rfl];unfold o7;rw[if_neg (by simp)];congr 2;unfold jL;simp
 ·rw[atKey_put_other (fun e=>e1 (Je hy hz e.symm)),h z hz,if_neg e1,List.append_nil]
theorem jM{P:Program}{k e:TypeId}{w w':World}{base b n:Nat}{q:IntKind}{D:DataW Unit}{S:Nat->Prop}(h:w.ownsGroups P k base e q b n D)(hk:ak w w' S)(hb':¬S b)(hS:∀g,S g->g<w.heap.size->nf w g≠some (some e)):w'.ownsGroups P k base e q b n D:=by
 obtain⟨es,clock,hb,F,hs,rfl,hbb,hlen,hap⟩:=h;have hblt:b<w.heap.size:=(Array.getElem?_eq_some_iff.1 hb).1;have keep:∀{v:Value} {zs:List Int},w.ownsInts base e q v zs->w'.ownsInts base e q v zs:=fun {v zs} ho=>⟨aw ho.1 hk (fun g hg hSg=>hS g hSg (ho.1.lt g hg).2 (aX ho.1 hg)),ho.2⟩
 have hst:∀x∈es.toList,∀z,rowElem (H:=Unit) w base e q x.val=some z->rowElem w' base e q x.val=some z:=fun x _ z hz=>by
  obtain⟨zs,ho,rfl⟩:=rowElem_inv hz;exact rowElem_mk (keep ho)
 obtain⟨F1,hmap,_⟩:=F.stay hst;refine⟨es,clock,(hk.block b hblt hb').trans hb,F1,hs,by rw[hmap],hbb,fun x hx zs ho=>?_,hap⟩;obtain⟨y,hy⟩:=F.reads x hx;obtain⟨z,hz,_⟩:=WideElems.rd_val hy;obtain⟨zs0,ho0,_⟩:=rowElem_inv hz;rw[ho.unique (keep ho0)];exact hlen x hx zs0 ho0
theorem tI{P:Program}{k e:TypeId}{w:World}{base b n:Nat}{q:IntKind}{D:DataW Unit}(h:w.ownsGroups P k base e q b n D):IsMap D/\b<w.heap.size/\nf w b=some none:=by
 obtain⟨es,clock,hb,F,hs,rfl,hbb,hlen,hap⟩:=h;exact⟨⟨_,rfl⟩,(Array.getElem?_eq_some_iff.1 hb).1,by unfold nf;rw[hb];rfl⟩
def rH (E:List En)(i:Nat):List (Lb×Nat):=(List.range i).flatMap fun i=>(E.getD i aR).labels.map fun z=>(z,i)
theorem td(E:List En):cL E=rH E E.length:=rfl
theorem oF(E:List En){i:Nat}(h:i<E.length):rH E (i+1)=rH E i++E[i].labels.map fun z=>(z,i):=by
 unfold rH;rw[List.range_succ,List.flatMap_append,List.flatMap_cons,List.flatMap_nil,List.append_nil,show E.getD i aR=E[i] by rw[List.getD_eq_getElem?_getD,aW h];rfl]
theorem IR(E:List En){i:Nat}(h:i<E.length)(k:Nat):(rH E i++(E[i].labels.take k).map fun z=>(z,i)).length<=(cL E).length:=by
 have h1:∀j,i+1+j<=E.length->(rH E (i+1)).length<=(rH E (i+1+j)).length:=fun j=>by
  induction j with
  |zero=>exact fun _=>aF _
  |succ j ih=>
   intro hj;rw[<-Nat.add_assoc,oF E (show i+1+j<E.length by omega),aG];have:=ih (by omega);omega
 have h2:=h1 (E.length-(i+1)) (by omega);rw[show i+1+(E.length-(i+1))=E.length by omega,oF E h] at h2;rw[td];refine aK ?_ h2;rw[aG,aG,List.length_map,List.length_map,dt];omega
theorem E5(L:List Lb)(y:Lb):eH (L++[y])=if y∈eH L then eH L else eH L++[y]:=by
 unfold eH;rw[List.foldl_append];rfl
theorem vT(y:Lb):∀L a:List Lb,y∈L.foldl (fun a y=>if y∈a then a else a++[y]) a↔y∈a\/y∈L
 |[],a=>by simp
 |x::L,a=>by
  rw[List.foldl_cons,vT y L];split
  ·rename_i h;rw[List.mem_cons];constructor
   ·rintro(h1|h1)
    ·exact .inl h1
    ·exact .inr (.inr h1)
   ·rintro(h1|rfl|h1)
    ·exact .inl h1
    ·exact .inl h
    ·exact .inr h1
  ·rw[List.mem_append,List.mem_singleton,List.mem_cons,or_assoc]
theorem zQ(L:List Lb)(y:Lb):y∈eH L↔y∈L:=by
 unfold eH;rw[vT];simp
theorem FH(S:List (Lb×Nat))(y:Lb):cD S y=[]↔y∉eH (S.map fun p=>p.1):=by
 rw[zQ];unfold cD;rw[List.map_eq_nil_iff,List.filter_eq_nil_iff,List.mem_map];constructor
 ·rintro h ⟨p,hp,e⟩;exact h p hp (by simpa using e)
 ·intro h p hp e;exact h ⟨p,hp,by simpa using e⟩
theorem Da:KeyLaw Tryz.prog 140:=deep_law (m:=3) (by omega) (by kernel_rfl) (by kernel_rfl) (by kernel_rfl)
def m8 (M:List Lb):Value:=.agg (aQ M).toArray
def LL (M:List Lb):Lit:=.string (keyBytes (M.flatMap fun y=>[.string y.1,.string y.2]))
theorem Gq(M:List Lb)(h6:M.length=6)(h:∀y∈M,kt y):keyOf Tryz.prog 140 (m8 M)=some (LL M):=by
 match M,h6 with
 |[a,b,c,d,e,f],_=>
 have hu:=Tryz.underlying140;have hl:=Tryz.underlying73;have hs:=Tryz.underlying9;have hk:Tryz.prog.keyType 140=true:=by kernel_rfl
 have hc:Tryz.prog.cellsOf 140=12:=by kernel_rfl
 have hc2:Tryz.prog.cellsOf 73=2:=by kernel_rfl
 have hc1:Tryz.prog.cellsOf 9=1:=by kernel_rfl
 obtain⟨N,hN⟩:∃N,Tryz.prog.types.size=N+1+1:=⟨Tryz.prog.types.size-2,by kernel_rfl⟩
 have e1:∀n,∀s:List UInt8,s.length<=1048576->Tryz.prog.keyLits (n+1) 9 [.string (bs s)]=some [.string s]:=fun n s hl=>by
  have h1:(bs s).size<=maxLen:=by rw[aq];unfold maxLen;omega
  unfold Program.keyLits;rw[hs];simp[h1,ii]
 have e2:∀n,∀y:Lb,kt y->Tryz.prog.keyLits (n+1+1) 73 [.string (bs y.1),.string (bs y.2)]=some [.string y.1,.string y.2]:=fun n y hy=>by
  have a1:=e1 n _ hy.1;have a2:=e1 n _ hy.2;unfold Program.keyLits;rw[hl];simp[hc2,hc1,a1,a2]
 have e3:Tryz.prog.keyLits (N+1+1+1) 140 (aQ [a,b,c,d,e,f])=some ([a,b,c,d,e,f].flatMap fun y=>[.string y.1,.string y.2]):=by
  have ka:=e2 N a (h a (by simp));have kb:=e2 N b (h b (by simp));have kc:=e2 N c (h c (by simp));have kd:=e2 N d (h d (by simp));have ke:=e2 N e (h e (by simp));have kf:=e2 N f (h f (by simp));unfold Program.keyLits;rw[hu];simp[hc,hc2,aQ,List.range,List.range.loop,ka,kb,kc,kd,ke,kf]
 unfold keyOf;rw[hN,hu];simp only[hk,Bool.true_and];rw[show Value.formed Tryz.prog 140 (m8 [a,b,c,d,e,f])=true by simp[Value.formed,hu,hc,m8,aQ]];rw[if_pos rfl];rw[show (m8 [a,b,c,d,e,f]).cells.toList=aQ [a,b,c,d,e,f] from rfl,e3];rfl
theorem qS:∀L M:List Lb,aQ L=aQ M->L=M
 |[],[],_=>rfl
 |[],y::M,h=>by simp[aQ] at h
 |x::L,[],h=>by simp[aQ] at h
 |x::L,y::M,h=>by
  unfold aQ at h;simp only[List.flatMap_cons,List.cons_append,List.nil_append,List.cons.injEq,Value.string.injEq] at h;rw[qS L M h.2.2,Prod.ext (xM h.1) (xM h.2.1)]
theorem vX:∀(L:List Lb) (p:List UInt8),fu p L=true->∀y∈L,y.1≠[]
 |[],_,_=>by simp
 |x::L,p,h=>by
  unfold fu at h;simp only[Bool.and_eq_true] at h;intro y hy;rcases List.mem_cons.1 hy with rfl|hy
  ·intro e;rw[e,Dg] at h;exact Bool.noConfusion h.1
  ·exact vX L x.1 h.2.2.2.2 y hy
theorem jP{L:List Lb}(h:bz L=0):(∀y∈L,y.1≠[])/\L.length<=6:=by
 unfold bz at h;split at h
 ·rename_i h1;simp only[Bool.and_eq_true,decide_eq_true_eq] at h1;exact⟨vX L [] h1.1,h1.2.2⟩
 ·cases h
theorem tg{L:List Lb}(h:∀y∈L,y.1≠[]):(dG L).filter (fun y=> !y.1.isEmpty)=L:=by
 unfold dG;rw[List.filter_append,List.filter_replicate,if_neg (by simp),List.append_nil,List.filter_eq_self];intro y hy;have:=h y hy;cases hy1:y.1 with
 |nil=>exact absurd hy1 this
 |cons a b=>rfl
theorem Gl{L M:List Lb}(hL:bz L=0)(hM:bz M=0)(h:dG L=dG M):L=M:=by
 rw[<-tg (jP hL).1,<-tg (jP hM).1,h]
theorem IY{L M:List Lb}(hL:bz L=0)(hM:bz M=0)(h:m8 (dG L)=m8 (dG M)):L=M:=by
 unfold m8 at h;have h1:=Value.agg.inj h;exact Gl hL hM (qS _ _ (by simpa using congrArg Array.toList h1))
theorem C7{L:List Lb}(h:∀y∈L,kt y):∀y∈dG L,kt y:=fun y hy=>by
 unfold dG at hy;rcases List.mem_append.1 hy with hy|hy
 ·exact h y hy
 ·obtain⟨_,rfl⟩:=List.mem_replicate.1 hy;exact⟨Nat.zero_le _,Nat.zero_le _⟩
def ut(w:World)(B:Nat)(K:List (List Lb)):Prop:=∃es clock,w.heap[B]?=some (.map es clock)/\es.toList.map (·.key)=K.map (fun l=>m8 (dG l))/\(∀x∈es.toList,x.born<clock)/\(es.toList.map (·.born)).Nodup/\∀l∈K,bz l=0/\∀y∈l,kt y
theorem DR{es:Array MapEntry}{K:List (List Lb)}(h:es.toList.map (·.key)=K.map (fun l=>m8 (dG l)))(hK:∀l∈K,bz l=0/\∀y∈l,kt y):∀x∈es.toList,∃l,keyOf Tryz.prog 140 x.key=some l:=fun x hx=>by
 have:x.key∈K.map (fun l=>m8 (dG l)):=h▸List.mem_map_of_mem hx;obtain⟨l,hl,e⟩:=List.mem_map.1 this;rw[<-e];exact⟨_,Gq _ (mi l (jP (hK l hl).1).2) (C7 (hK l hl).2)⟩
theorem F0{es:Array MapEntry}{K:List (List Lb)}(h:es.toList.map (·.key)=K.map (fun l=>m8 (dG l)))(hK:∀l∈K,bz l=0/\∀y∈l,kt y){L:List Lb}(hL:bz L=0)(hn:L∉K):∀x∈es.toList,x.key≠m8 (dG L):=fun x hx e=>by
 have:x.key∈K.map (fun l=>m8 (dG l)):=h▸List.mem_map_of_mem hx;obtain⟨l,hl,e2⟩:=List.mem_map.1 this;exact hn (IY (hK l hl).1 hL (e2.trans e)▸hl)
theorem DQ{w':World}{B clock:Nat}{es:Array MapEntry}{K:List (List Lb)}{L:List Lb}{v:Value}(h:es.toList.map (·.key)=K.map (fun l=>m8 (dG l)))(hK:∀l∈K,bz l=0/\∀y∈l,kt y)(hs1:∀x∈es.toList,x.born<clock)(hs2:(es.toList.map (·.born)).Nodup)
 (hL:bz L=0) (hok:∀y∈L,kt y) (hb:w'.heap[B]?=some (cZ es clock (m8 (dG L)) v)):ut w' B (K++[L]):=by
 refine⟨_,_,hb,?_,fun x hx=>?_,?_,fun l hl=>?_⟩
 ·rw[Array.toList_push,List.map_append,List.map_append,h];rfl
 ·rw[Array.toList_push] at hx;rcases List.mem_append.1 hx with hx|hx
  ·have:=hs1 x hx;omega
  ·obtain rfl:=List.mem_singleton.1 hx;exact Nat.lt_succ_self _
 ·rw[Array.toList_push,List.map_append];refine List.nodup_append.2 ⟨hs2,by simp,fun a ha c hc e1=>?_⟩;simp only[List.map_cons,List.map_nil,List.mem_singleton] at hc;obtain⟨x,hx,rfl⟩:=List.mem_map.1 ha;have:=hs1 x hx;omega
 ·rcases List.mem_append.1 hl with hl|hl
  ·exact hK l hl
  ·obtain rfl:=List.mem_singleton.1 hl;exact⟨hL,hok⟩
theorem DP{es:Array MapEntry}{K:List (List Lb)}(h:es.toList.map (·.key)=K.map (fun l=>m8 (dG l))):es.size=K.length:=by
 have:=congrArg List.length h;simpa using this
section
variable {R:World->World->Prop} {P:Program} {ops:Array Oper} {w0:World} {n:Nat} {ds:List Deferred} {F:Act->World->Prop} {rest:List Oper} {H:List (Tmp×bj)} {a:Act} {o:Oper}
theorem Ja[bC R](d:Tmp){r:bj}(hk:r.keeps R)(hw:Region.wanted o (yielded ops a.tmps)=true)(hns:∀cs b,o.op≠.select cs b)(hl:bf ops H o=true)(hd:o.dst=some d)
 (hr:∀w,R w0 w->∃v w',(execOp a.eval o).run P w=.ok (.value v) w'/\R w w'/\r v w') (h:bO R P ops w0 n ds F rest ((d,r)::H) a):bO R P ops w0 n ds F (o::rest) H a:=by
 refine oQ hk (fun c w hR hf=>.inr ?_) hd h
 have he:=cr hl hf
 refine⟨by rw[bq fun g b t hg ht=>he t (cy hg ht)];exact hw,fun K Q' hK=>?_⟩
 obtain⟨v,w',h1,h2,h3⟩:=hr w hR
 unfold Oper.wp
 rw[bM hns he,h1]
 exact hK _ _ h2 h3
end
def Fz (B:Nat)(M0 M1:Obj)(a b:World):Prop:=ak a b (fun k=>k=B)/\(a.heap[B]?=some M0->b.heap[B]?=some M0\/b.heap[B]?=some M1)/\(a.heap[B]?=some M1->b.heap[B]?=some M1)
instance {B:Nat}{M0 M1:Obj}:bC (Fz B M0 M1) where
 refl _:=⟨ak.refl _ _,.inl,id⟩
 trans h k:=⟨h.1.trans k.1,fun e=>(h.2.1 e).elim k.2.1 fun e2=>.inr (k.2.2 e2),fun e=>k.2.2 (h.2.2 e)⟩
 drew _:=⟨⟨rfl,rfl,rfl,aF _,fun _ _ _=>rfl⟩,.inl,id⟩
theorem lT{P:Program}(w:World){Q:Exit->Act->World->Prop}{ops:Array Oper}{rest:List Oper}{o:Oper}{a:Act}(hgd:o.guard=none)(t:TypeId)(m s x:Operand)
 (ho:o.op=.entryStore t m s x) {mv sv xv:Value} (hm:a.eval m=mv) (hs:a.eval s=sv) (hx:a.eval x=xv) {w':World}
 (hr:(Instr.entryStore t mv sv xv).run P w=.ok () w') (h:wpList P ops Q rest (a.put o.dst undef) w'):wpList P ops Q (o::rest) a w:=
 wpList_plain hgd fun K hK=>by
  unfold Oper.wp execOp;simp only[ho,hm,hs,hx,Sem.run_bind,hr,Sem.run_pure,Result.andThen_ok];exact hK _ _ h
theorem uF{f:Int}{S:List aP}{j:Nat}(hj:j<S.length)(h:ex S[j] f=false):dW f none S=false:=by
 cases hs:dW f none S with
 |false=>rfl
 |true=>
  rw[iZ] at hs;rw[hs.2 _ (dM hj)] at h;cases h
theorem wP{f:Int}{S:List aP}{j:Nat}(hj:j+1<S.length)(h:dY S[j].labels S[j+1].labels=false):dW f none S=false:=by
 cases hs:dW f none S with
 |false=>rfl
 |true=>
  rw[iZ] at hs;have:=List.pairwise_iff_getElem.1 hs.1 j (j+1) (by omega) hj (by omega);rw[this] at h;cases h
theorem wO{f:Int}{S:List aP}{j:Nat}(hj:j<S.length)(h:dW f none (S.take j)=true)(hr:ex S[j] f=true)(hl:∀(i:Nat) (hi:i+1=j),dY (S[i]'(by omega)).labels S[j].labels=true):dW f none (S.take (j+1))=true/\S[j].labels∉(S.take j).map (·.labels):=by
 rw[iZ] at h;have hall:∀x∈S.take j,dY x.labels S[j].labels=true:=fun x hx=>by
  obtain⟨i,hi,rfl⟩:=List.getElem_of_mem hx;rw[dt] at hi;rw[List.getElem_take];cases j with
  |zero=>omega
  |succ k=>
   by_cases hik:i=k
   ·subst hik;exact hl i rfl
   ·have h1:=List.pairwise_iff_getElem.1 h.1 i k (by rw[dt];omega) (by rw[dt];omega) (by omega);rw[List.getElem_take,List.getElem_take] at h1;exact qQ h1 (hl k rfl)
 refine⟨?_,fun hm=>?_⟩
 ·rw[iZ,eN hj];refine⟨?_,fun x hx=>?_⟩
  ·unfold CX;rw[List.pairwise_append];refine⟨h.1,List.pairwise_singleton _ _,fun x hx y hy=>?_⟩;obtain rfl:=List.mem_singleton.1 hy;exact hall x hx
  ·rcases List.mem_append.1 hx with hx|hx
   ·exact h.2 x hx
   ·obtain rfl:=List.mem_singleton.1 hx;exact hr
 ·obtain⟨x,hx,e⟩:=List.mem_map.1 hm;have:=hall x hx;rw[e,xj] at this;cases this
theorem yE{x:aP}{f:Int}(h:ex x f=true):bz x.labels=0:=by
 unfold ex at h;simp only[Bool.and_eq_true,decide_eq_true_eq] at h;exact h.1.1
end
section
open Go.RowKit Go.Maps Go.WideMaps Go.ChangeMaps
attribute [local go_sem] am aq
theorem Jd{w:World}{v:Value}{L:List Lb}(h:aC w v L):∀y∈L,kt y:=fun y hy=>by
 obtain⟨i,hi⟩:=List.getElem?_of_mem hy;obtain⟨_,_,_,_,h3⟩:=h;exact⟨(h3 i y hi).1,(h3 i y hi).2.1⟩
theorem kU{w w':World}{B:Nat}{K:List (List Lb)}(h:ut w B K)(hb:Below w.heap.size w w'):ut w' B K:=by
 obtain⟨es,clock,h1,h2⟩:=h;exact⟨es,clock,(hb.block B (Array.getElem?_eq_some_iff.1 h1).1).trans h1,h2⟩
theorem CC(v:Value)(S:List aP)(f:Int)(w:World)(h:aM w v S):
 Calls Tryz.prog 24 #[.agg #[v,.int .i64 f]] w fun e w'=>e=.returned (.bool (jj ⟨S,f⟩))/\Below w.heap.size w w':=by
 have HV:=af (show jj ⟨S,f⟩=(aU f&&(decide (S.length<=20)&&dW f none S)) from rfl)
 have hlen:=h.len
 have H:=af h
 obtain⟨sa,sc,rfl,_⟩:=id h
 obtain⟨N,hN⟩:∃N,S.length=N:=⟨_,rfl⟩
 have HN:=af hN
 rw[hN] at H hlen HV⊢
 have b1:=ai w (.cells #[.slice sa N sc,.int .i64 f] 49)
 have k1:=ag.new w 49 #[.slice sa N sc,.int .i64 f]
 have y0:=ax k1 0 (.slice sa N sc) rfl
 have y1:=ax k1 1 (.int .i64 f) rfl
 have q1:=af (fun W=>iX f W)
 clear h hN
 go_enter Tryz.func24,Tryz.ntmps24
 go_upto_region 1 with fail
 generalize hW0:w.alloc _=W0 at*
 clear hW0
 go_wp2_with fail
 refine(q1.out _).mono ?_
 rintro e _ ⟨rfl,rfl⟩
 clear q1
 cases hti:aU f with
 |false=>
  have HZ:=af (show jj ⟨S,f⟩=false by rw[HV.out,hti];rfl);clear HV hti;go_wp2_with fail
  go_ret;exact⟨by rw[HZ.out];rfl,b1⟩
 |true=>
 by_cases h20:N<=20
 case neg=>
  have HZ:=af (show jj ⟨S,f⟩=false by rw[HV.out,hti,decide_eq_false h20];rfl);have h20i:(20:Int)<(N:Int):=by omega
  clear HV hti;go_wp2_with fail
  go_ret;exact⟨by rw[HZ.out];rfl,b1⟩
 have HZ:=af (show jj ⟨S,f⟩=dW f none S by rw[HV.out,hti,decide_eq_true h20];rfl)
 have h20i:¬((20:Int)<(N:Int)):=by omega
 clear HV hti
 have hm0:(W0.alloc (.map #[] 0)).heap[W0.heap.size]?=some (.map #[] 0):=heap_alloc_new _ _
 have b2:=b1.alloc b1.size (.map #[] 0)
 have k2:=ag.alloc k1 (.map #[] 0)
 have hsn:ut (W0.alloc (.map #[] 0)) W0.heap.size []:=⟨#[],0,hm0,rfl,by simp,by simp,by simp⟩
 have hBw:w.heap.size<W0.heap.size:=k1.lt
 have hmm:=@run_makeMap Tryz.prog
 obtain⟨B,hB⟩:∃B,W0.heap.size=B:=⟨_,rfl⟩
 rw[hB] at hsn hBw
 clear k1 hm0 y1 b1
 have z0:=ax k2 0 (.slice sa N sc) rfl
 go_upto_region 4 with fail
 clear y0
 generalize hW2:W0.alloc _=W2 at*
 clear hW2 hB
 go_wp2_with fail
 clear z0 hmm
 go_loopw [21] (fun vi wr=>∃j:Nat,j<=N/\vi=.int .i64 (j:Int)/\Below w.heap.size w wr/\ag wr w.heap.size 49 #[.slice sa N sc,.int .i64 f]/\ut wr B ((S.take j).map (·.labels))/\Hid (dW f none (S.take j)=true)) (fun vi _=>N-(intOf vi).toNat)
 case atStart=>exact⟨0,Nat.zero_le _,rfl,b2,k2,hsn,af rfl⟩
 clear b2 k2 hsn
 obtain⟨j,hj,rfl,hb,kr,hsn,HJ⟩:=hrel
 rcases(show j<N\/j=N by omega) with hjn|rfl
 ·have hjl:j<S.length:=by rw[HN.out];exact hjn
  have H':=H.out;obtain⟨gg,o,sl,sv,rfl,hVj,d0,d1,d2⟩:=cq H' hjl hb;have hlab:aC wr sl S[j].labels:=hVj.2.1;have hsm:aI wr sv S[j].samples:=hVj.2.2;obtain⟨ya,yc,rfl,_⟩:=id hlab;obtain⟨za,zc,rfl,_⟩:=id hsm;have b3:=ai wr (.cells #[.slice ya S[j].labels.length yc,.slice za S[j].samples.length zc,.int .i64 S[j].last] 88);have k3:=ag.new wr 88 #[.slice ya S[j].labels.length yc,.slice za S[j].samples.length zc,.int .i64 S[j].last];have B3:=ay hb b3;have kr3:=ag.below kr b3 kr.lt;have hlab3:=hlab.below b3;have q:=af (fun W (hW:Below wr.heap.size wr W)=>AY _ _ _ _ S[j].last f W (hlab.below hW) (hsm.below hW));rw[show (⟨S[j].labels,S[j].samples,S[j].last⟩:aP)=S[j] from rfl] at q;have hsn3:=kU hsn b3;have hw9:IntKind.i64.wrap ((j:Int)+1)=(j:Int)+1:=ct _ (by omega);clear hVj hsn;go_upto_region 7 with fail
  generalize hW3:wr.alloc _=W3 at*;clear hW3;have g0:=aj (ax k3 0 (.slice ya S[j].labels.length yc) rfl);have g1:=aj (ax k3 1 (.slice za S[j].samples.length zc) rfl);have g2:=aj (ax k3 2 (.int .i64 S[j].last) rfl);have g3:=aj (ax kr3 0 (.slice (some ⟨gg,o,none⟩) N sc) rfl);have g4:=aj (ax kr3 1 (.int .i64 f) rfl);go_cut [47] (fun s47 wx=>∃ok:Bool,s47=.bool (!ok)/\Below W3.heap.size W3 wx/\(ok=false->dW f none S=false)/\(ok=true->ex S[j] f=true/\∀(i:Nat) (hi:i+1=j),dY (S[i]'(by omega)).labels S[j].labels=true))
  case first=>
   cases hr:ex S[j] f with
   |false=>
    rw[hr] at q;refine ed ?_;iterate 3 (refine bH fun K hK=>?_;go_big_quiet_step (fail);refine hK _ ?_;clear hK K)
    (refine fP (f:=82) (args:=#[.agg #[.slice ya S[j].labels.length yc,.slice za S[j].samples.length zc,.int .i64 S[j].last],.int .i64 f]) (v:=.bool false) (fun W hW=>q.out W (b3.trans (Below.mono hW b3.size))) fun K hK=>?_;go_big_quiet_step (fail);refine hK _ ?_;clear hK K);iterate 2 (refine bH fun K hK=>?_;go_big_quiet_step (fail);refine hK _ ?_;clear hK K)
    iterate 15 (refine Bo fun K hK=>?_;go_big_quiet_step (fail);refine hK _ ?_;clear hK K)
    (refine bH fun K hK=>?_;go_big_quiet_step (fail);refine hK _ ?_;clear hK K);refine eF ?_;intro w5 hb5;simp only[az];go_wp2_with fail
    go_meet;exact⟨false,rfl,hb5,fun _=>uF hjl hr,fun e=>Bool.noConfusion e⟩
   |true=>
    rw[hr] at q;cases j with
    |zero=>
     refine ed ?_;iterate 3 (refine bH fun K hK=>?_;go_big_quiet_step (fail);refine hK _ ?_;clear hK K)
     (refine fP (f:=82) (args:=#[.agg #[.slice ya S[0].labels.length yc,.slice za S[0].samples.length zc,.int .i64 S[0].last],.int .i64 f]) (v:=.bool true) (fun W hW=>q.out W (b3.trans (Below.mono hW b3.size))) fun K hK=>?_;go_big_quiet_step (fail);refine hK _ ?_;clear hK K);iterate 2 (refine bH fun K hK=>?_;go_big_quiet_step (fail);refine hK _ ?_;clear hK K)
     iterate 3 (refine bH fun K hK=>?_;go_big_quiet_step (fail);refine hK _ ?_;clear hK K)
     iterate 11 (refine Bo fun K hK=>?_;go_big_quiet_step (fail);refine hK _ ?_;clear hK K)
     iterate 2 (refine bH fun K hK=>?_;go_big_quiet_step (fail);refine hK _ ?_;clear hK K)
     refine eF ?_;intro w5 hb5;simp only[az];go_wp2_with fail
     go_meet;exact⟨true,rfl,hb5,fun e=>Bool.noConfusion e,fun _=>⟨hr,fun i hi=>by omega⟩⟩
    |succ j=>
     have hjp:j<S.length:=by omega
     obtain⟨gg',o',pl,pv,e,hVp,p0,_⟩:=cq H' hjp hb;cases e;have hlabp:aC wr pl S[j].labels:=hVp.2.1;obtain⟨pa,pc,rfl,_⟩:=id hlabp;have q2:=af (fun W (hW:Below wr.heap.size wr W)=>kK _ _ _ _ W (hlabp.below hW) (hlab.below hW));have g5:=aj (cu b3 p0);have hwr:IntKind.i64.wrap (((j+1:Nat):Int)-1)=(j:Int):=by rw[ct _ (by omega)];omega
     have hwr2:IntKind.i64.wrap ((j:Int)+1-1)=(j:Int):=by rw[ct _ (by omega)];omega
     have hps:(0:Int)<((j+1:Nat):Int):=by omega
     have hps2:(0:Int)<(j:Int)+1:=by omega
     have hjpi:(j:Int)<(N:Int):=by omega
     clear hVp;cases hle:dY S[j].labels S[j+1].labels with
     |true=>
      rw[hle] at q2;refine ed ?_;iterate 3 (refine bH fun K hK=>?_;go_big_quiet_step (fail);refine hK _ ?_;clear hK K)
      (refine fP (f:=82) (args:=#[.agg #[.slice ya S[j+1].labels.length yc,.slice za S[j+1].samples.length zc,.int .i64 S[j+1].last],.int .i64 f]) (v:=.bool true) (fun W hW=>q.out W (b3.trans (Below.mono hW b3.size))) fun K hK=>?_;go_big_quiet_step (fail);refine hK _ ?_;clear hK K);iterate 2 (refine bH fun K hK=>?_;go_big_quiet_step (fail);refine hK _ ?_;clear hK K)
      iterate 3 (refine bH fun K hK=>?_;go_big_quiet_step (fail);refine hK _ ?_;clear hK K)
      iterate 9 (refine bH fun K hK=>?_;go_big_quiet_step (fail);refine hK _ ?_;clear hK K)
      (refine fP (f:=66) (args:=#[.slice pa S[j].labels.length pc,.slice ya S[j+1].labels.length yc]) (v:=.bool true) (fun W hW=>q2.out W (b3.trans (Below.mono hW b3.size))) fun K hK=>?_;go_big_quiet_step (fail);refine hK _ ?_;clear hK K);iterate 3 (refine bH fun K hK=>?_;go_big_quiet_step (fail);refine hK _ ?_;clear hK K)
      refine eF ?_;intro w5 hb5;simp only[az];go_wp2_with fail
      go_meet
      exact⟨true,rfl,hb5,fun e=>Bool.noConfusion e,fun _=>⟨hr,fun i hi=>by obtain rfl:i=j:=by omega
                                                                           exact hle⟩⟩
     |false=>
      rw[hle] at q2;refine ed ?_;iterate 3 (refine bH fun K hK=>?_;go_big_quiet_step (fail);refine hK _ ?_;clear hK K)
      (refine fP (f:=82) (args:=#[.agg #[.slice ya S[j+1].labels.length yc,.slice za S[j+1].samples.length zc,.int .i64 S[j+1].last],.int .i64 f]) (v:=.bool true) (fun W hW=>q.out W (b3.trans (Below.mono hW b3.size))) fun K hK=>?_;go_big_quiet_step (fail);refine hK _ ?_;clear hK K);iterate 2 (refine bH fun K hK=>?_;go_big_quiet_step (fail);refine hK _ ?_;clear hK K)
      iterate 3 (refine bH fun K hK=>?_;go_big_quiet_step (fail);refine hK _ ?_;clear hK K)
      iterate 9 (refine bH fun K hK=>?_;go_big_quiet_step (fail);refine hK _ ?_;clear hK K)
      (refine fP (f:=66) (args:=#[.slice pa S[j].labels.length pc,.slice ya S[j+1].labels.length yc]) (v:=.bool false) (fun W hW=>q2.out W (b3.trans (Below.mono hW b3.size))) fun K hK=>?_;go_big_quiet_step (fail);refine hK _ ?_;clear hK K);iterate 3 (refine bH fun K hK=>?_;go_big_quiet_step (fail);refine hK _ ?_;clear hK K)
      refine eF ?_;intro w5 hb5;simp only[az];go_wp2_with fail
      go_meet;exact⟨false,rfl,hb5,fun _=>wP hjl hle,fun e=>Bool.noConfusion e⟩
  case rest=>
   obtain⟨ok,rfl,hb5,h1,h2⟩:=hcut;have B5:=ay b3 hb5;have BW:=ay hb B5;cases ok with
   |false=>
    have HQ:=af (show jj ⟨S,f⟩=false by rw[HZ.out];exact h1 rfl);clear h1 h2 g0 g1 g2 g3 g4 q;go_wp2_with fail
    go_ret;exact⟨by rw[HQ.out];rfl,BW⟩
   |true=>
    obtain⟨hr,hless⟩:=h2 rfl;obtain⟨hj1,hnew⟩:=wO hjl HJ.out hr hless;have HJ1:=af hj1;have hce:=yE hr;have hoks:=Jd hlab;have h6:=(jP hce).2;have kr5:=ag.below kr3 hb5 kr3.lt;have k5:=ag.below k3 hb5 k3.lt;have hsn5:=kU hsn3 hb5;have hlab5:=hlab3.below hb5;have b6:=ai wc (.cells (List.replicate 12 (.string ⟨#[]⟩)).toArray 140);have k6:=ag.new wc 140 (List.replicate 12 (.string ⟨#[]⟩)).toArray;have kr6:=ag.below kr5 b6 kr5.lt;have kx6:=ag.below k5 b6 k5.lt;have hsn6:=kU hsn5 b6;have hlab6:=hlab5.below b6;have BW6:=ay BW b6;obtain⟨W6,hW6⟩:∃W6,wc.alloc (.cells (List.replicate 12 (.string ⟨#[]⟩)).toArray 140)=W6:=⟨_,rfl⟩
    rw[hW6] at k6 kr6 kx6 hsn6 hlab6 BW6 b6;clear h1 h2 g0 g1 g2 g3 g4 q hj1 hr hless k5 hlab5 hb5 B5;go_upto_region 10 with fail
    generalize hX:wc.alloc _=WX;obtain rfl:W6=WX:=by rw[<-hW6,<-hX];rfl
    clear hW6 hX;have g0:=aj (ax kx6 0 (.slice ya S[j].labels.length yc) rfl);refine cC (R:=bZ) 3 100 (by kernel_rfl) (by kernel_rfl) (by kernel_rfl) ?_;simp only[List.take_succ_cons,List.take_zero,List.drop_succ_cons,List.drop_zero]
    (refine nt (v:=.slice (some ⟨wc.heap.size,0,none⟩) 6 6) (fun _ _=>by go_simp) fun K hK=>?_;go_big_quiet_step (fail);refine hK _ ?_;clear hK K);iterate 2 (refine bH fun K hK=>?_;go_big_quiet_step (fail);refine hK _ ?_;clear hK K)
    refine eF ?_;intro w7 hb7;simp only[az];unfold bD;obtain⟨n,w8,hcp,hB8,hbel⟩:=xI (ag.below k6 hb7 k6.lt) (hlab6.below hb7) h6;have b8:=hbel _ wc (ay b6 hb7) (aF _);have kr8:=ag.below kr5 b8 kr5.lt;have BW8:=ay BW b8;obtain⟨es,clock,hes,hks,hs1,hs2,hK⟩:=kU hsn5 b8;have hkey:=Gq (dG S[j].labels) (mi _ h6) (C7 hoks);have hkk:=DR hks hK;have hnn:=F0 hks hK hce hnew;have ht:=Tryz.underlying137;have hz:∀u:World,(zeroValue 3).run Tryz.prog u=.ok (.int .i64 0) u:=fun u=>by go_simp
    have HP:=af (fun (W':World) (h:W'.heap[B]?=some (cZ es clock (m8 (dG S[j].labels)) (.int .i64 1)))=>(DQ hks hK hs1 hs2 hce hoks h));have hgB:wc.heap.size≠B:=by
     obtain⟨_,_,h1,_⟩:=hsn5;have:=(Array.getElem?_eq_some_iff.1 h1).1;omega
    clear hbel b8 g0 k6 kr6 kx6 hsn6 hlab6 BW6 hb7 b6 kr5 hsn5 BW hks hK;refine dZ _ rfl _ _ _ _ rfl _ _ rfl rfl hcp ?_;clear hcp;go_upto_region 11 with fail
    simp only[Act.put,goInt,List.setIfInBounds_toArray,List.set_cons_succ,List.set_cons_zero];have hL1:=af (show ∀W,Fz B (.map es clock) (cZ es clock (m8 (dG S[j].labels)) (.int .i64 0)) w8 W->((do pure (Next.value (<-Instr.loadAt 140 (.pointer (some ⟨wc.heap.size,0,none⟩)))):Sem Next)).run Tryz.prog W=.ok (.value (m8 (dG S[j].labels))) W from fun W hW=>by
     have hBW:=ag.keptK hB8 hW.1 hgB
     have hr:=run_loadVar_row (P:=Tryz.prog) W wc.heap.size 140 140 _ (0,0) _ hBW Tryz.underlying140 rfl (by rw[List.size_toArray,ek,mi _ h6];kernel_rfl)
     simp only[Instr.loadAt,Instr.sureAddr,Sem.run_bind,Sem.run_pure,Result.andThen_ok,hr]
     rfl)
    have hL2:=af (show ∀W,Fz B (.map es clock) (cZ es clock (m8 (dG S[j].labels)) (.int .i64 0)) w8 W->((do pure (Next.value (<-Instr.lookup 137 (.map (some B)) (m8 (dG S[j].labels)) false)):Sem Next)).run Tryz.prog W=.ok (.value (.int .i64 0)) W from fun W hW=>by
     have hr:(Instr.lookup 137 (.map (some B)) (m8 (dG S[j].labels)) false).run Tryz.prog W=.ok (.int .i64 0) W:=by
      rcases hW.2.1 hes with e|e
      ·exact Gz Da ht hz hkey hkk hnn e
      ·exact Et Da ht hkey hkk hnn e
     simp only[Sem.run_bind,Sem.run_pure,Result.andThen_ok,hr])
    have hL3:=af (show ∀W,Fz B (.map es clock) (cZ es clock (m8 (dG S[j].labels)) (.int .i64 0)) w8 W->∃v W',((do pure (Next.value (<-Instr.mapEntry 137 (.map (some B)) (m8 (dG S[j].labels)))):Sem Next)).run Tryz.prog W=.ok (.value v) W'/\Fz B (.map es clock) (cZ es clock (m8 (dG S[j].labels)) (.int .i64 0)) W W'/\(v=.tuple #[.int .i64 0,.int .i64 (clock:Int)]/\W'.heap[B]?=some (cZ es clock (m8 (dG S[j].labels)) (.int .i64 0))) from fun W hW=>by
     rcases hW.2.1 hes with e|e
     ·have hr:=EZ Da ht hz hkey hkk hnn e
      refine⟨_,setBlock W B (cZ es clock (m8 (dG S[j].labels)) (.int .i64 0)),by simp only[Sem.run_bind,Sem.run_pure,Result.andThen_ok,hr];rfl,⟨ak.of_grown (ez e) fun k e=>(aA e).symm,fun _=>.inr (heap_setBlock_same e _),fun _=>heap_setBlock_same e _⟩,rfl,heap_setBlock_same e _⟩
     ·have hr:=BZ Da ht hkey hkk hnn e
      refine⟨_,setBlock W B (cZ es clock (m8 (dG S[j].labels)) (.int .i64 0)),by simp only[Sem.run_bind,Sem.run_pure,Result.andThen_ok,hr];rfl,⟨ak.of_grown (ez e) fun k e=>(aA e).symm,fun _=>.inr (heap_setBlock_same e _),fun _=>heap_setBlock_same e _⟩,rfl,heap_setBlock_same e _⟩)
    refine cC (R:=Fz B (.map es clock) (cZ es clock (m8 (dG S[j].labels)) (.int .i64 0))) 6 100 (by kernel_rfl) (by kernel_rfl) (by kernel_rfl) ?_;simp only[List.take_succ_cons,List.take_zero,List.drop_succ_cons,List.drop_zero]
    (refine bH fun K hK=>?_;go_big_quiet_step (fail);refine hK _ ?_;clear hK K);refine xi (v:=m8 (dG S[j].labels)) (by kernel_rfl) (fun _ _ h=>by cases h) (by kernel_rfl) (by kernel_rfl) (fun W hW=>hL1.out W hW) (i6 (type:=0) (pos:= "") (fun K hK=>?_));go_big_quiet_step (fail);refine hK _ ?_;clear hK K;refine xi (v:=.int .i64 0) (by kernel_rfl) (fun _ _ h=>by cases h) (by kernel_rfl) (by kernel_rfl) (fun W hW=>hL2.out W hW) (i6 (type:=0) (pos:= "") (fun K hK=>?_));go_big_quiet_step (fail);refine hK _ ?_;clear hK K
    (refine bH fun K hK=>?_;go_big_quiet_step (fail);refine hK _ ?_;clear hK K);refine Ja 56 (r:=fun x W=>x=.tuple #[.int .i64 0,.int .i64 (clock:Int)]/\W.heap[B]?=some (cZ es clock (m8 (dG S[j].labels)) (.int .i64 0))) (fun x w w' ⟨h1,h2⟩ hR=>⟨h1,hR.2.2 h2⟩) (by kernel_rfl) (fun _ _ h=>by cases h) (by kernel_rfl) rfl (fun W hW=>hL3.out W hW) ?_;refine Db 56 (.int .i64 (clock:Int)) 1 rfl rfl rfl (by kernel_rfl) (fun x w ⟨h1,_⟩=>⟨_,h1,rfl⟩) (i6 (type:=0) (pos:= "") (fun K hK=>?_));go_big_quiet_step (fail);refine hK _ ?_;clear hK K;refine eF ?_;intro w9 hR9;simp only[az];rintro x ⟨rfl,hM1⟩;unfold bD;refine lT w9 rfl _ _ _ _ rfl rfl rfl rfl (AO (v:=.int .i64 1) hs1 hs2 hM1) ?_;have kA:ak w9 (setBlock w9 B (cZ es clock (m8 (dG S[j].labels)) (.int .i64 1))) (fun k=>k=B):=ak.of_grown (ez hM1) fun k e=>(aA e).symm;have K8:=hR9.1.trans kA;have krA:=ag.keptK kr8 K8 (show ¬(w.heap.size=B) by omega);have hsA:=HP.out _ (heap_setBlock_same hM1 _:(setBlock w9 B (cZ es clock (m8 (dG S[j].labels)) (.int .i64 1))).heap[B]?=_);have BA:=BW8.trans (K8.below BW8.size fun k e=>by omega);clear hL1 hL2 hL3 HP hkey hkk hnn hs1 hs2 hM1 hR9 kA K8 hB8 hes BW8 kr8;go_wp2_with fail
    go_roundw
    case rel=>
     refine⟨j+1,hjn,by go_num,BA,krA,?_,HJ1⟩;rw[eN hjl,List.map_append];exact hsA
    case measure=>simp[intOf];omega
 ·have HQ:=af (show jj ⟨S,f⟩=true by rw[HZ.out,<-HJ.out,List.take_of_length_le (by rw[HN.out];exact aF _)]);obtain⟨es,clock,hes,hks,_⟩:=hsn;have hsz:=DP hks;rw[List.length_map,dt,HN.out,Nat.min_self] at hsz;have y0:=ax kr 0 (.slice sa j sc) rfl;clear hks;have hgo:∀ty,(Builtin.len_ #[137] ty #[.map (some B)]).run Tryz.prog wr=.ok (.int .i64 (es.size:Int)) wr:=fun ty=>by simp[Builtin.len_,run_underlying Tryz.underlying137,MapKept.run_getObj_map hes,goInt,Result.andThen]
  subst hsz;go_wp2_with fail
  go_ret;exact⟨by rw[HQ.out];rfl,hb⟩
end
section
open Go.RowKit
attribute [local go_sem] am aq
def qK(n:Nat)(R:List Rc):Nat:=R.foldl (fun n x=>max n (aZ x.labels)) n
def tw(n:Nat)(S:List aP):Nat:=S.foldl (fun n x=>max n (aZ x.labels)) n
theorem Bq(n:Nat)(R:List Rc){j:Nat}(h:j<R.length):qK n (R.take (j+1))=max (qK n (R.take j)) (aZ R[j].labels):=by
 unfold qK;rw[eN h,List.foldl_append];rfl
theorem Bp(n:Nat)(S:List aP){j:Nat}(h:j<S.length):tw n (S.take (j+1))=max (tw n (S.take j)) (aZ S[j].labels):=by
 unfold tw;rw[eN h,List.foldl_append];rfl
theorem lC(gv sv:Value)(R:List Rc)(S:List aP)(f:Int)(w:World)(hR:dz w gv R)(h:aM w sv S):
 Calls Tryz.prog 17 #[.agg #[.int .i64 f,gv,sv]] w fun e w'=>e=.returned (.int .i64 (dr ⟨f,R,S⟩:Int))/\Below w.heap.size w w':=by
 have HL:=af (show dr ⟨f,R,S⟩=tw (qK 0 (R.take R.length)) (S.take S.length) by rw[List.take_length,List.take_length];rfl)
 have hlenS:=h.len
 have H:=af h
 obtain⟨ga,gc,rfl,hlenR,hx⟩:=hR
 have HX:=af hx
 obtain⟨sa,sc,rfl,_⟩:=id h
 obtain⟨N,hN⟩:∃N,S.length=N:=⟨_,rfl⟩
 obtain⟨M,hM⟩:∃M,R.length=M:=⟨_,rfl⟩
 have HN:=af hN
 have HM:=af hM
 rw[hN] at H hlenS HL⊢
 rw[hM] at hlenR HL⊢
 have b1:=ai w (.cells #[.int .i64 f,.slice ga M gc,.slice sa N sc] 25)
 have k1:=ag.new w 25 #[.int .i64 f,.slice ga M gc,.slice sa N sc]
 have y1:=ax k1 1 (.slice ga M gc) rfl
 clear h hx hN hM
 go_enter Tryz.func17,Tryz.ntmps17
 go_upto_region 2 with fail
 generalize hW0:w.alloc _=W0 at*
 clear hW0
 go_wp2_with fail
 clear y1
 go_loopw [3,11] (fun vn vi wr=>∃j:Nat,j<=M/\vi=.int .i64 (j:Int)/\vn=.int .i64 (qK 0 (R.take j):Int)/\Below w.heap.size w wr/\ag wr w.heap.size 25 #[.int .i64 f,.slice ga M gc,.slice sa N sc]) (fun _ vi _=>M-(intOf vi).toNat)
 case atStart=>exact⟨0,Nat.zero_le _,rfl,rfl,b1,k1⟩
 clear b1 k1
 obtain⟨j,hj,rfl,rfl,hb,kr⟩:=hrel
 rcases(show j<M\/j=M by omega) with hjn|rfl
 ·have hjl:j<R.length:=by rw[HM.out];exact hjn
  obtain⟨b,o,rfl,hrec⟩:=HX.out j R[j] (aW hjl);obtain⟨_,sl,d0,d1,hlab,d2,d3,d4⟩:=rs.below hrec hb;have HS:=af (Bq 0 R hjl);clear hrec;generalize R[j]=x at*;generalize qK 0 (R.take j)=dn at*;obtain⟨ya,yc,rfl,_⟩:=id hlab;have b3:=ai wr (.cells #[.int .i64 x.kind,.slice ya x.labels.length yc,.int .i64 x.t,.int .i64 x.u,.int .u64 (x.v:Int)] 108);have k3:=ag.new wr 108 #[.int .i64 x.kind,.slice ya x.labels.length yc,.int .i64 x.t,.int .i64 x.u,.int .u64 (x.v:Int)];have e1:=ax k3 1 (.slice ya x.labels.length yc) rfl;have B3:=ay hb b3;have q:=af (iN _ _ _ (hlab.below b3));have kr3:=ag.below kr b3 kr.lt;have hw9:IntKind.i64.wrap ((j:Int)+1)=(j:Int)+1:=ct _ (by omega);clear hlab k3 b3 kr;go_wp2_with fail
  refine bP q.out fun w2 hb2=>?_;have B4:=ay B3 hb2;have kr4:=ag.below kr3 hb2 kr3.lt;clear q kr3 e1;go_wp2_with fail
  go_roundw
  case rel=>
   refine⟨j+1,hjn,by go_num,?_,B4,kr4⟩;rw[HS.out];congr 1;omega
  case measure=>simp[intOf];omega
 ·have HL2:=af (show dr ⟨f,R,S⟩=tw (qK 0 (R.take j)) (S.take N) from HL.out);generalize qK 0 (R.take j)=d0 at*;have y2:=ax kr 2 (.slice sa N sc) rfl;clear HL;go_wp2_with fail
  clear y2;go_loopw [3,24] (fun vn vi wr=>∃i:Nat,i<=N/\vi=.int .i64 (i:Int)/\vn=.int .i64 (tw d0 (S.take i):Int)/\Below w.heap.size w wr) (fun _ vi _=>N-(intOf vi).toNat)
  case atStart=>exact⟨0,Nat.zero_le _,rfl,rfl,hb⟩
  clear hb kr;obtain⟨i,hi,rfl,rfl,hb⟩:=hrel;rcases(show i<N\/i=N by omega) with hin|rfl
  ·have hil:i<S.length:=by rw[HN.out];exact hin
   obtain⟨gg,o,sl,sv,rfl,hV,c0,c1,c2⟩:=cq H.out hil hb;have HS:=af (Bp d0 S hil);generalize S[i]=x at*;generalize tw d0 (S.take i)=dn at*;have hlab:aC _ sl x.labels:=hV.2.1;obtain⟨za,zc,hsv,_⟩:=id hV.2.2;simp only at hsv;subst hsv;obtain⟨ya,yc,rfl,_⟩:=id hlab;have b3:=ai wr (.cells #[.slice ya x.labels.length yc,.slice za x.samples.length zc,.int .i64 x.last] 88);have k3:=ag.new wr 88 #[.slice ya x.labels.length yc,.slice za x.samples.length zc,.int .i64 x.last];have e1:=ax k3 0 (.slice ya x.labels.length yc) rfl;have B3:=ay hb b3;have q:=af (iN _ _ _ (hlab.below b3));have hw9:IntKind.i64.wrap ((i:Int)+1)=(i:Int)+1:=ct _ (by omega);clear hlab k3 b3 hV;go_wp2_with fail
   refine bP q.out fun w2 hb2=>?_;have B4:=ay B3 hb2;clear q e1;go_wp2_with fail
   go_roundw
   case rel=>
    refine⟨i+1,hin,by go_num,?_,B4⟩;rw[HS.out];congr 1;omega
   case measure=>simp[intOf];omega
  ·go_wp2_with fail
   go_ret;exact⟨by rw[HL2.out];rfl,hb⟩
theorem zZ(w0:World):jQ 60 #[] fj w0:=by
 intro x sl sv w _ hS;have hl:aC w sl x.labels:=hS.2.1;have hs:aI w sv x.samples:=hS.2.2;obtain⟨l,L,b⟩:=x;simp only at hl hs;show Calls Tryz.prog 60 #[.agg #[sl,sv,.int .i64 b]] w fun e W'=>e=.returned (.bool (fj ⟨l,L,b⟩))/\Below w.heap.size w W';have HO:=af (show fj ⟨l,L,b⟩=(!decide (bz l=0)||(!dj L||(decide (200<L.length)|| !aU b))) from rfl);have b1:=ai w (.cells #[sl,sv,.int .i64 b] 88);have k1:=ag.new w 88 #[sl,sv,.int .i64 b];have q1:=af (ji l sl _ (hl.below b1));have q2:=af (fun W (hb:Below w.heap.size w W)=>lz sv L W (hs.below hb));have q3:=af (fun W=>o9 b W);obtain⟨ra,rc,rfl,_⟩:=id hl;obtain⟨sa,sc,rfl,_⟩:=id hs;have hln:=hs.len;obtain⟨c0,c1,c2⟩:=iQ k1;clear hl hs hS;go_enter Tryz.func60,Tryz.ntmps60
 go_wp2_with fail
 generalize hW0:w.alloc _=W0 at*;clear hW0;refine bP q1.out fun w1 hb1=>?_;have B1:=ay b1 hb1;have m1:=ag.below k1 hb1 k1.lt;obtain⟨c0,c1,c2⟩:=iQ m1;clear q1 hb1 k1 b1;rcases od l with hc|hc
 case inr=>
  have HZ:=af (show fj ⟨l,L,b⟩=true by rw[HO.out,hc];rfl);rw[hc];clear HO hc q2 q3;go_wp2_with fail
  go_ret;exact⟨by rw[HZ.out];rfl,B1⟩
 rw[hc] at HO⊢;clear hc;go_wp2_with fail
 refine(q2.out _ B1).mono ?_;rintro e w2 ⟨rfl,hb2⟩;have B2:=ay B1 hb2;have m2:=ag.below m1 hb2 m1.lt;obtain⟨c0,c1,c2⟩:=iQ m2;clear q2 hb2 m1;cases hso:dj L with
 |false=>
  have HZ:=af (show fj ⟨l,L,b⟩=true by rw[HO.out,hso];rfl);clear HO q3 hso;go_wp2_with fail
  go_ret;exact⟨by rw[HZ.out];rfl,B2⟩
 |true=>
  rw[hso] at HO;clear hso;by_cases h2:200<L.length
  ·have HZ:=af (show fj ⟨l,L,b⟩=true by rw[HO.out,decide_eq_true h2];rfl);have h2i:((200:Int)<(L.length:Int)):=by omega
   clear HO q3;go_wp2_with fail
   go_ret;exact⟨by rw[HZ.out];rfl,B2⟩
  ·have h2i:¬((200:Int)<(L.length:Int)):=by omega
   have HZ:=af (show fj ⟨l,L,b⟩=(decide ((200:Int)<(L.length:Int))|| !aU b) by rw[HO.out,decide_eq_false h2,decide_eq_false h2i];rfl);clear HO;go_wp2_with fail
   refine(q3.out _).mono ?_;rintro e _ ⟨rfl,rfl⟩;clear q3;go_wp2_with fail
   go_ret;exact⟨by rw[HZ.out];rfl,B2⟩
theorem z7(g:Int)(b:Nat)(w0:World)(hb:w0.cell? ⟨b,0,none⟩=some (.int .i64 g))(hg1: -9223372036854775808<=g)(hg2:g<=9223372036854775807):xT 58 #[.pointer (some ⟨b,0,none⟩)] (fH g) w0:=by
 intro x sl w hW hV;have hl:aC w sl x.labels:=hV.2;obtain⟨xk,xl,xt,xu,xv⟩:=x;simp only at hl⊢;have HO:=af (show fH g ⟨xk,xl,xt,xu,xv⟩=(!decide (xk=1)||decide (dJ ⟨xk,xl,xt,xu,xv⟩ g=1)) from rfl);have b1:=ai w (.cells #[.int .i64 xk,sl,.int .i64 xt,.int .i64 xu,.int .u64 (xv:Int)] 108);have k1:=ag.new w 108 #[.int .i64 xk,sl,.int .i64 xt,.int .i64 xu,.int .u64 (xv:Int)];have q:=af (pW ⟨xk,xl,xt,xu,xv⟩ sl g _ hV.1 (hl.below b1) hg1 hg2);have B:=ay hW b1;have gc:=cu B hb;rw[show rG ⟨xk,xl,xt,xu,xv⟩ sl=.agg #[.int .i64 xk,sl,.int .i64 xt,.int .i64 xu,.int .u64 (xv:Int)] from rfl] at q;obtain⟨ra,rc,rfl,_⟩:=id hl;have c0:=ax k1 0 (.int .i64 xk) rfl;have c1:=ax k1 1 (.slice ra xl.length rc) rfl;have c2:=ax k1 2 (.int .i64 xt) rfl;have c3:=ax k1 3 (.int .i64 xu) rfl;have c4:=ax k1 4 (.int .u64 (xv:Int)) rfl;clear hl hV k1 hb hW B;go_enter Tryz.func58,Tryz.ntmps58
 by_cases hk:xk=1
 ·subst hk;have HZ:=af (show fH g ⟨1,xl,xt,xu,xv⟩=decide (dJ ⟨1,xl,xt,xu,xv⟩ g=1) by rw[HO.out];rfl);clear HO;go_wp2_with fail
  refine bP q.out fun w1 hb1=>?_;clear q;go_wp2_with fail
  go_ret;exact⟨by rw[HZ.out];rfl,ay b1 hb1⟩
 ·have hkb:(xk==1)=false:=by simpa using hk
  have hkb2:decide (xk=1)=false:=decide_eq_false hk;have HZ:=af (show fH g ⟨xk,xl,xt,xu,xv⟩=true by rw[HO.out,hkb2];rfl);clear HO q;go_wp2_with fail
  go_ret;exact⟨by rw[HZ.out];rfl,b1⟩
def KM (b:mI)(g:Int):Prop:=g<1\/3<g\/aU b.floor=false\/400<b.gone.length\/20<b.ser.length\/b.gone.any (fH g)=true\/b.ser.any fj=true
theorem AB{b:mI}{g:Int}(h:KM b g):co b g=1:=if_pos h
theorem yf{b:mI}{g:Int}(h:¬KM b g):co b g=if fh none b.ser=false then 1 else if cw g<(dr b:Int) then 3 else 0:=if_neg h
def JI(p:Option (List Lb))(l:List Lb):Bool:=match p with|none=>true|some q=>dY q l
theorem AX(S:List aP)(p:Option (List Lb)){j:Nat}(h:j<S.length):fh p (S.drop j)=(JI p S[j].labels&&fh (some S[j].labels) (S.drop (j+1))):=by
 rw[List.drop_eq_getElem_cons h];rfl
theorem oj(gv sv:Value)(R:List Rc)(S:List aP)(f g:Int)(w:World)(hR:dz w gv R)(h:aM w sv S)(hg1: -9223372036854775808<=g)(hg2:g<=9223372036854775807):
 Calls Tryz.prog 16 #[.agg #[.int .i64 f,gv,sv],.int .i64 g] w fun e w'=>e=.returned (.int .i64 (co ⟨f,R,S⟩ g))/\Below w.heap.size w w':=by
 have b1:=ai w (.cells #[.int .i64 f,gv,sv] 25)
 have b2:=b1.alloc b1.size (.cells #[.int .i64 g] 3)
 have k1:=ag.alloc (ag.new w 25 #[.int .i64 f,gv,sv]) (.cells #[.int .i64 g] 3)
 have k2:=ag.new (w.alloc (.cells #[.int .i64 f,gv,sv] 25)) 3 #[.int .i64 g]
 rw[aY] at k2
 have HO:=af (fun h=>AB (b:=⟨f,R,S⟩) (g:=g) h)
 have HE:=af (fun h=>yf (b:=⟨f,R,S⟩) (g:=g) h)
 have cg:((w.alloc (.cells #[.int .i64 f,gv,sv] 25)).alloc (.cells #[.int .i64 g] 3)).cell? ⟨w.heap.size+1,0,none⟩=some (.int .i64 g):=(ag.cell k2 0).trans rfl
 have q1:=af (fun W=>o9 f W)
 have q2:=af (fun W (hb:Below w.heap.size w W) (hc:W.cell? ⟨w.heap.size+1,0,none⟩=some (.int .i64 g))=>Fa 58 #[.pointer (some ⟨w.heap.size+1,0,none⟩)] (fH g) gv R W (hR.below hb) (z7 g (w.heap.size+1) W hc hg1 hg2) (fun args W=>by go_simp))
 have q3:=af (fun W (hb:Below w.heap.size w W)=>Fb 60 #[] fj sv S W (h.below hb) (zZ W) (fun args W=>by go_simp))
 have q4:=af (fun W (hb:Below w.heap.size w W)=>lC gv sv R S f W (hR.below hb) (h.below hb))
 have q5:=af (fun W=>mY g W hg1 hg2)
 obtain⟨ga,gc,rfl,hlR,_⟩:=id hR
 obtain⟨sa,sc,rfl,_⟩:=id h
 have hlS:=h.len
 have H:=af h
 have y0:=ax k1 0 (.int .i64 f) rfl
 have y1:=ax k1 1 (.slice ga R.length gc) rfl
 have y2:=ax k1 2 (.slice sa S.length sc) rfl
 clear h hR
 go_enter Tryz.func16,Tryz.ntmps16
 go_upto_region 3 with fail
 generalize hW0:(w.alloc _).alloc _=W0 at*
 clear hW0
 by_cases t1:g<1
 ·have HZ:=af (HO.out (.inl t1));clear HO HE q1 q2 q3 q4 q5;go_wp2_with fail
  go_ret;exact⟨by rw[HZ.out];rfl,b2⟩
 by_cases t2:3<g
 ·have HZ:=af (HO.out (.inr (.inl t2)));clear HO HE q1 q2 q3 q4 q5;go_wp2_with fail
  go_ret;exact⟨by rw[HZ.out];rfl,b2⟩
 go_wp2_with fail
 refine(q1.out _).mono ?_
 rintro e _ ⟨rfl,rfl⟩
 clear q1
 cases t3:aU f with
 |false=>
  have HZ:=af (HO.out (.inr (.inr (.inl t3))));clear HO HE q2 q3 q4 q5 t3;go_wp2_with fail
  go_ret;exact⟨by rw[HZ.out];rfl,b2⟩
 |true=>
 by_cases t4:400<R.length
 ·have HZ:=af (HO.out (.inr (.inr (.inr (.inl t4)))));have t4i:(400:Int)<(R.length:Int):=by omega
  clear HO HE q2 q3 q4 q5 t3;go_wp2_with fail
  go_ret;exact⟨by rw[HZ.out];rfl,b2⟩
 by_cases t5:20<S.length
 ·have HZ:=af (HO.out (.inr (.inr (.inr (.inr (.inl t5))))));have t4i:¬((400:Int)<(R.length:Int)):=by omega
  have t5i:(20:Int)<(S.length:Int):=by omega
  clear HO HE q2 q3 q4 q5 t3;go_wp2_with fail
  go_ret;exact⟨by rw[HZ.out];rfl,b2⟩
 have t4i:¬((400:Int)<(R.length:Int)):=by omega
 have t5i:¬((20:Int)<(S.length:Int)):=by omega
 have T3:=af t3
 clear t3
 go_wp2_with fail
 refine(q2.out _ b2 cg).mono ?_
 rintro e w1 ⟨rfl,hb1⟩
 have B1:=ay b2 hb1
 have m1:=ag.below k1 hb1 k1.lt
 have cg1:=cu hb1 cg
 have y2:=ax m1 2 (.slice sa S.length sc) rfl
 clear q2
 cases t6:R.any (fH g) with
 |true=>
  have HZ:=af (HO.out (.inr (.inr (.inr (.inr (.inr (.inl t6)))))));clear HO HE q3 q4 q5 t6;go_wp2_with fail
  go_ret;exact⟨by rw[HZ.out];rfl,B1⟩
 |false=>
 have T6:=af t6
 clear t6
 go_wp2_with fail
 refine(q3.out _ B1).mono ?_
 rintro e w2 ⟨rfl,hb2⟩
 have B2:=ay B1 hb2
 have m2:=ag.below m1 hb2 m1.lt
 have cg2:=cu hb2 cg1
 clear q3
 cases t7:S.any fj with
 |true=>
  have HZ:=af (HO.out (.inr (.inr (.inr (.inr (.inr (.inr t7)))))));clear HO HE q4 q5 t7;go_wp2_with fail
  go_ret;exact⟨by rw[HZ.out];rfl,B2⟩
 |false=>
 have HE:=af (HE.out (by
  rintro(h|h|h|h|h|h|h)
  ·omega
  ·omega
  ·rw[T3.out] at h;cases h
  ·have h:400<R.length:=h
   omega
  ·have h:20<S.length:=h
   omega
  ·rw[T6.out] at h;cases h
  ·rw[t7] at h;cases h))
 have y2:=ax m2 2 (.slice sa S.length sc) rfl
 obtain⟨N,hN⟩:∃N,S.length=N:=⟨_,rfl⟩
 have HN:=af hN
 clear HO t7
 go_upto_region 5 with fail
 rw[hN] at H hlS y2 m2
 go_wp2_with fail
 clear y2
 go_loopw [49] (fun vi wr=>∃(j:Nat) (p:Option (List Lb)),j<=N/\vi=.int .i64 (j:Int)/\Below w.heap.size w wr/\ag wr w.heap.size 25 #[.int .i64 f,.slice ga R.length gc,.slice sa N sc]/\wr.cell? ⟨w.heap.size+1,0,none⟩=some (.int .i64 g)/\Hid (fh none S=fh p (S.drop j))/\(j=0->p=none)/\∀(i:Nat) (hi:i+1=j),∃x,S[i]?=some x/\p=some x.labels) (fun vi _=>N-(intOf vi).toNat)
 case atStart=>exact⟨0,none,Nat.zero_le _,rfl,B2,m2,cg2,af (by rw[List.drop_zero]),fun _=>rfl,fun i hi=>by omega⟩
 clear B2 m2 cg2
 obtain⟨j,p,hj,rfl,hb,kr,cgr,HJ,hp0,hps⟩:=hrel
 rcases(show j<N\/j=N by omega) with hjn|rfl
 ·have hjl:j<S.length:=by rw[HN.out];exact hjn
  have H':=H.out;obtain⟨gg,o,sl,sv,rfl,hVj,d0,d1,d2⟩:=cq H' hjl hb;have hlab:aC wr sl S[j].labels:=hVj.2.1;have hsm:aI wr sv S[j].samples:=hVj.2.2;obtain⟨ya,yc,rfl,_⟩:=id hlab;obtain⟨za,zc,rfl,_⟩:=id hsm;have b3:=ai wr (.cells #[.slice ya S[j].labels.length yc,.slice za S[j].samples.length zc,.int .i64 S[j].last] 88);have k3:=ag.new wr 88 #[.slice ya S[j].labels.length yc,.slice za S[j].samples.length zc,.int .i64 S[j].last];have B3:=ay hb b3;have kr3:=ag.below kr b3 kr.lt;have cg3:=cu b3 cgr;have hw9:IntKind.i64.wrap ((j:Int)+1)=(j:Int)+1:=ct _ (by omega);clear hVj hsm;go_upto_region 8 with fail
  generalize hW3:wr.alloc _=W3 at*;clear hW3;have g0:=aj (ax k3 0 (.slice ya S[j].labels.length yc) rfl);have g3:=aj (ax kr3 2 (.slice (some ⟨gg,o,none⟩) N sc) rfl);go_cut [68] (fun s68 wx=>∃ok:Bool,s68=.bool (!ok)/\Below W3.heap.size W3 wx/\ok=JI p S[j].labels)
  case first=>
   cases j with
   |zero=>
    obtain rfl:=hp0 rfl;refine ed ?_;iterate 3 (refine bH fun K hK=>?_;go_big_quiet_step (fail);refine hK _ ?_;clear hK K)
    iterate 11 (refine Bo fun K hK=>?_;go_big_quiet_step (fail);refine hK _ ?_;clear hK K)
    (refine bH fun K hK=>?_;go_big_quiet_step (fail);refine hK _ ?_;clear hK K);refine eF ?_;intro w5 hb5;simp only[az];go_wp2_with fail
    go_meet;exact⟨true,rfl,hb5,rfl⟩
   |succ j=>
    have hjp:j<S.length:=by omega
    obtain⟨x,hx,rfl⟩:=hps j rfl;obtain rfl:S[j]=x:=by rw[aW hjp] at hx;exact aA hx
    obtain⟨gg',o',pl,pv,e,hVp,p0,_⟩:=cq H' hjp hb;cases e;have hlabp:aC wr pl S[j].labels:=hVp.2.1;obtain⟨pa,pc,rfl,_⟩:=id hlabp;have q2:=af (fun W (hW:Below wr.heap.size wr W)=>kK _ _ _ _ W (hlabp.below hW) (hlab.below hW));have g5:=aj (cu b3 p0);have hwr:IntKind.i64.wrap (((j+1:Nat):Int)-1)=(j:Int):=by rw[ct _ (by omega)];omega
    have hwr2:IntKind.i64.wrap ((j:Int)+1-1)=(j:Int):=by rw[ct _ (by omega)];omega
    have hps:(0:Int)<((j+1:Nat):Int):=by omega
    have hps2:(0:Int)<(j:Int)+1:=by omega
    have hjpi:(j:Int)<(N:Int):=by omega
    clear hVp hx;cases hle:dY S[j].labels S[j+1].labels with
    |true=>
     rw[hle] at q2;refine ed ?_;iterate 12 (refine bH fun K hK=>?_;go_big_quiet_step (fail);refine hK _ ?_;clear hK K)
     (refine fP (f:=66) (args:=#[.slice pa S[j].labels.length pc,.slice ya S[j+1].labels.length yc]) (v:=.bool true) (fun W hW=>q2.out W (b3.trans (Below.mono hW b3.size))) fun K hK=>?_;go_big_quiet_step (fail);refine hK _ ?_;clear hK K);iterate 2 (refine bH fun K hK=>?_;go_big_quiet_step (fail);refine hK _ ?_;clear hK K)
     refine eF ?_;intro w5 hb5;simp only[az];go_wp2_with fail
     go_meet;exact⟨true,rfl,hb5,hle.symm⟩
    |false=>
     rw[hle] at q2;refine ed ?_;iterate 12 (refine bH fun K hK=>?_;go_big_quiet_step (fail);refine hK _ ?_;clear hK K)
     (refine fP (f:=66) (args:=#[.slice pa S[j].labels.length pc,.slice ya S[j+1].labels.length yc]) (v:=.bool false) (fun W hW=>q2.out W (b3.trans (Below.mono hW b3.size))) fun K hK=>?_;go_big_quiet_step (fail);refine hK _ ?_;clear hK K);iterate 2 (refine bH fun K hK=>?_;go_big_quiet_step (fail);refine hK _ ?_;clear hK K)
     refine eF ?_;intro w5 hb5;simp only[az];go_wp2_with fail
     go_meet;exact⟨false,rfl,hb5,hle.symm⟩
  case rest=>
   obtain⟨ok,rfl,hb5,hok⟩:=hcut;have BW5:=ay B3 hb5;have kr5:=ag.below kr3 hb5 kr3.lt;have cg5:=cu hb5 cg3;have HJ2:=af (HJ.out.trans (AX S p hjl));cases ok with
   |false=>
    have HQ:=af (show co ⟨f,R,S⟩ g=1 by rw[HE.out,if_pos (by show fh none S=false;rw[HJ2.out,<-hok];rfl)]);clear HE hok q4 q5 g0 g3;go_wp2_with fail
    go_ret;exact⟨by rw[HQ.out];rfl,BW5⟩
   |true=>
    have HJ3:=af (show fh none S=fh (some S[j].labels) (S.drop (j+1)) by rw[HJ2.out,<-hok];rfl);clear hok g0 g3 k3 b3 hb5 kr3 cg3;go_wp2_with fail
    go_roundw
    case rel=>exact⟨j+1,some S[j].labels,hjn,by go_num,BW5,kr5,cg5,HJ3,fun e=>by omega,fun i hi=>⟨S[j],(by obtain rfl:i=j:=(by omega);exact aW hjl),rfl⟩⟩
    case measure=>simp[intOf];omega
 ·have hr:fh none S=true:=by
   rw[HJ.out,List.drop_of_length_le (by rw[HN.out];exact aF _)];cases p<;>rfl
  have HQ:=af (show co ⟨f,R,S⟩ g=if cw g<(dr ⟨f,R,S⟩:Int) then 3 else 0 by rw[HE.out,if_neg (by show ¬(fh none S=false);rw[hr];decide)]);rw[HN.out] at q4;have g0:=aj (ax kr 0 (.int .i64 f) rfl);have g1:=aj (ax kr 1 (.slice ga R.length gc) rfl);have g2:=aj (ax kr 2 (.slice sa j sc) rfl);have g3:=aj cgr;clear hr HE;generalize dr ⟨f,R,S⟩=lk at*;go_wp2_with fail
  refine ed ?_
  (refine bH fun K hK=>?_;go_big_quiet_step (fail);refine hK _ ?_;clear hK K)
  (refine fP (f:=17) (args:=#[.agg #[.int .i64 f,.slice ga R.length gc,.slice sa j sc]]) (v:=.int .i64 (lk:Int)) (fun W hW=>q4.out W (hb.trans (Below.mono hW hb.size))) fun K hK=>?_;go_big_quiet_step (fail);refine hK _ ?_;clear hK K)
  (refine bH fun K hK=>?_;go_big_quiet_step (fail);refine hK _ ?_;clear hK K)
  (refine fP (f:=67) (args:=#[.int .i64 g]) (v:=.int .i64 (cw g)) (fun W hW=>(q5.out W).mono fun e w' ⟨h1,h2⟩=>⟨h1,h2▸bQ⟩) fun K hK=>?_;go_big_quiet_step (fail);refine hK _ ?_;clear hK K)
  (refine bH fun K hK=>?_;go_big_quiet_step (fail);refine hK _ ?_;clear hK K);refine eF ?_;intro w5 hb5;simp only[az];by_cases hlim:cw g<(lk:Int)
  ·have HZ:=af (show co ⟨f,R,S⟩ g=3 by rw[HQ.out,if_pos hlim]);go_wp2_with fail
   go_ret;exact⟨by rw[HZ.out];rfl,ay hb hb5⟩
  ·have HZ:=af (show co ⟨f,R,S⟩ g=0 by rw[HQ.out,if_neg hlim]);go_wp2_with fail
   go_ret;exact⟨by rw[HZ.out];rfl,ay hb hb5⟩
theorem Fi(l:List Lb)(lv:Value)(g:Nat)(w:World)(hl:aC w lv l)(hg:w.cell? ⟨g,0,none⟩=some lv):jQ 155 #[.pointer (some ⟨g,0,none⟩)] (fun x=> !dY x.labels l) w:=by
 intro x sl sv W hW hS;have bA:=ai W (.cells #[sl,sv,.int .i64 x.last] 88);have B:=ay hW bA;have g1:=cu B hg;have z0:=ax (ag.new W 88 #[sl,sv,.int .i64 x.last]) 0 sl rfl;have q:=af (kK x.labels l sl lv _ (hS.2.1.below bA) (hl.below B));clear hW hS hg hl B;go_enter Tryz.func155,Tryz.ntmps155
 go_wp2_with fail
 refine bP q.out fun w1 hb=>?_;go_wp2_with fail
 go_ret;exact⟨rfl,ay bA hb⟩
theorem IP(S:List aP)(x:aP):(∃i,df S x.labels=some i/\i<S.length/\mg S x=S.set i x)\/(df S x.labels=none/\mg S x=S.take (fX S x.labels)++x::S.drop (fX S x.labels)):=by
 unfold mg;cases h:df S x.labels with
 |none=>exact .inr ⟨rfl,rfl⟩
 |some i=>exact .inl ⟨i,rfl,fI _ _ h,rfl⟩
theorem Am(v sl sv:Value)(S:List aP)(x:aP)(w:World)(h:aM w v S)(hx:jd w (x,sl,sv))(hS:S.length<=1000):
 Calls Tryz.prog 85 #[v,.agg #[sl,sv,.int .i64 x.last]] w fun e w'=>∃v',e=.returned v'/\aM w' v' (mg S x)/\Below w.heap.size w w':=by
 obtain⟨l,L,b⟩:=x
 have hok:(⟨l,L,b⟩:aP).ok:=hx.1
 have hl:aC w sl l:=hx.2.1
 have hs:aI w sv L:=hx.2.2
 obtain⟨la,lc,rfl,_⟩:=id hl
 obtain⟨sa,sc,rfl,_⟩:=id hs
 show Calls Tryz.prog 85 #[v,.agg #[.slice la l.length lc,.slice sa L.length sc,.int .i64 b]] w _
 have b1:=ai w (.cells #[.slice la l.length lc,.slice sa L.length sc,.int .i64 b] 88)
 have k1:=ag.new w 88 #[.slice la l.length lc,.slice sa L.length sc,.int .i64 b]
 have q1:=af (fV v S w _ h b1)
 have HL:=af hl
 have HX:=af (And.intro hok hs)
 have HP:=af (IP S ⟨l,L,b⟩)
 clear h hl hs hx hok
 go_enter Tryz.func85,Tryz.ntmps85
 go_wp2_with fail
 generalize hW0:w.alloc _=W0 at*
 clear hW0
 refine q1.out.mono ?_
 rintro e w1 ⟨v1,Z,rfl,hZ,hV,hrow,hb1⟩
 obtain⟨za,zc,rfl⟩:=aH hrow
 have B1:=ay b1 hb1
 have m1:=ag.below k1 hb1 k1.lt
 have hw0:w.heap.size<W0.heap.size:=k1.lt
 have hs01:W0.heap.size<=w1.heap.size:=hb1.size
 have hZl:=af (show Z.length=S.length by rw[<-hZ,List.length_map])
 have HZ:=af hZ
 have HV:=af hV
 have hser:aM w1 (.slice za Z.length zc) S:=by
  have:=cX hrow rfl (by rw[hZl.out];omega) (fun z hz=>(hV z hz).below B1);rwa[hZ] at this
 have H1:=af hser
 have q2:=af (jB _ _ S l 0 w1 hser (HL.out.below B1))
 have c0:=ax m1 0 (.slice la l.length lc) rfl
 clear q1 hb1 k1 b1 hser hV hZ
 go_wp2_with fail
 refine bP q2.out fun w2 hb2=>?_
 have B2:=ay B1 hb2
 have m2:=ag.below m1 hb2 m1.lt
 have row2:=aw hrow (ak.of_below (S:=fun _=>False) hb2) (fun _ _ e=>e)
 have H2:=af (H1.out.below hb2)
 have hs12:W0.heap.size<=w2.heap.size:=aK hs01 hb2.size
 clear q2 hrow m1 c0 H1
 rcases HP.out with⟨i,hf,hi,hP⟩|⟨hf,hP⟩
 ·have HPE:=af hP;clear hP;rw[hf];have hlt:(0:Int)<=(i:Int):=by omega
  have hiZ:i<Z.length:=by rw[hZl.out];exact hi
  have hiZi:(i:Int)<(Z.length:Int):=by omega
  obtain⟨z,hz⟩:∃z,Z[i]?=some z:=⟨_,aW hiZ⟩
  rcases row2.2 with⟨_,h0⟩|⟨g,gcc,cur,e9,_⟩
  ·omega
  obtain⟨rfl,e10,e11⟩:=Value.slice.inj e9;clear e9 e10 e11;have hgl:=row2.lt g rfl;obtain⟨zs,zl,zv⟩:=z;have hzm:=HV.out _ (List.mem_of_getElem? hz);have hzl:aC w zl zs.labels:=hzm.2.1;have hzv:aI w zv zs.samples:=hzm.2.2;obtain⟨zla,zlc,rfl,_⟩:=id hzl;obtain⟨zva,zvc,rfl,_⟩:=id hzv;obtain⟨e0,e1,e2⟩:=ee row2 hz;simp only at e0 e1 e2;have fA:=bn (j:=i*3) row2 rfl;have fB:=bn (j:=i*3+1) row2 rfl;have fC:=bn (j:=i*3+2) row2 rfl;have x0:=ax m2 0 (.slice la l.length lc) rfl;have x1:=ax m2 1 (.slice sa L.length sc) rfl;have x2:=ax m2 2 (.int .i64 b) rfl;simp only[dX];have rA:=cG (j:=i*3) (u:=.slice la l.length lc) row2 rfl;have eA:=db (sz:=3) (enc:=eT) (fun _=>rfl) Z i 0 _ (zs,.slice la l.length lc,.slice zva zs.samples.length zvc) (.slice la l.length lc) hz (by decide) rfl;rw[Nat.add_zero] at eA;rw[eA] at rA;have hzA:(Z.set i (zs,.slice la l.length lc,.slice zva zs.samples.length zvc))[i]?=some (zs,.slice la l.length lc,.slice zva zs.samples.length zvc):=List.getElem?_set_self hiZ;have rB:=cG (j:=i*3+1) (u:=.slice sa L.length sc) rA rfl;rw[db (sz:=3) (fun _=>rfl) _ i 1 _ (zs,.slice la l.length lc,.slice sa L.length sc) _ hzA (by decide) rfl,List.set_set] at rB;have hzB:(Z.set i (zs,.slice la l.length lc,.slice sa L.length sc))[i]?=some (zs,.slice la l.length lc,.slice sa L.length sc):=List.getElem?_set_self hiZ;have rC:=cG (j:=i*3+2) (u:=.int .i64 b) rB rfl;rw[db (sz:=3) (fun _=>rfl) _ i 2 _ (⟨l,L,b⟩,.slice la l.length lc,.slice sa L.length sc) _ hzB (by decide) rfl,List.set_set] at rC;have hkk:ak w2 (((w2.setCell ⟨g,i*3,none⟩ (.slice la l.length lc)).setCell ⟨g,i*3+1,none⟩ (.slice sa L.length sc)).setCell ⟨g,i*3+2,none⟩ (.int .i64 b)) (fun k=>k=g):=((ak.of_grown (ap _ _ _ _) fun k e=>(aA e).symm).trans (ak.of_grown (ap _ _ _ _) fun k e=>(aA e).symm)).trans (ak.of_grown (ap _ _ _ _) fun k e=>(aA e).symm);have BF:=B2.trans (hkk.below B2.size fun k e=>by have:=hgl.1;omega);have hat:=cX rC (by rw[List.length_set]) (by rw[List.length_set,hZl.out];omega) fun y hy=>by
   rcases List.mem_or_eq_of_mem_set hy with hy|rfl
   ·exact(HV.out y hy).below BF
   ·exact⟨HX.out.1,HL.out.below BF,HX.out.2.below BF⟩
  rw[List.map_set,HZ.out] at hat;have HAT:=af (show aM _ _ (mg S ⟨l,L,b⟩) from HPE.out▸hat);clear rA eA hzA rB hzB rC hkk hat row2 hzl hzv hzm;go_wp2_with fail
  go_ret;exact⟨.slice (some ⟨g,0,none⟩) Z.length zc,rfl,HAT.out,BF⟩
 ·have HPE:=af hP;clear hP;rw[hf];have g2:=ax m2 0 (.slice la l.length lc) rfl;have q3:=af (mp 155 #[.pointer (some ⟨w.heap.size,0,none⟩)] _ _ S w2 H2.out (Fi l _ w.heap.size w2 (HL.out.below B2) g2) (fun args W=>by go_simp));simp only[dX];go_wp2_with fail
  refine bP q3.out fun w3 hb3=>?_;have B3:=ay B2 hb3;have m3:=ag.below m2 hb3 m2.lt;have row3:=aw row2 (ak.of_below (S:=fun _=>False) hb3) (fun _ _ e=>e);have hs3:=aK hs12 hb3.size;clear q3 m2 row2 hb3 g2 H2 hb2;go_upto_if 25 with fail
  go_cut [6] (fun s7 wx=>s7=.int .i64 (fX S l:Int)/\w3=wx)
  case first=>
   cases hfi:S.findIdx? (fun x=> !dY x.labels l) with
   |none=>
    have HI:=af (show fX S l=Z.length by unfold fX;rw[hfi,hZl.out];rfl);simp only[dX];clear hfi;go_wp2_with fail
    go_meet;exact⟨by rw[HI.out],rfl⟩
   |some j=>
    have HI:=af (show fX S l=j by unfold fX;rw[hfi];rfl);have hlt:¬((j:Int)<0):=by omega
    simp only[dX];clear hfi;go_wp2_with fail
    go_meet;exact⟨by rw[HI.out],rfl⟩
  case rest=>
   obtain⟨rfl,rfl⟩:=hcut;have hk:=zz S l;generalize fX S l=k at*;have hkZ:k<=Z.length:=by rw[hZl.out];exact hk
   have r9:=World.ownsRow.alloc row3 (.cells #[.slice la l.length lc,.slice sa L.length sc,.int .i64 b] 88);have k9:=ag.new w3 88 #[.slice la l.length lc,.slice sa L.length sc,.int .i64 b];have hlt3:=row3.lt;have q4:=af (tE r9 (wK HV.out) hkZ (by rw[hZl.out];omega) w3.heap.size _ _ _ k9 (fun e=>by have:=(hlt3 _ e).2;omega) (by simp[Value.oneCell']) (aK hs3 (ai w3 _).size));have B9:=B3.alloc B3.size (.cells #[.slice la l.length lc,.slice sa L.length sc,.int .i64 b] 88);have x0:=ax m3 0 (.slice la l.length lc) rfl;have x1:=ax m3 1 (.slice sa L.length sc) rfl;have x2:=ax m3 2 (.int .i64 b) rfl;clear r9 k9 row3 m3;go_wp2_with fail
   refine q4.out.mono ?_;rintro e w10 ⟨v2,rfl,row10,hk10,hloc⟩;have B10:=B9.trans (hk10.below B9.size fun j e=>by have:=(hlt3 j e).1;omega);rw[(gG (sz:=3) (fun _=>rfl) Z k).1,(gG (sz:=3) (fun _=>rfl) Z k).2,show aL eT (Z.take k)++[.slice la l.length lc,.slice sa L.length sc,.int .i64 b]++aL eT (Z.drop k)=aL eT (Z.take k++(⟨l,L,b⟩,.slice la l.length lc,.slice sa L.length sc)::Z.drop k) by unfold aL;rw[List.flatMap_append,List.flatMap_cons,List.append_assoc];rfl] at row10;have hln:(Z.take k++((⟨l,L,b⟩:aP),Value.slice la l.length lc,Value.slice sa L.length sc)::Z.drop k).length=Z.length+1:=by rw[aG,de,dt,List.length_drop];omega
   have hat:=cX row10 hln (by rw[hln,hZl.out];omega) fun z hz=>by
    rcases List.mem_append.1 hz with hz|hz
    ·exact(HV.out z (List.mem_of_mem_take hz)).below B10
    ·rcases List.mem_cons.1 hz with rfl|hz
     ·exact⟨HX.out.1,HL.out.below B10,HX.out.2.below B10⟩
     ·exact(HV.out z (List.mem_of_mem_drop hz)).below B10
   rw[List.map_append,List.map_cons,List.map_take,List.map_drop,HZ.out] at hat;have HAT:=af (show aM _ _ (mg S ⟨l,L,b⟩) from HPE.out▸hat);clear q4 hat row10 hk10 hloc B9 hlt3;go_wp2_with fail
   go_ret;exact⟨_,rfl,HAT.out,B10⟩
theorem nj{P:Program}{w:World}{t e:TypeId}{z:Value}(ht:P.underlying t=some (.slice e))(hv:∀w,(zeroValue e).run P w=.ok z w){sz:Nat}(hz:z.cells.size=sz)(h1:∀u∈z.cells.toList,u.oneCell'=true){B n g c i:Nat}{xs:List Value}(h:w.ownsRow B e sz (.slice (some ⟨g,0,none⟩) n c) n xs)(hi:i<n):
 ∃w',(∀ty c',(Builtin.clear_ #[t] ty #[.slice (some ⟨g,i*sz,none⟩) (n-i) c']).run P w=.ok (.tuple #[]) w')/\ak w w' (fun k=>k=g)/\w'.ownsRow B e sz (.slice (some ⟨g,0,none⟩) i c) i (xs.take (i*sz)):=by
 have hxl:=h.1
 rcases h.2 with⟨e9,_⟩|⟨g',cap,cur,e9,hB,hcur,hnc,hcm,hcs,hct⟩
 ·cases e9
 obtain⟨hgg,_,rfl⟩:=Value.slice.inj e9
 clear e9
 obtain rfl:g=g':=congrArg Addr.block (aA hgg)
 have hnl:(Builtin.zeroCells z.cells (n-i)).toList.length=(n-i)*sz:=by simp[Builtin.zeroCells,hz]
 have hon:∀u∈(Builtin.zeroCells z.cells (n-i)).toList,u.oneCell'=true:=fun u hu=>by
  simp only[Builtin.zeroCells,Array.toList_map,List.mem_map] at hu;obtain⟨j,hj,rfl⟩:=hu;have hj:=Array.mem_toList_iff.1 hj;rw[Array.mem_range] at hj;have hp:0<z.cells.size:=by
   rcases Nat.eq_zero_or_pos z.cells.size with h0|h0
   ·rw[h0] at hj;omega
   ·exact h0
  rw[getElem!_pos z.cells (j%z.cells.size) (Nat.mod_lt _ hp)];exact h1 _ (Array.mem_toList_iff.2 (Array.getElem_mem _))
 have hle:i*sz+(n-i)*sz=n*sz:=by rw[<-Nat.add_mul];congr 1;omega
 have hlt:n*sz<=c*sz:=Nat.mul_le_mul_right _ hnc
 have hst:=iR P g (i*sz) e (0,0) (Builtin.zeroCells z.cells (n-i)).toList 0 cur w hcur (.inl (aF _)) (by rw[hnl];omega) hon
 have hcl0:∀ty c',(Builtin.clear_ #[t] ty #[.slice (some ⟨g,i*sz,none⟩) (n-i) c']).run P w=.ok (.tuple #[]) (w.setRow g (cur.toList.take (i*sz+0)++(Builtin.zeroCells z.cells (n-i)).toList++cur.toList.drop (i*sz+0+(Builtin.zeroCells z.cells (n-i)).toList.length)).toArray):=fun ty c'=>by
  obtain⟨m,hm⟩:∃m,n-i=m+1:=⟨n-i-1,by omega⟩
  rw[hm] at hst⊢;simp only[Builtin.clear_];simp[run_underlying ht,hv,hst]
 clear hst
 generalize (Builtin.zeroCells z.cells (n-i)).toList=zs at*
 have hcl:cur.toList.length=c*sz:=by rw[Array.length_toList];exact hcs
 refine⟨_,hcl0,⟨rfl,rfl,rfl,by rw[setRow_size];exact aF _,fun k _ hg=>setRow_other _ _ _ _ hg⟩,by rw[dt];omega,.inr ⟨g,c,_,rfl,hB,setRow_heap _ _ _ _ _ _ hcur,by omega,hcm,?_,?_⟩⟩
 ·simp only[List.size_toArray,aG,dt,List.length_drop,hcl,hnl];omega
 ·rw[List.append_assoc,Nat.add_zero,List.take_append_of_le_length (by rw[dt];omega),List.take_take,<-hct,List.take_take];congr 1;omega
structure iV{α:Type}(p:α->Bool)(Z:List α)(i j:Nat)(Y:List α):Prop where
 len:Y.length=Z.length
 lt:i<j
 le:j<=Z.length
 low:Y.take i=(Z.take j).filter fun x=> !p x
 high:Y.drop j=Z.drop j
 mem:∀y∈Y,y∈Z
theorem iV.start{α:Type}{p:α->Bool}{Z:List α}{k:Nat}(h:Z.findIdx? p=some k):iV p Z k (k+1) Z:=by
 rw[List.findIdx?_eq_some_iff_getElem] at h;obtain⟨hk,h1,h2⟩:=h;refine⟨rfl,Nat.lt_succ_self k,hk,?_,rfl,fun y hy=>hy⟩;rw[eN hk,List.filter_append,List.filter_cons_of_neg (by simp[h1]),List.filter_nil,List.append_nil];refine(List.filter_eq_self.2 fun x hx=>?_).symm;obtain⟨j,hj,rfl⟩:=List.mem_iff_getElem.1 hx;rw[dt] at hj;rw[List.getElem_take];have:=h2 j (by omega);simpa using this
theorem iV.at{α:Type}{p:α->Bool}{Z Y:List α}{i j:Nat}(h:iV p Z i j Y)(hj:j<Z.length):Y[j]?=some Z[j]:=by
 have:=congrArg (fun l=>l[0]?) h.high;simp only[List.getElem?_drop,Nat.add_zero] at this;rw[this];exact aW hj
theorem iV.skip{α:Type}{p:α->Bool}{Z Y:List α}{i j:Nat}(h:iV p Z i j Y)(hj:j<Z.length)(hp:p Z[j]=true):iV p Z i (j+1) Y:=by
 refine⟨h.len,Nat.lt_succ_of_lt h.lt,hj,?_,?_,h.mem⟩
 ·rw[eN hj,List.filter_append,List.filter_cons_of_neg (by simp[hp]),List.filter_nil,List.append_nil];exact h.low
 ·rw[<-List.drop_drop,<-List.drop_drop,h.high]
theorem iV.keep{α:Type}{p:α->Bool}{Z Y:List α}{i j:Nat}(h:iV p Z i j Y)(hj:j<Z.length)(hp:p Z[j]=false):iV p Z (i+1) (j+1) (Y.set i Z[j]):=by
 have hij:=h.lt;have hl:=h.len;refine⟨by rw[List.length_set];exact h.len,by omega,hj,?_,?_,fun y hy=>?_⟩
 ·rw[eN (by rw[List.length_set];omega),List.getElem_set_self,List.take_set_of_le (aF _),h.low,eN hj,List.filter_append,List.filter_cons_of_pos (by simp[hp]),List.filter_nil]
 ·rw[List.drop_set_of_lt (by omega),<-List.drop_drop,<-List.drop_drop,h.high]
 ·rcases List.mem_or_eq_of_mem_set hy with hy|rfl
  ·exact h.mem y hy
  ·exact dM hj
theorem iV.done{α:Type}{p:α->Bool}{Z Y:List α}{i:Nat}(h:iV p Z i Z.length Y):Y.take i=Z.filter fun x=> !p x:=by
 rw[h.low,List.take_length]
theorem qY{α β:Type}(g:α->β)(p:β->Bool):∀Z:List α,(Z.map g).findIdx? p=Z.findIdx? fun z=>p (g z)
 |[]=>rfl
 |z::Z=>by rw[List.map_cons,List.findIdx?_cons,List.findIdx?_cons,qY g p Z]
theorem mw{α β:Type}(g:α->β)(p:β->Bool):∀Z:List α,(Z.map g).filter p=(Z.filter fun z=>p (g z)).map g
 |[]=>rfl
 |z::Z=>by
  rw[List.map_cons,List.filter_cons,List.filter_cons,mw g p Z];cases p (g z)<;>rfl
theorem Cf(f:Nat)(capt:Array Value)(p:aP->Bool)(v:Value)(Z:List (aP×Value×Value))(w0 w:World)(B:Nat)(hrow:w.ownsRow B 88 3 v Z.length (aL eT Z))(hV:∀z∈Z,jd w0 z)(hbw:Below w0.heap.size w0 w)(hB:w0.heap.size<=B)(hn:Z.length<=100000)(hp:jQ f capt p w0)(hcf:∀args W,(callFunc f args).run Tryz.prog W=.ok (.enter f args) W):
 Calls Tryz.prog 158 #[v,.func (.func f) #[] capt] w fun e w'=>∃v',e=.returned v'/\aM w' v' ((Z.map fun z=>z.1).filter fun x=> !p x)/\Below w0.heap.size w0 w'/\∀k,v'.ownBlock=some k->B<=k:=by
 obtain⟨za,zc,rfl⟩:=aH hrow
 have hser:aM w (.slice za Z.length zc) (Z.map fun z=>z.1):=cX hrow rfl hn (fun z hz=>(hV z hz).below hbw)
 have q:=af (mp f capt p _ _ w hser (fun x sl sv W hW hS=>hp x sl sv W (ay hbw hW) hS) hcf)
 have HP:=af hp
 have HV:=af hV
 have hrl:=hrow.lt
 clear hp hV
 rw[qY] at q
 cases hfi:Z.findIdx? fun z=>p z.1 with
 |none=>
  rw[hfi] at q;have HF:=af (show ((Z.map fun z=>z.1).filter fun x=> !p x)=Z.map fun z=>z.1 from List.filter_eq_self.2 fun x hx=>by
   obtain⟨z,hz,rfl⟩:=List.mem_map.1 hx
   rw[List.findIdx?_eq_none_iff] at hfi
   simpa using hfi z hz)
  have H:=af hser;clear hfi hser hrow;simp only[dX] at q;go_enter Tryz.func158,Tryz.ntmps158
  go_wp2_with fail
  refine bP q.out fun w1 hb1=>?_;clear q;go_wp2_with fail
  go_ret;exact⟨_,rfl,by rw[HF.out];exact H.out.below hb1,ay hbw hb1,fun k e=>(hrl k e).1⟩
 |some k0=>
  rw[hfi] at q;have HS:=af (iV.start hfi);have hk0:=fI _ _ hfi;rcases hrow.2 with⟨_,h0⟩|⟨g,gcc,cur,e9,_⟩
  ·omega
  obtain⟨rfl,e10,e11⟩:=Value.slice.inj e9;clear e9 e10 e11 hfi hser;have hgl:=hrl g rfl;have HR:=af hrow;obtain⟨N,hN⟩:∃N,Z.length=N:=⟨_,rfl⟩
  have HN:=af hN;rw[hN] at hn hk0 HR hrl q⊢;have hne1:((k0:Int)== -1)=false:=beq_eq_false_iff_ne.2 (by omega);clear hN hrow;simp only[dX] at q;go_enter Tryz.func158,Tryz.ntmps158
  go_wp2_with fail
  refine bP q.out fun w1 hb1=>?_;clear q;have B1:=ay hbw hb1;have row1:=aw HR.out (ak.of_below (S:=fun _=>False) hb1) (fun _ _ e=>e);have hw0:IntKind.i64.wrap ((k0:Int)+1)=(k0:Int)+1:=ct _ (by omega);go_wp2_with fail
  go_loopw [5,6] (fun si sj wr=>∃(i j:Nat) (Y:List (aP×Value×Value)),si=.int .i64 (i:Int)/\sj=.int .i64 (j:Int)/\Below w0.heap.size w0 wr/\wr.ownsRow B 88 3 (.slice (some ⟨g,0,none⟩) N zc) N (aL eT Y)/\Hid (iV (fun z=>p z.1) Z i j Y)) (fun _ sj _=>N-(intOf sj).toNat)
  case atStart=>exact⟨k0,k0+1,Z,rfl,by go_num,B1,row1,HS⟩
  clear B1 row1 HS hw0 hne1 hb1 HR;obtain⟨i,j,Y,rfl,rfl,hb,row,HD⟩:=hrel;have hij:=HD.out.lt;have hjN:j<=N:=by rw[<-HN.out];exact HD.out.le
  have hYl:Y.length=N:=by rw[<-HN.out];exact HD.out.len
  have HYL:=af hYl;rcases(show j<N\/j=N by omega) with hjn|rfl
  ·have hjZ:j<Z.length:=by rw[HN.out];exact hjn
   have hzj:=HD.out.at hjZ;have HK:=af (HD.out.keep hjZ);have HSK:=af (HD.out.skip hjZ);have hzm:=(HV.out _ (dM hjZ)).below hb;generalize Z[j]=z at*;clear hjZ;obtain⟨zs,zl,zv⟩:=z;obtain⟨e0,e1,e2⟩:=ee row hzj;obtain⟨zla,zlc,rfl,_⟩:=id (show aC wr zl zs.labels from hzm.2.1);obtain⟨zva,zvc,rfl,_⟩:=id (show aI wr zv zs.samples from hzm.2.2);simp only at e0 e1 e2;have b3:=ai wr (.cells #[.slice zla zs.labels.length zlc,.slice zva zs.samples.length zvc,.int .i64 zs.last] 88);have B3:=ay hb b3;have k3:=ag.new wr 88 #[.slice zla zs.labels.length zlc,.slice zva zs.samples.length zvc,.int .i64 zs.last];have z0:=ax k3 0 (.slice zla zs.labels.length zlc) rfl;have z1:=ax k3 1 (.slice zva zs.samples.length zvc) rfl;have z2:=ax k3 2 (.int .i64 zs.last) rfl;have q:=af (HP.out zs _ _ _ B3 (hzm.below b3));have hw9:IntKind.i64.wrap ((j:Int)+1)=(j:Int)+1:=ct _ (by omega);have hw8:IntKind.i64.wrap ((i:Int)+1)=(i:Int)+1:=ct _ (by omega);have HR:=af (World.ownsRow.alloc row (.cells #[.slice zla zs.labels.length zlc,.slice zva zs.samples.length zvc,.int .i64 zs.last] 88));have hiY:i<Y.length:=by rw[HYL.out];omega
   obtain⟨⟨ys,yl,yv⟩,hy⟩:∃y,Y[i]?=some y:=⟨_,aW hiY⟩
   clear hzm row hYl;cases hpz:p zs with
   |true=>
    rw[hpz] at q;have HD2:=af (HSK.out hpz);clear HSK HK hy hpz;go_wp2_with fail
    refine bP q.out fun w2 hb2=>?_;have B2:=ay B3 hb2;have row2:=aw HR.out (ak.of_below (S:=fun _=>False) hb2) (fun _ _ e=>e);clear q e0 e1 e2 hb b3 B3 k3 z0 z1 z2;go_wp2_with fail
    go_roundw
    case rel=>exact⟨i,j+1,Y,rfl,by go_num,B2,row2,HD2⟩
    case measure=>simp[intOf];omega
   |false=>
    rw[hpz] at q;have HD2:=af (HK.out hpz);clear HSK HK hpz;go_wp2_with fail
    refine bP q.out fun w2 hb2=>?_;have B2:=ay B3 hb2;have row2:=aw HR.out (ak.of_below (S:=fun _=>False) hb2) (fun _ _ e=>e);obtain⟨c0,c1,c2⟩:=ee row2 hy;simp only at c0 c1 c2;have k4:=ag.below k3 hb2 k3.lt;have z0:=ax k4 0 (.slice zla zs.labels.length zlc) rfl;have z1:=ax k4 1 (.slice zva zs.samples.length zvc) rfl;have z2:=ax k4 2 (.int .i64 zs.last) rfl;have fA:=bn (j:=i*3) row2 rfl;have fB:=bn (j:=i*3+1) row2 rfl;have fC:=bn (j:=i*3+2) row2 rfl;have rA:=cG (j:=i*3) (u:=.slice zla zs.labels.length zlc) row2 rfl;have eA:=db (sz:=3) (enc:=eT) (fun _=>rfl) Y i 0 _ (ys,.slice zla zs.labels.length zlc,yv) (.slice zla zs.labels.length zlc) hy (by decide) rfl;rw[Nat.add_zero] at eA;rw[eA] at rA;have hzA:(Y.set i (ys,.slice zla zs.labels.length zlc,yv))[i]?=some (ys,.slice zla zs.labels.length zlc,yv):=List.getElem?_set_self hiY;have rB:=cG (j:=i*3+1) (u:=.slice zva zs.samples.length zvc) rA rfl;rw[db (sz:=3) (fun _=>rfl) _ i 1 _ (ys,.slice zla zs.labels.length zlc,.slice zva zs.samples.length zvc) _ hzA (by decide) rfl,List.set_set] at rB;have hzB:(Y.set i (ys,.slice zla zs.labels.length zlc,.slice zva zs.samples.length zvc))[i]?=some (ys,.slice zla zs.labels.length zlc,.slice zva zs.samples.length zvc):=List.getElem?_set_self hiY;have rC:=cG (j:=i*3+2) (u:=.int .i64 zs.last) rB rfl;rw[db (sz:=3) (fun _=>rfl) _ i 2 _ (zs,.slice zla zs.labels.length zlc,.slice zva zs.samples.length zvc) _ hzB (by decide) rfl,List.set_set] at rC;have hkk:ak w2 (((w2.setCell ⟨g,i*3,none⟩ (.slice zla zs.labels.length zlc)).setCell ⟨g,i*3+1,none⟩ (.slice zva zs.samples.length zvc)).setCell ⟨g,i*3+2,none⟩ (.int .i64 zs.last)) (fun k=>k=g):=((ak.of_grown (ap _ _ _ _) fun k e=>(aA e).symm).trans (ak.of_grown (ap _ _ _ _) fun k e=>(aA e).symm)).trans (ak.of_grown (ap _ _ _ _) fun k e=>(aA e).symm);have BF:=B2.trans (hkk.below B2.size fun k e=>by have:=hgl.1;omega);have HRC:=af rC;clear q e0 e1 e2 hb rA eA hzA rB hzB rC hkk row2 hy B2 HR b3 B3 k3 k4;go_wp2_with fail
    go_roundw
    case rel=>exact⟨i+1,j+1,_,by go_num,by go_num,BF,HRC.out,HD2⟩
    case measure=>simp[intOf];omega
  ·obtain⟨w5,hcl,hk5,row5⟩:=nj (sz:=3) (z:=.agg #[.slice none 0 0,.slice none 0 0,.int .i64 0]) ib.und (fun W=>by go_simp) rfl (by simp[Value.oneCell',Value.cells]) row hij;rw[(gG (sz:=3) (fun _=>rfl) Y i).1,show Y.take i=Z.filter fun z=> !p z.1 from by have:=HD.out;rw[<-HN.out] at this;exact this.done] at row5;have hB5:=hb.trans (hk5.below hb.size fun k e=>by have:=hgl.1;omega);have hfl:(Z.filter fun z=> !p z.1).length=i:=by
    have:=HD.out;rw[<-HN.out] at this;rw[<-this.done,dt,HYL.out];omega
   have hat:=cX row5 hfl (by rw[hfl];omega) fun z hz=>(HV.out z ((List.mem_filter.1 hz).1)).below hB5;rw[<-mw (fun z:aP×Value×Value=>z.1) (fun x=> !p x)] at hat;have HAT:=af hat;rcases row.2 with⟨e9,_⟩|⟨g9,c9,cur9,e9,_,_,hnc,_⟩
   ·cases e9
   obtain⟨hgg,hjj,rfl⟩:=Value.slice.inj e9;clear hgg hjj;have hGi:¬(zc=i):=by omega
   have hi0:(0:Int)<=(i:Int):=by omega
   have hij2:(i:Int)<=(j:Int):=by omega
   have hjc:(j:Int)<=(zc:Int):=by omega
   clear row hat hYl HYL HD row5 hk5 e9;go_wp2;go_ret;exact⟨_,rfl,HAT.out,hB5,fun k e=>by cases e;exact hgl.1⟩
theorem A8(f:Int)(g:Nat)(w:World)(hg:w.cell? ⟨g,1,none⟩=some (.int .i64 f)):jQ 159 #[.pointer (some ⟨g,0,none⟩)] (fun x=>x.samples.isEmpty&&decide (x.last<f)) w:=by
 rintro⟨l,L,b⟩ sl sv W hW hS;obtain⟨va,vc,hsv,_⟩:=id hS.2.2;simp only at hsv;subst hsv;show Calls Tryz.prog _ #[.agg #[sl,.slice va L.length vc,.int .i64 b],.pointer (some ⟨g,0,none⟩)] W _;have bA:=ai W (.cells #[sl,.slice va L.length vc,.int .i64 b] 88);have B:=ay hW bA;have g1:=cu B hg;have k:=ag.new W 88 #[sl,.slice va L.length vc,.int .i64 b];have z1:=ax k 1 (.slice va L.length vc) rfl;have z2:=ax k 2 (.int .i64 b) rfl;clear hW hS hg B k;have hE:=af (show (List.isEmpty L&&decide (b<f))=(decide (L.length=0)&&decide (b<f)) by cases L<;>simp);show Calls Tryz.prog _ _ W fun e W'=>e=.returned (.bool (List.isEmpty L&&decide (b<f)))/\_;generalize (List.isEmpty L&&decide (b<f))=be at*;generalize L.length=N at*;by_cases h0:N=0
 ·subst h0;have HZ:=af (show be=decide (b<f) by rw[hE.out];simp);clear hE;go_enter Tryz.func159,Tryz.ntmps159
  go_wp2_with fail
  go_ret;exact⟨by rw[HZ.out];rfl,bA⟩
 ·have HZ:=af (show be=false by rw[hE.out,decide_eq_false h0];rfl);have h0i:¬((N:Int)=0):=by omega
  clear hE;go_enter Tryz.func159,Tryz.ntmps159
  go_wp2_with fail
  go_ret;exact⟨by rw[HZ.out];rfl,bA⟩
theorem D0(S:List aP)(f:Int):(S.filter fun x=> !(x.samples.isEmpty&&decide (x.last<f)))=fi S f:=rfl
theorem uu(v:Value)(S:List aP)(f:Int)(w:World)(h:aM w v S):
 Calls Tryz.prog 88 #[.agg #[v,.int .i64 f]] w fun e w'=>∃v',e=.returned (.agg #[v',.int .i64 f])/\aM w' v' (fi S f)/\Below w.heap.size w w':=by
 have hlen:=h.len
 obtain⟨sa,sc,rfl,_⟩:=id h
 have b1:=ai w (.cells #[.slice sa S.length sc,.int .i64 f] 49)
 have b2:=b1.alloc b1.size (.cells #[.slice none 0 0,.int .i64 0] 49)
 have k1:=ag.alloc (ag.new w 49 #[.slice sa S.length sc,.int .i64 f]) (.cells #[.slice none 0 0,.int .i64 0] 49)
 have k2:=ag.new (w.alloc (.cells #[.slice sa S.length sc,.int .i64 f] 49)) 49 #[.slice none 0 0,.int .i64 0]
 rw[aY] at k2
 have y0:=ax k1 0 (.slice sa S.length sc) rfl
 have y1:=ax k1 1 (.int .i64 f) rfl
 have hs2:w.heap.size+2<=((w.alloc (.cells #[.slice sa S.length sc,.int .i64 f] 49)).alloc (.cells #[.slice none 0 0,.int .i64 0] 49)).heap.size:=by rw[aY,aY];exact aF _
 have q1:=af (fV _ S w _ h b2)
 have H:=af h
 clear h b1
 go_enter Tryz.func88,Tryz.ntmps88
 go_wp2_with fail
 generalize hW0:(w.alloc _).alloc _=W0 at*
 clear hW0
 refine q1.out.mono ?_
 rintro e w1 ⟨v1,Z,rfl,hZ,hV,hrow,hb1⟩
 have hZn:Z.length=S.length:=by rw[<-hZ,List.length_map]
 have q2:=af (Cf 159 #[.pointer (some ⟨w.heap.size,0,none⟩)] _ v1 Z W0 w1 W0.heap.size hrow (fun z hz=>(hV z hz).below b2) hb1 (aF _) (by omega) (A8 f w.heap.size W0 y1) (fun args W=>by go_simp))
 rw[hZ,D0] at q2
 obtain⟨za,zc,rfl⟩:=aH hrow
 clear q1 hrow hV hZ hb1 y0 hZn
 go_wp2_with fail
 refine q2.out.mono ?_
 rintro e w2 ⟨v2,rfl,hS2,hb2,_⟩
 obtain⟨ta,tc,rfl,_⟩:=id hS2
 have m1:=ag.below k1 hb2 k1.lt
 have m2:=ag.below k2 hb2 k2.lt
 have B2:=ay b2 hb2
 have hkk:ak w2 (w2.setCell ⟨w.heap.size,0,none⟩ (.slice ta (fi S f).length tc)) (fun k=>k=w.heap.size):=ak.of_grown (ap _ _ _ _) fun k e=>(aA e).symm
 have hS3:=hS2.st m1 hkk
 have B3:=B2.trans (hkk.below B2.size fun k e=>by omega)
 have n1:ag (w2.setCell ⟨w.heap.size,0,none⟩ (.slice ta (fi S f).length tc)) w.heap.size 49 #[.slice ta (fi S f).length tc,.int .i64 f]:=ag.set_ m1 0 _
 have n2:=ag.far (u:=.slice ta (fi S f).length tc) (p:=⟨w.heap.size,0,none⟩) m2 (by simp)
 have fz:=ag.frozen m1 0
 have c0:=ax m1 0 (.slice sa S.length sc) rfl
 have hf0:=ag.frozen n2 0
 have hf1:=ag.frozen n2 1
 have z0:=ax n2 0 (.slice none 0 0) rfl
 have z1:=ax n2 1 (.int .i64 0) rfl
 have y0:=ax n1 0 (.slice ta (fi S f).length tc) rfl
 have y1:=ax n1 1 (.int .i64 f) rfl
 obtain⟨r1,r2,r3⟩:=ix B3 (Nat.le_succ w.heap.size) n2 (.slice ta (fi S f).length tc) f
 have hS4:=af (r3 _ _ hS3)
 clear q2 hS2 hS3 hkk m1 m2 B2 B3 k1 k2 hb2
 go_wp2_with fail
 refine bodyPost_ret (results_cell_row rfl _ _ (w.heap.size+1) 49 #[.slice ta (fi S f).length tc,.int .i64 f] (0,0) _ rfl r1 Tryz.underlying49 rfl (by kernel_rfl)) rfl ?_
 exact⟨_,rfl,hS4.out,r2⟩
def om (S:List aP)(l:List Lb):aP×Bool:=match df S l with
 |none=>(cB,false)
 |some i=>(S.getD i cB,true)
theorem Av(w:World):jd w (cB,.slice none 0 0,.slice none 0 0):=⟨⟨by simp[cB],by simp[cB],by simp[cB]⟩,⟨_,_,rfl,by simp[cB]⟩,iq.nil _⟩
theorem qy{w:World}{B g n c k:Nat}{Z:List cJ}(h:w.ownsRow B 127 2 (.slice (some ⟨g,0,none⟩) n c) k (aL gD Z)){i:Nat}{z:cJ}(hz:Z[i]?=some z):w.cell? ⟨g,i*2,none⟩=some (.int .i64 z.1)/\w.cell? ⟨g,i*2+1,none⟩=some (.int .u64 (z.2:Int)):=by
 have hc:=h.cells (g:=g) rfl;have q:∀j u,(gD z)[j]?=some u->w.cell? ⟨g,i*2+j,none⟩=some u:=fun j u hj=>by
  have:=hc (i*2+j) u (jy (sz:=2) (fun _=>rfl) Z i z hz j u hj);rwa[dy,Nat.zero_add] at this
 exact⟨q 0 _ rfl,q 1 _ rfl⟩
theorem EJ(f:Nat)(capt:Array Value)(p:cJ->Bool)(v:Value)(S:List cJ)(w:World)(h:aI w v S)(hp:wl f capt p w)(hcf:∀args W,(callFunc f args).run Tryz.prog W=.ok (.enter f args) W):
 Calls Tryz.prog 163 #[v,.func (.func f) #[] capt] w fun e w'=>e=.returned (.int .i64 (dX (S.findIdx? p)))/\Below w.heap.size w w':=by
 have hlen:=h.len
 obtain⟨a,c,rfl,_⟩:=id h
 have H:=af h
 have HP:=af hp
 clear h hp
 obtain⟨N,hN⟩:∃N,S.length=N:=⟨_,rfl⟩
 have HN:=af hN
 rw[hN] at hlen H⊢
 clear hN
 go_enter Tryz.func163,Tryz.ntmps163
 go_wp2_with fail
 go_loopw [5,8] (fun _ vi wr=>∃(i:Nat),i<=N/\vi=.int .i64 (i:Int)/\Below w.heap.size w wr/\Hid (S.findIdx? p=((S.drop i).findIdx? p).map (·+i))) (fun _ vi _=>N-(intOf vi).toNat)
 case atStart=>exact⟨0,Nat.zero_le _,rfl,bQ,af (by rw[List.drop_zero];cases S.findIdx? p<;>rfl)⟩
 obtain⟨i,hi',rfl,hb,HJ⟩:=hrel
 rcases(show i<N\/i=N by omega) with hil|rfl
 ·have hiL:i<S.length:=by rw[HN.out];exact hil
  obtain⟨b,o,rfl,hok,d0,d1⟩:=fR H.out hiL hb;have q:=af (HP.out S[i] wr hok hb);rw[i7 p S i hiL] at HJ;clear hok;generalize S[i]=y at*;clear hiL;obtain⟨bo,hbo⟩:∃bo,p y=bo:=⟨_,rfl⟩
  rw[hbo] at HJ q;clear hbo;have hw9:IntKind.i64.wrap ((i:Int)+1)=(i:Int)+1:=ct _ (by omega);go_wp2_with fail
  refine bP q.out fun w2 hb2=>?_;have B2:=ay hb hb2;clear q d0 d1 hb hb2;cases bo with
  |true=>
   have HZ:=af (show dX (S.findIdx? p)=(i:Int) by rw[HJ.out];simp[dX]);clear HJ;go_wp2_with fail
   go_ret;exact⟨by rw[HZ.out];rfl,B2⟩
  |false=>
   have HZ:=af (show S.findIdx? p=((S.drop (i+1)).findIdx? p).map (·+(i+1)) by rw[HJ.out,if_neg (by decide)];cases (S.drop (i+1)).findIdx? p<;>simp[Nat.add_assoc,Nat.add_comm 1]);clear HJ;go_wp2_with fail
   go_roundw
   case rel=>exact⟨i+1,hil,by go_num,B2,HZ⟩
   case measure=>simp[intOf];omega
 ·have HZ:=af (show dX (S.findIdx? p)= -1 by rw[HJ.out,List.drop_of_length_le (by rw[HN.out];exact aF _)];rfl);clear HJ;go_wp2_with fail
  go_ret;exact⟨by rw[HZ.out];rfl,hb⟩
theorem Ce(f:Nat)(capt:Array Value)(p:cJ->Bool)(v:Value)(Z:List cJ)(w0 w:World)(B:Nat)(hrow:w.ownsRow B 127 2 v Z.length (aL gD Z))(hok:∀z∈Z,ew z)(hbw:Below w0.heap.size w0 w)(hB:w0.heap.size<=B)(hn:Z.length<=100000)(hp:wl f capt p w0)(hcf:∀args W,(callFunc f args).run Tryz.prog W=.ok (.enter f args) W):
 Calls Tryz.prog 95 #[v,.func (.func f) #[] capt] w fun e w'=>∃v',e=.returned v'/\aI w' v' (Z.filter fun x=> !p x)/\Below w0.heap.size w0 w'/\∀k,v'.ownBlock=some k->B<=k:=by
 obtain⟨za,zc,rfl⟩:=aH hrow
 have hser:aI w (.slice za Z.length zc) Z:=iy hrow rfl hn hok
 have q:=af (EJ f capt p _ _ w hser (fun x W hx hW=>hp x W hx (ay hbw hW)) hcf)
 have HP:=af hp
 have HV:=af hok
 have hrl:=hrow.lt
 clear hp hok
 cases hfi:Z.findIdx? p with
 |none=>
  rw[hfi] at q;have HF:=af (show (Z.filter fun x=> !p x)=Z from List.filter_eq_self.2 fun x hx=>by
   rw[List.findIdx?_eq_none_iff] at hfi
   simpa using hfi x hx)
  have H:=af hser;clear hfi hser hrow;simp only[dX] at q;go_enter Tryz.func95,Tryz.ntmps95
  go_wp2_with fail
  refine bP q.out fun w1 hb1=>?_;clear q;go_wp2_with fail
  go_ret;exact⟨_,rfl,by rw[HF.out];exact H.out.below hb1,ay hbw hb1,fun k e=>(hrl k e).1⟩
 |some k0=>
  rw[hfi] at q;have HS:=af (iV.start hfi);have hk0:=fI _ _ hfi;rcases hrow.2 with⟨_,h0⟩|⟨g,gcc,cur,e9,_⟩
  ·omega
  obtain⟨rfl,e10,e11⟩:=Value.slice.inj e9;clear e9 e10 e11 hfi hser;have hgl:=hrl g rfl;have HR:=af hrow;obtain⟨N,hN⟩:∃N,Z.length=N:=⟨_,rfl⟩
  have HN:=af hN;rw[hN] at hn hk0 HR hrl q⊢;have hne1:((k0:Int)== -1)=false:=beq_eq_false_iff_ne.2 (by omega);clear hN hrow;simp only[dX] at q;go_enter Tryz.func95,Tryz.ntmps95
  go_wp2_with fail
  refine bP q.out fun w1 hb1=>?_;clear q;have B1:=ay hbw hb1;have row1:=aw HR.out (ak.of_below (S:=fun _=>False) hb1) (fun _ _ e=>e);have hw0:IntKind.i64.wrap ((k0:Int)+1)=(k0:Int)+1:=ct _ (by omega);go_wp2_with fail
  go_loopw [5,6] (fun si sj wr=>∃(i j:Nat) (Y:List cJ),si=.int .i64 (i:Int)/\sj=.int .i64 (j:Int)/\Below w0.heap.size w0 wr/\wr.ownsRow B 127 2 (.slice (some ⟨g,0,none⟩) N zc) N (aL gD Y)/\Hid (iV p Z i j Y)) (fun _ sj _=>N-(intOf sj).toNat)
  case atStart=>exact⟨k0,k0+1,Z,rfl,by go_num,B1,row1,HS⟩
  clear B1 row1 HS hw0 hne1 hb1 HR;obtain⟨i,j,Y,rfl,rfl,hb,row,HD⟩:=hrel;have hij:=HD.out.lt;have hjN:j<=N:=by rw[<-HN.out];exact HD.out.le
  have HYL:=af (show Y.length=N by rw[<-HN.out];exact HD.out.len);rcases(show j<N\/j=N by omega) with hjn|rfl
  ·have hjZ:j<Z.length:=by rw[HN.out];exact hjn
   have hzj:=HD.out.at hjZ;have HK:=af (HD.out.keep hjZ);have HSK:=af (HD.out.skip hjZ);have hzm:=HV.out _ (dM hjZ);generalize Z[j]=z at*;clear hjZ;obtain⟨t,u⟩:=z;obtain⟨e0,e1⟩:=qy row hzj;simp only at e0 e1;have b3:=ai wr (.cells #[.int .i64 t,.int .u64 (u:Int)] 127);have B3:=ay hb b3;have k3:=ag.new wr 127 #[.int .i64 t,.int .u64 (u:Int)];have z0:=ax k3 0 (.int .i64 t) rfl;have z1:=ax k3 1 (.int .u64 (u:Int)) rfl;have q:=af (HP.out (t,u) _ hzm B3);simp only at q;have hw9:IntKind.i64.wrap ((j:Int)+1)=(j:Int)+1:=ct _ (by omega);have hw8:IntKind.i64.wrap ((i:Int)+1)=(i:Int)+1:=ct _ (by omega);have HR:=af (World.ownsRow.alloc row (.cells #[.int .i64 t,.int .u64 (u:Int)] 127));have hiY:i<Y.length:=by rw[HYL.out];omega
   obtain⟨⟨yt,yu⟩,hy⟩:∃y,Y[i]?=some y:=⟨_,aW hiY⟩
   clear hzm row hzj;cases hpz:p (t,u) with
   |true=>
    rw[hpz] at q;have HD2:=af (HSK.out hpz);clear HSK HK hy hpz;go_wp2_with fail
    refine bP q.out fun w2 hb2=>?_;have B2:=ay B3 hb2;have row2:=aw HR.out (ak.of_below (S:=fun _=>False) hb2) (fun _ _ e=>e);clear q e0 e1 hb b3 B3 k3 z0 z1;go_wp2_with fail
    go_roundw
    case rel=>exact⟨i,j+1,Y,rfl,by go_num,B2,row2,HD2⟩
    case measure=>simp[intOf];omega
   |false=>
    rw[hpz] at q;have HD2:=af (HK.out hpz);clear HSK HK hpz;go_wp2_with fail
    refine bP q.out fun w2 hb2=>?_;have B2:=ay B3 hb2;have row2:=aw HR.out (ak.of_below (S:=fun _=>False) hb2) (fun _ _ e=>e);obtain⟨c0,c1⟩:=qy row2 hy;simp only at c0 c1;have k4:=ag.below k3 hb2 k3.lt;have z0:=ax k4 0 (.int .i64 t) rfl;have z1:=ax k4 1 (.int .u64 (u:Int)) rfl;have fA:=bn (j:=i*2) row2 rfl;have fB:=bn (j:=i*2+1) row2 rfl;have rA:=cG (j:=i*2) (u:=.int .i64 t) row2 rfl;have eA:=db (sz:=2) (enc:=gD) (fun _=>rfl) Y i 0 _ (t,yu) (.int .i64 t) hy (by decide) rfl;rw[Nat.add_zero] at eA;rw[eA] at rA;have hzA:(Y.set i (t,yu))[i]?=some (t,yu):=List.getElem?_set_self hiY;have rB:=cG (j:=i*2+1) (u:=.int .u64 (u:Int)) rA rfl;rw[db (sz:=2) (fun _=>rfl) _ i 1 _ (t,u) _ hzA (by decide) rfl,List.set_set] at rB;have hkk:ak w2 ((w2.setCell ⟨g,i*2,none⟩ (.int .i64 t)).setCell ⟨g,i*2+1,none⟩ (.int .u64 (u:Int))) (fun k=>k=g):=(ak.of_grown (ap _ _ _ _) fun k e=>(aA e).symm).trans (ak.of_grown (ap _ _ _ _) fun k e=>(aA e).symm);have BF:=B2.trans (hkk.below B2.size fun k e=>by have:=hgl.1;omega);have HRC:=af rB;clear q e0 e1 hb rA eA hzA rB hkk row2 hy B2 HR b3 B3 k3 k4;go_wp2_with fail
    go_roundw
    case rel=>exact⟨i+1,j+1,_,by go_num,by go_num,BF,HRC.out,HD2⟩
    case measure=>simp[intOf];omega
  ·obtain⟨w5,hcl,hk5,row5⟩:=nj (sz:=2) (z:=.agg #[.int .i64 0,.int .u64 0]) kI.und (fun W=>by go_simp) rfl (by simp[Value.oneCell',Value.cells]) row hij;rw[(gG (sz:=2) (fun _=>rfl) Y i).1,show Y.take i=Z.filter fun z=> !p z from by have:=HD.out;rw[<-HN.out] at this;exact this.done] at row5;have hB5:=hb.trans (hk5.below hb.size fun k e=>by have:=hgl.1;omega);have hfl:(Z.filter fun z=> !p z).length=i:=by
    have:=HD.out;rw[<-HN.out] at this;rw[<-this.done,dt,HYL.out];omega
   have HAT:=af (iy row5 hfl (by rw[hfl];omega) fun z hz=>HV.out z ((List.mem_filter.1 hz).1));have HFL:=af hfl;rcases row.2 with⟨e9,_⟩|⟨g9,c9,cur9,e9,_,_,hnc,_⟩
   ·cases e9
   obtain⟨hgg,hjj,rfl⟩:=Value.slice.inj e9;clear hgg hjj;have hGi:¬(zc=i):=by omega
   have hi0:(0:Int)<=(i:Int):=by omega
   have hij2:(i:Int)<=(j:Int):=by omega
   have hjc:(j:Int)<=(zc:Int):=by omega
   clear row HYL HD row5 hk5 hfl e9;go_wp2;go_ret;exact⟨_,rfl,HAT.out,hB5,fun k e=>by cases e;exact hgl.1⟩
def eo(p:cJ->Bool)(L:List cJ)(i:Nat):List (Int×Int):=iS none ((L.drop i).map fun y=>(y,p y))
def lH(p:cJ->Bool)(L:List cJ)(a b:Int)(k:Nat):List (Int×Int):=iS (some (a,b)) ((L.drop k).map fun y=>(y,p y))
theorem vg(p:cJ->Bool)(L:List cJ){i:Nat}(h:L.length<=i):eo p L i=[]:=by
 unfold eo;rw[List.drop_of_length_le h];rfl
theorem yC{p:cJ->Bool}{L:List cJ}{i:Nat}(h:i<L.length)(hp:p L[i]=false):eo p L i=eo p L (i+1):=by
 unfold eo;rw[List.drop_eq_getElem_cons h,List.map_cons,hp];rfl
theorem F5{p:cJ->Bool}{L:List cJ}{i:Nat}(h:i<L.length)(hp:p L[i]=true):eo p L i=lH p L L[i].1 L[i].1 (i+1):=by
 unfold eo lH;rw[List.drop_eq_getElem_cons h,List.map_cons,hp];rfl
theorem F6{p:cJ->Bool}{L:List cJ}{a b:Int}{k:Nat}(h:k<L.length)(hp:p L[k]=true):lH p L a b k=lH p L a L[k].1 (k+1):=by
 unfold lH;rw[List.drop_eq_getElem_cons h,List.map_cons,hp];rfl
theorem DT{p:cJ->Bool}{L:List cJ}{a b:Int}{k:Nat}(h:k<L.length)(hp:p L[k]=false):lH p L a b k=(a,b)::eo p L k:=by
 rw[yC h hp];unfold lH eo;rw[List.drop_eq_getElem_cons h,List.map_cons,hp];rfl
theorem DU{p:cJ->Bool}{L:List cJ}{a b:Int}{k:Nat}(h:L.length<=k):lH p L a b k=(a,b)::eo p L k:=by
 rw[vg p L h];unfold lH;rw[List.drop_of_length_le h];rfl
theorem E6(M:List cJ)(mv:Value)(g:Nat)(w:World)(hM:aI w mv M)(hg:w.cell? ⟨g,1,none⟩=some mv):wl 97 #[.pointer (some ⟨g,0,none⟩)] (fun y=>decide (y∈M)) w:=by
 intro x W hx hW;have bA:=ai W (.cells #[.int .i64 x.1,.int .u64 (x.2:Int)] 127);have kA:=ag.new W 127 #[.int .i64 x.1,.int .u64 (x.2:Int)];have g1:=((ay hW bA).cell (World.block_lt_of_cell? _ _ hg)).trans hg;have z0:=ax kA 0 (.int .i64 x.1) rfl;have z1:=ax kA 1 (.int .u64 (x.2:Int)) rfl;have q:=af (nQ _ M x _ ((hM.below hW).below bA));obtain⟨ma,mc,rfl,_⟩:=id hM;clear hM hg hW kA;go_enter Tryz.func97,Tryz.ntmps97
 go_wp2_with fail
 refine bP q.out fun w1 hb=>?_;have B:=ay bA hb;clear q;go_wp2_with fail
 go_ret;exact⟨rfl,B⟩
theorem E7(f:Int)(M:List cJ)(mv:Value)(gb gl:Nat)(x:cJ)(W:World)(hM:aI W mv M)(hf:W.cell? ⟨gb,0,none⟩=some (.int .i64 f))(hg:W.cell? ⟨gl,1,none⟩=some mv):
 Calls Tryz.prog 92 #[.agg #[.int .i64 x.1,.int .u64 (x.2:Int)],.pointer (some ⟨gb,0,none⟩),.pointer (some ⟨gl,0,none⟩)] W fun e W'=>e=.returned (.bool (decide (f<=x.1)&& !decide (x∈M)))/\Below W.heap.size W W':=by
 have bA:=ai W (.cells #[.int .i64 x.1,.int .u64 (x.2:Int)] 127)
 have kA:=ag.new W 127 #[.int .i64 x.1,.int .u64 (x.2:Int)]
 have f1:=cu bA hf
 have g1:=cu bA hg
 have z0:=ax kA 0 (.int .i64 x.1) rfl
 have z1:=ax kA 1 (.int .u64 (x.2:Int)) rfl
 have q:=af (nQ _ M x _ (hM.below bA))
 obtain⟨ma,mc,rfl,_⟩:=id hM
 clear hM hf hg kA
 by_cases h1:f<=x.1
 ·have hE:=af (show (decide (f<=x.1)&& !decide (x∈M))= !decide (x∈M) by rw[decide_eq_true h1];rfl);go_enter Tryz.func92,Tryz.ntmps92
  go_wp2_with fail
  refine bP q.out fun w1 hb=>?_;have B:=ay bA hb;clear q;go_wp2_with fail
  go_ret;exact⟨by rw[hE.out];rfl,B⟩
 ·have hE:=af (show (decide (f<=x.1)&& !decide (x∈M))=false by rw[decide_eq_false h1];rfl);clear q;go_enter Tryz.func92,Tryz.ntmps92
  go_wp2_with fail
  go_ret;exact⟨by rw[hE.out];rfl,bA⟩
theorem tP{S:List aP}{l:List Lb}{i:Nat}(h:df S l=some i):i<S.length:=fI _ _ h
theorem Dx(v lv:Value)(S:List aP)(l:List Lb)(f:Int)(w0 w:World)(h:aM w0 v S)(hbw:Below w0.heap.size w0 w)(hl:aC w lv l):
 Calls Tryz.prog 91 #[.agg #[v,.int .i64 f],lv] w fun e w'=>∃sl sv,e=.returned (.tuple #[.agg #[sl,sv,.int .i64 (om S l).1.last],.bool (om S l).2])/\jd w0 ((om S l).1,sl,sv)/\Below w.heap.size w w':=by
 obtain⟨sa,sc,rfl,_⟩:=id h
 have b1:=ai w (.cells #[.slice sa S.length sc,.int .i64 f] 49)
 have b2:=b1.alloc b1.size (.cells #[.slice none 0 0,.slice none 0 0,.int .i64 0] 88)
 have k1:=ag.alloc (ag.new w 49 #[.slice sa S.length sc,.int .i64 f]) (.cells #[.slice none 0 0,.slice none 0 0,.int .i64 0] 88)
 have y0:=ax k1 0 (.slice sa S.length sc) rfl
 have y1:=ax k1 1 (.int .i64 f) rfl
 have q:=af (jB _ lv S l f _ ((h.below hbw).below b2) (hl.below b2))
 have H:=af h
 clear h hl b1 k1
 have k2:=ag.new (w.alloc (.cells #[.slice sa S.length sc,.int .i64 f] 49)) 88 #[.slice none 0 0,.slice none 0 0,.int .i64 0]
 rw[aY] at k2
 have k1:=ag.alloc (ag.new w 49 #[.slice sa S.length sc,.int .i64 f]) (.cells #[.slice none 0 0,.slice none 0 0,.int .i64 0] 88)
 go_enter Tryz.func91,Tryz.ntmps91
 go_wp2_with fail
 generalize hW0:(w.alloc _).alloc _=W0 at*
 clear hW0 y0 y1
 refine bP q.out fun w1 hb1=>?_
 have B1:=ay b2 hb1
 have m2:=ag.below k2 hb1 k2.lt
 have m1:=ag.below k1 hb1 k1.lt
 have f0:=ag.frozen m2 0
 have f1:=ag.frozen m2 1
 have f2:=ag.frozen m2 2
 have c0:=ax m2 0 (.slice none 0 0) rfl
 have c1:=ax m2 1 (.slice none 0 0) rfl
 have c2:=ax m2 2 (.int .i64 0) rfl
 have y0:=ax m1 0 (.slice sa S.length sc) rfl
 clear q k1 k2 hb1 m1
 cases hf:df S l with
 |none=>
  have HO:=af (show om S l=(cB,false) by unfold om;rw[hf]);have n9:=((ag.set_ m2 0 (.slice none 0 0)).set_ 1 (.slice none 0 0)).set_ 2 (.int .i64 0);have hkk:=((ak.of_grown (S:=fun k=>k=w.heap.size+1) (ap w1 (w.heap.size+1) 0 (.slice none 0 0)) fun k e=>(aA e).symm).trans (ak.of_grown (ap _ (w.heap.size+1) 1 (.slice none 0 0)) fun k e=>(aA e).symm)).trans (ak.of_grown (ap _ (w.heap.size+1) 2 (.int .i64 0)) fun k e=>(aA e).symm);have B9:=B1.trans (hkk.below B1.size fun k e=>by omega);simp only[dX];clear hf hkk;go_wp2_with fail
  refine i4 n9 Tryz.underlying88 ?_;rw[HO.out];exact⟨_,_,rfl,Av _,B9⟩
 |some i=>
  have hi:=tP hf;obtain⟨gg,o,sl,sv,rfl,hV,d0,d1,d2⟩:=cq H.out hi (Below.refl _ w0);have B0:=ay hbw B1;have d0:=cu B0 d0;have d1:=cu B0 d1;have d2:=cu B0 d2;have HO:=af (show om S l=(S[i],true) by unfold om;rw[hf];simp only[];rw[oX hi]);generalize S[i]=x at*;obtain⟨xl,xs,xb⟩:=x;have hl:aC w0 sl xl:=hV.2.1;have hs:aI w0 sv xs:=hV.2.2;obtain⟨ya,yc,rfl,_⟩:=id hl;obtain⟨za,zc,rfl,_⟩:=id hs;simp only at d0 d1 d2;have hlt:¬((i:Int)<0):=by omega
  have hil:(i:Int)<(S.length:Int):=by omega
  have HV:=af hV;have n9:=((ag.set_ m2 0 (.slice ya xl.length yc)).set_ 1 (.slice za xs.length zc)).set_ 2 (.int .i64 xb);have hkk:=((ak.of_grown (S:=fun k=>k=w.heap.size+1) (ap w1 (w.heap.size+1) 0 (.slice ya xl.length yc)) fun k e=>(aA e).symm).trans (ak.of_grown (ap _ (w.heap.size+1) 1 (.slice za xs.length zc)) fun k e=>(aA e).symm)).trans (ak.of_grown (ap _ (w.heap.size+1) 2 (.int .i64 xb)) fun k e=>(aA e).symm);have B9:=B1.trans (hkk.below B1.size fun k e=>by omega);simp only[dX];clear hf hV hl hs hkk;go_wp2_with fail
  refine i4 n9 Tryz.underlying88 ?_;rw[HO.out];exact⟨_,_,rfl,HV.out,B9⟩
theorem zB(n:Nat)(w:World)(hn:n<=1000000):Calls Tryz.prog 160 #[.slice none 0 0,.int .i64 (n:Int)] w fun e w'=>∃v',e=.returned v'/\w'.ownsRow w.heap.size 127 2 v' 0 []/\Below w.heap.size w w':=by
 by_cases h0:n=0
 ·subst h0;go_enter Tryz.func160,Tryz.ntmps160
  go_wp2_with fail
  go_ret;exact⟨_,rfl,eE,bQ⟩
 ·obtain⟨i0,z0,hin,hz0,hz1,hz2,hz3⟩:=kI.info;have hold:(Builtin.firstCells i0.size 0 (.slice none 0 0)).run Tryz.prog w.drew=.ok #[] w.drew:=rfl;obtain⟨G,hG⟩:∃G,G=grownCap w n 0 127:=⟨_,rfl⟩
  have h:=Lib.run_append_grow_zeros w 86 3 86 127 i0 z0 .i64 .i64 kI.und Tryz.underlying3 hin hz0 none 0 0 [] hold n (by omega) (by omega) (by omega) (by omega) (by rw[hz2];omega) (by rw[hz2,Nat.zero_add];exact growslice_fits (by omega) (by omega));simp only[Nat.zero_add] at h;rw[<-hG] at h;have hGn:n<=G:=by rw[hG];exact grownCap_ge w _ _ _
  have hG63:G<=maxLen:=by rw[hG];exact grownCap_le_maxLen w n 0 127 (by unfold maxLen;omega)
  have hRs:(([]:List Value).toArray++Builtin.zeroCells z0.cells n++Builtin.zeroCells z0.cells (G-n)).size=G*2:=by
   simp only[Array.size_append,List.size_toArray,List.length_nil,size_zeroCells,hz3];omega
  generalize ([]:List Value).toArray++Builtin.zeroCells z0.cells n++Builtin.zeroCells z0.cells (G-n)=ROW at*;have hpos:(0:Int)<(n:Int):=by omega
  have hnn:¬((n:Int)<0):=by omega
  have hn0:(0:Int)<=(n:Int):=by omega
  have hw0:IntKind.i64.wrap (n:Int)=(n:Int):=ct _ (by omega);have hR:=af (show (w.drew.alloc (.cells ROW 127)).ownsRow w.heap.size 127 2 (.slice (some ⟨w.heap.size,0,none⟩) 0 G) 0 []/\Below w.heap.size w (w.drew.alloc (.cells ROW 127)) from⟨⟨by simp,.inr ⟨w.heap.size,G,ROW,rfl,aF _,ag.new w.drew 127 ROW,Nat.zero_le _,hG63,hRs,by simp⟩⟩,((Below.refl _ w).drew).alloc (aF _) _⟩);clear hold hG hRs;go_enter Tryz.func160,Tryz.ntmps160
  go_wp2_with (at_builtin;refine Lib.wpList_append_run _ rfl _ _ _ _ rfl _ _ rfl rfl _ _ h ?_)
  go_ret;exact⟨_,rfl,hR.out⟩
theorem CK(g c:Nat)(va vb:Value)(A B:List cJ)(w:World)(hA:aI w va A)(hB:aI w vb B)(x0:w.cell? ⟨g,0,none⟩=some va)(x1:w.cell? ⟨g,1,none⟩=some vb)(hn:A.length+B.length<=100000):
 Calls Tryz.prog 89 #[.slice (some ⟨g,0,none⟩) 2 c] w fun e w'=>∃v',e=.returned v'/\aI w' v' (A++B)/\Below w.heap.size w w'/\∀k,v'.ownBlock=some k->w.heap.size<=k:=by
 obtain⟨i0,z0,hin,hz0,hz1,hz2,hz3⟩:=kI.info
 obtain⟨aa,ac,rfl,ha0,_⟩:=id hA
 obtain⟨ba,bc,rfl,hb0,_⟩:=id hB
 have q:=af (zB (A.length+B.length) w (by omega))
 have HA:=af hA
 have HB:=af hB
 have hw1:IntKind.i64.wrap ((A.length:Int)+(B.length:Int))=((A.length+B.length:Nat):Int):=by rw[ct _ (by omega)];omega
 have hw0:IntKind.i64.wrap (0+(A.length:Int))=(A.length:Int):=by rw[Int.zero_add];exact ct _ (by omega)
 clear hA hB
 go_enter Tryz.func89,Tryz.ntmps89
 go_wp2_with fail
 go_loopw [3,11] (fun vs vi wr=>∃j:Nat,j<=2/\vi=.int .i64 (j:Int)/\vs=.int .i64 ((if j=0 then 0 else if j=1 then A.length else A.length+B.length:Nat):Int)/\w=wr) (fun _ vi _=>2-(intOf vi).toNat)
 case atStart=>exact⟨0,by omega,rfl,rfl,rfl⟩
 obtain⟨j,hj,rfl,rfl,rfl⟩:=hrel
 match j,hj with
 |0,_=>
  simp only[if_true];go_wp2_with fail
  go_roundw
  case rel=>exact⟨1,by omega,rfl,by simp,trivial⟩
  case measure=>simp[intOf]
 |1,_=>
  simp only[if_true,if_neg (show ¬(1=0) by omega)];go_wp2_with fail
  go_roundw
  case rel=>exact⟨2,by omega,rfl,by simp,trivial⟩
  case measure=>simp[intOf]
 |2,_=>
  rw[show (if (2:Nat)=0 then 0 else if (2:Nat)=1 then A.length else A.length+B.length)=A.length+B.length from rfl];go_wp2_with fail
  refine q.out.mono ?_;rintro e w1 ⟨v1,rfl,row1,hb1⟩;clear q hw1 hw0;have h0A:aa=none->A.length=0/\ac=0:=fun e=>by have:=ha0 e;have:=HA.out;obtain⟨_,_,e2,_,_,h,_⟩:=this;obtain⟨_,_,rfl⟩:=Value.slice.inj e2;omega
  have h0B:ba=none->B.length=0/\bc=0:=fun e=>by have:=hb0 e;have:=HB.out;obtain⟨_,_,e2,_,_,h,_⟩:=this;obtain⟨_,_,rfl⟩:=Value.slice.inj e2;omega
  have hlA:=af (jx (sz:=2) (enc:=gD) (fun _=>rfl) A);have hlB:=af (jx (sz:=2) (enc:=gD) (fun _=>rfl) B);clear ha0 hb0;go_wp2_with fail
  go_loopw [6,27] (fun vn vi wr=>∃(j:Nat) (D:List cJ),j<=2/\vi=.int .i64 (j:Int)/\wr.ownsRow w.heap.size 127 2 vn D.length (aL gD D)/\Below w.heap.size w wr/\D=if j=0 then[] else if j=1 then A else A++B) (fun _ vi _=>2-(intOf vi).toNat)
  case atStart=>exact⟨0,[],by omega,rfl,row1,hb1,rfl⟩
  clear row1 hb1;obtain⟨j,D,hj,rfl,row,hb,hD⟩:=hrel;have y0:=cu hb x0;have y1:=cu hb x1;clear x0 x1;match j,hj with
  |0,_=>
   obtain rfl:D=[]:=hD;go_wp2_with (at_builtin;(refine fo rfl _ _ 86 rfl w.heap.size 127 i0 z0 2 16 kI.und hin hz0 hz1 hz2 hz3 (by decide) _ 0 (aL gD []) rfl row aa A.length ac (aL gD A) rfl h0A hlA.out (nH (HA.out.below hb)) (wH A) (by unfold maxLen;omega) (by omega) hb.size ?_);intro v' w5 hown hgrow hloc)
   have B5:=hb.trans ((ak.of_grown (S:=fun k=>w.heap.size<=k) hgrow fun k e=>(row.lt k e).1).below hb.size fun k e=>e);have HO:=af (show w5.ownsRow w.heap.size 127 2 v' A.length (aL gD A) from by rw[Nat.zero_add] at hown;exact hown);clear hown hgrow hloc row;go_roundw
   case rel=>exact⟨1,A,by omega,rfl,HO.out,B5,rfl⟩
   case measure=>simp[intOf]
  |1,_=>
   obtain rfl:D=A:=hD;go_wp2_with (at_builtin;(refine fo rfl _ _ 86 rfl w.heap.size 127 i0 z0 2 16 kI.und hin hz0 hz1 hz2 hz3 (by decide) _ D.length (aL gD D) rfl row ba B.length bc (aL gD B) rfl h0B hlB.out (nH (HB.out.below hb)) (wH B) (by unfold maxLen;omega) (by omega) hb.size ?_);intro v' w5 hown hgrow hloc)
   have B5:=hb.trans ((ak.of_grown (S:=fun k=>w.heap.size<=k) hgrow fun k e=>(row.lt k e).1).below hb.size fun k e=>e);have HO:=af (show w5.ownsRow w.heap.size 127 2 v' (D++B).length (aL gD (D++B)) from by rw[aG,dR];exact hown);clear hown hgrow hloc row;go_roundw
   case rel=>exact⟨2,D++B,by omega,rfl,HO.out,B5,rfl⟩
   case measure=>simp[intOf]
  |2,_=>
   obtain rfl:D=A++B:=hD;have hlt:=row.lt;have HS:=af (iy row rfl (by rw[aG];exact hn) fun z hz=>(List.mem_append.1 hz).elim (eu HA.out z) (eu HB.out z));obtain⟨da,dc,rfl⟩:=aH row;clear row y0 y1;go_wp2_with fail
   go_ret;exact⟨_,rfl,HS.out,hb,fun k e=>(hlt k e).1⟩
theorem sX(S:List aP)(x:aP):(mg S x).length<=S.length+1:=by
 unfold mg;cases df S x.labels with
 |none=>simp only[aG,dt,de,List.length_drop];omega
 |some i=>simp only[List.length_set];omega
theorem sW{S:List aP}{x y:aP}(h:y∈mg S x):y=x\/y∈S:=by
 unfold mg at h;cases hf:df S x.labels with
 |none=>
  rw[hf] at h;rcases List.mem_append.1 h with h|h
  ·exact .inr (List.mem_of_mem_take h)
  ·rcases List.mem_cons.1 h with h|h
   ·exact .inl h
   ·exact .inr (List.mem_of_mem_drop h)
 |some i=>
  rw[hf] at h;exact Gw h
def i9 (m:Nat)(S:List aP):Prop:=∀x∈S,x.samples.length<=m
theorem Fg{m n:Nat}{S:List aP}(h:i9 m S)(hmn:m<=n):i9 n S:=fun x hx=>aK (h x hx) hmn
theorem zH{m:Nat}{S:List aP}(h:i9 m S)(i:Nat):(S.getD i cB).samples.length<=m:=by
 rw[List.getD_eq_getElem?_getD];cases hi:S[i]? with
 |none=>simp[cB]
 |some x=>exact h x (List.mem_of_getElem? hi)
theorem xr{m:Nat}{S:List aP}(h:i9 m S)(r:Rc):i9 m (eC S r)/\(eC S r).length<=S.length+1:=by
 unfold eC;cases df S r.labels with
 |none=>exact⟨h,by simp⟩
 |some i=>
  refine⟨fun y hy=>?_,sX _ _⟩;rcases sW hy with rfl|hy
  ·exact aK (List.length_filter_le _ _) (zH h i)
  ·exact h y hy
theorem yB{m:Nat}{S:List aP}(h:i9 m S)(x:aP):i9 (m+x.samples.length) (fq S x)/\(fq S x).length<=S.length+1:=by
 unfold fq;cases df S x.labels with
 |none=>
  refine⟨fun y hy=>?_,sX _ _⟩;rcases sW hy with rfl|hy
  ·omega
  ·have:=h y hy;omega
 |some i=>
  refine⟨fun y hy=>?_,sX _ _⟩;rcases sW hy with rfl|hy
  ·have:=zH h i;simp only[aG];omega
  ·have:=h y hy;omega
theorem vp{m:Nat}{S:List aP}(h:i9 m S)(f:Int):i9 m (fi S f)/\(fi S f).length<=S.length:=⟨fun x hx=>h x ((List.mem_filter.1 hx).1),List.length_filter_le _ _⟩
def Ac(f:Int)(x:aP):aP:=⟨x.labels,em x.samples f 9223372036854775807,x.last⟩
theorem xA(S:List aP)(f:Int):kF S f=fi (S.map (Ac f)) f:=rfl
theorem H3{m:Nat}{S:List aP}(h:i9 m S)(f:Int):i9 m (S.map (Ac f)):=fun x hx=>by
 obtain⟨y,hy,rfl⟩:=List.mem_map.1 hx;exact aK (List.length_filter_le _ _) (h y hy)
theorem vK{α β:Type}(g:β->α->β)(b:β)(L:List α){j:Nat}(h:j<L.length):(L.take (j+1)).foldl g b=g ((L.take j).foldl g b) L[j]:=by
 rw[eN h,List.foldl_append];rfl
structure wn(w wr:World)(sv gv bv:Value)(f fb:Int)(v1:Value)(f1:Int)(S1:List aP):Prop where
 b0:ag wr w.heap.size 49 #[sv,.int .i64 f]
 b1:ag wr (w.heap.size+1) 25 #[.int .i64 fb,gv,bv]
 b2:ag wr (w.heap.size+2) 49 #[.slice none 0 0,.int .i64 0]
 b3:ag wr (w.heap.size+3) 49 #[v1,.int .i64 f1]
 ser:aM wr v1 S1
 below:Below w.heap.size w wr
 size:w.heap.size+4<=wr.heap.size
section
variable {w wr w':World} {sv gv bv v1 v2:Value} {f fb f1 f2:Int} {S1 S2:List aP}
theorem wn.next(h:wn w wr sv gv bv f fb v1 f1 S1)(hb:Below wr.heap.size wr w'):wn w w' sv gv bv f fb v1 f1 S1:=
 ⟨ag.below h.b0 hb h.b0.lt,ag.below h.b1 hb h.b1.lt,ag.below h.b2 hb h.b2.lt,ag.below h.b3 hb h.b3.lt,h.ser.below hb,h.below.trans (hb.mono h.below.size),aK h.size hb.size⟩
theorem wn.setS(h:wn w wr sv gv bv f fb v1 f1 S1)(hs:aM wr v2 S2):wn w (wr.setCell ⟨w.heap.size+3,0,none⟩ v2) sv gv bv f fb v2 f1 S2:=by
 obtain⟨a,c,rfl,_⟩:=id h.ser;have hk:ak wr (wr.setCell ⟨w.heap.size+3,0,none⟩ v2) (fun k=>k=w.heap.size+3):=ak.of_grown (ap _ _ _ _) fun k e=>(aA e).symm;exact⟨ag.far h.b0 (by simp) _,ag.far h.b1 (by simp) _,ag.far h.b2 (by simp) _,ag.set_ h.b3 0 _,hs.st h.b3 hk,h.below.trans (hk.below h.below.size fun k e=>by omega),aK h.size hk.size⟩
theorem wn.setF(h:wn w wr sv gv bv f fb v1 f1 S1)(f2:Int):wn w (wr.setCell ⟨w.heap.size+3,1,none⟩ (.int .i64 f2)) sv gv bv f fb v1 f2 S1:=by
 obtain⟨a,c,rfl,_⟩:=id h.ser;have hk:ak wr (wr.setCell ⟨w.heap.size+3,1,none⟩ (.int .i64 f2)) (fun k=>k=w.heap.size+3):=ak.of_grown (ap _ _ _ _) fun k e=>(aA e).symm;exact⟨ag.far h.b0 (by simp) _,ag.far h.b1 (by simp) _,ag.far h.b2 (by simp) _,ag.set_ h.b3 1 _,h.ser.st h.b3 hk,h.below.trans (hk.below h.below.size fun k e=>by omega),aK h.size hk.size⟩
theorem wn.far(h:wn w wr sv gv bv f fb v1 f1 S1){b j:Nat}{u:Value}(hb:w.heap.size+4<=b)(hs:aM (wr.setCell ⟨b,j,none⟩ u) v1 S2):wn w (wr.setCell ⟨b,j,none⟩ u) sv gv bv f fb v1 f1 S2:=by
 have hk:ak wr (wr.setCell ⟨b,j,none⟩ u) (fun k=>k=b):=ak.of_grown (ap _ _ _ _) fun k e=>(aA e).symm;exact⟨ag.far h.b0 (by simp;omega) _,ag.far h.b1 (by simp;omega) _,ag.far h.b2 (by simp;omega) _,ag.far h.b3 (by simp;omega) _,hs,h.below.trans (hk.below h.below.size fun k e=>by omega),aK h.size hk.size⟩
theorem wn.facts(h:wn w wr sv gv bv f fb v1 f1 S1):wr.cell? ⟨w.heap.size,0,none⟩=some sv/\wr.cell? ⟨w.heap.size,1,none⟩=some (.int .i64 f)/\wr.cell? ⟨w.heap.size+1,0,none⟩=some (.int .i64 fb)/\wr.cell? ⟨w.heap.size+1,1,none⟩=some gv/\wr.cell? ⟨w.heap.size+1,2,none⟩=some bv/\
 wr.cell? ⟨w.heap.size+3,0,none⟩=some v1/\wr.cell? ⟨w.heap.size+3,1,none⟩=some (.int .i64 f1)/\wr.frozen? ⟨w.heap.size+3,0,none⟩=false/\wr.frozen? ⟨w.heap.size+3,1,none⟩=false:=
 ⟨ag.cell h.b0 0,ag.cell h.b0 1,ag.cell h.b1 0,ag.cell h.b1 1,ag.cell h.b1 2,ag.cell h.b3 0,ag.cell h.b3 1,ag.frozen h.b3 0,ag.frozen h.b3 1⟩
end
def rJ (f:Int)(S:List aP)(j:Nat):List aP:=(S.take j).map (Ac f)++S.drop j
theorem vx(f:Int)(S:List aP):rJ f S 0=S:=by simp[rJ]
theorem Gu(f:Int)(S:List aP){j:Nat}(h:j<S.length):(rJ f S j)[j]?=some S[j]:=by
 unfold rJ;rw[List.getElem?_append_right (by rw[List.length_map,dt];omega),List.length_map,dt,show j-min j S.length=0 by omega,List.getElem?_drop,Nat.add_zero,aW h]
theorem Gt(f:Int)(S:List aP){j:Nat}(h:j<S.length):(rJ f S j).set j (Ac f S[j])=rJ f S (j+1):=by
 unfold rJ;rw[List.set_append_right _ _ (by rw[List.length_map,dt];omega),List.length_map,dt,show j-min j S.length=0 by omega,List.drop_eq_getElem_cons h,List.set_cons_zero,eN h,List.map_append,List.append_assoc];rfl
theorem Gv(f:Int)(S:List aP){j:Nat}(h:S.length<=j):rJ f S j=S.map (Ac f):=by
 unfold rJ;rw[List.take_of_length_le h,List.drop_of_length_le h,List.append_nil]
end
section
open Go.RowKit Go.Maps Go.WideMaps Go.ChangeShapes Go.WideShapes Go.Deep
attribute [local go_sem] am aq
def gy(w:World)(v:Value)(L:List cJ):Prop:=
 ∃a c,v=.slice a L.length c/\L.length<=maxLen/\(a=none->c=0)/\L.length<=c/\∀(i:Nat) x,L[i]?=some x->∃b o,a=some ⟨b,o,none⟩/\pn w b (o+i*2) x
theorem gy.below{w w':World}{v:Value}{L:List cJ}(h:gy w v L)(hb:Below w.heap.size w w'):gy w' v L:=by
 obtain⟨a,c,h1,h2,h3,h4,h5⟩:=h;refine⟨a,c,h1,h2,h3,h4,fun i x hx=>?_⟩;obtain⟨b,o,h6,h7⟩:=h5 i x hx;exact⟨b,o,h6,h7.below hb⟩
theorem gy.at{w:World}{v:Value}{L:List cJ}(h:gy w v L)(hf:L.length<=250):aI w v L:=by
 obtain⟨a,c,h1,h2,h3,h4,h5⟩:=h;exact⟨a,c,h1,h3,by omega,h4,h5⟩
theorem gy.ok{w:World}{v:Value}{L:List cJ}(h:gy w v L):∀x∈L,ew x:=fun x hx=>by
 obtain⟨i,hi⟩:=List.getElem?_of_mem hx;obtain⟨a,c,_,_,_,_,h5⟩:=h;obtain⟨_,_,_,h7⟩:=h5 i x hi;exact h7.1
def Jt(w:World)(b o:Nat)(x:aP):Prop:=(-9223372036854775808<=x.last/\x.last<=9223372036854775807)/\∃sl sv,w.cell? ⟨b,o,none⟩=some sl/\fO w sl x.labels/\w.cell? ⟨b,o+1,none⟩=some sv/\gy w sv x.samples/\w.cell? ⟨b,o+2,none⟩=some (.int .i64 x.last)
def io(w:World)(v:Value)(S:List aP):Prop:=
 ∃a c,v=.slice a S.length c/\S.length<=maxLen/\(a=none->c=0)/\S.length<=c/\∀(i:Nat) x,S[i]?=some x->∃b o,a=some ⟨b,o,none⟩/\Jt w b (o+i*3) x
theorem io.below{w w':World}{v:Value}{S:List aP}(h:io w v S)(hb:Below w.heap.size w w'):io w' v S:=by
 obtain⟨a,c,h1,h2,h2a,h2b,h3⟩:=h;refine⟨a,c,h1,h2,h2a,h2b,fun i x hx=>?_⟩;obtain⟨b,o,h4,h5,sl,sv,e1,hL,e2,hS,e3⟩:=h3 i x hx;have f:∀{p:Addr} {v:Value},w.cell? p=some v->w'.cell? p=some v:=fun h=>cu hb h;exact⟨b,o,h4,h5,sl,sv,f e1,hL.below hb,f e2,hS.below hb,f e3⟩
def Kl (S:List aP):Prop:=S.length<=30/\∀x∈S,EU x.labels/\x.samples.length<=250
theorem io.at{w:World}{v:Value}{S:List aP}(h:io w v S)(hf:Kl S):aM w v S:=by
 obtain⟨a,c,h1,h2,h2a,h2b,h3⟩:=h;refine⟨a,c,h1,h2a,by have:=hf.1;omega,h2b,fun i x hx=>?_⟩;obtain⟨b,o,h4,h5,sl,sv,e1,hL,e2,hS,e3⟩:=h3 i x hx;have hx2:=hf.2 x (List.mem_of_getElem? hx);exact⟨b,o,h4,⟨hS.ok,h5⟩,sl,sv,e1,hL.at hx2.1,e2,hS.at hx2.2,e3⟩
section
variable {H:Type} {enc:TypeId×Value->H} {w:World} {base:Nat} {sp:Nat->Bool} {held:Bool}
theorem yU{fuel:Nat}{T U:TypeId}(hT:Tryz.prog.underlying T=some (.slice U)){sa:Option Addr}{sl sc:Nat}{x:DataW H×List MemPlace}(h:DataW.trod enc Tryz.prog w base sp held fuel T [.slice sa sl sc]=some x):sl<=sc/\(sa=none->sc=0):=by
 rcases open_slice hT h with⟨e,_⟩|⟨_,_,_,_,_,_,_,e,_,hl,_⟩
 ·simp only[List.cons.injEq,Value.slice.injEq,and_true] at e;obtain⟨rfl,rfl,rfl⟩:=e;exact⟨aF _,fun _=>rfl⟩
 ·simp only[List.cons.injEq,Value.slice.injEq,and_true] at e;obtain⟨rfl,rfl,rfl⟩:=e;exact⟨hl,fun e=>by cases e⟩
theorem mN{fuel:Nat}{T U:TypeId}(hT:Tryz.prog.underlying T=some (.slice U)){v:Value}{x:DataW H×List MemPlace}(h:DataW.trod enc Tryz.prog w base sp held fuel T [v]=some x):∃sa sl sc,v=.slice sa sl sc:=by
 rcases open_slice hT h with⟨e,_⟩|⟨_,_,_,_,_,_,_,e,_⟩
 ·exact⟨_,_,_,by simpa using e⟩
 ·exact⟨_,_,_,by simpa using e⟩
theorem wG{fuel:Nat}{sa:Option Addr}{sl sc:Nat}{x:DataW H×List MemPlace}(h:DataW.trod enc Tryz.prog w base sp held fuel 86 [.slice sa sl sc]=some x):∃L,gy w (.slice sa sl sc) L:=by
 obtain⟨hsc,hnil⟩:=yU Tryz.underlying86 h;obtain⟨h1,L,h2,h3,h4⟩:=i3 Tryz.underlying86 (n:=2) (by kernel_rfl) (by omega) h;obtain⟨l,k1,k2⟩:=gT (R:=fun cs (a:cJ)=>ew a/\cs=[.int .i64 a.1,.int .u64 (a.2:Int)]) L fun cs hc=>by
  obtain⟨m,y,hy⟩:=h4 cs hc;obtain⟨hlen,k,hf⟩:=kh Tryz.underlying127 (by kernel_rfl) (by kernel_rfl) hy;match cs,hlen with
  |[v1,v2],_=>
   obtain⟨y1,g1⟩:=hf 0 _ v1 rfl rfl;obtain⟨y2,g2⟩:=hf 1 _ v2 rfl rfl;obtain⟨T,e1,_,w1⟩:=DataW.trod_int Tryz.underlying2 g1;obtain⟨V,e2,_,w2⟩:=DataW.trod_int Tryz.underlying67 g2;simp only[List.cons.injEq,and_true] at e1 e2;subst e1 e2;obtain⟨n,rfl,hn⟩:∃k:Nat,V=k/\k<18446744073709551616:=by
    have:=bounds_u64 w2;exact⟨V.toNat,by omega,by omega⟩
   exact⟨(T,n),⟨bounds_i64 w1,hn⟩,rfl⟩
 refine⟨l,sa,sc,by rw[k1,h2],by omega,hnil,by omega,fun i a ha=>?_⟩;obtain⟨cs,e1,hok,rfl⟩:=k2 i a ha;obtain⟨_,b,o,f1,f2⟩:=h3 i _ e1;exact⟨b,o,f1,hok,by simpa using f2 0 _ rfl,f2 1 _ rfl⟩
theorem wI{fuel:Nat}{sa:Option Addr}{sl sc:Nat}{x:DataW H×List MemPlace}(h:DataW.trod enc Tryz.prog w base sp held fuel 23 [.slice sa sl sc]=some x):∃S,io w (.slice sa sl sc) S:=by
 obtain⟨hsc,hnil⟩:=yU Tryz.underlying23 h;obtain⟨h1,L,h2,h3,h4⟩:=i3 Tryz.underlying23 (n:=3) (by kernel_rfl) (by omega) h;obtain⟨l,k1,k2⟩:=gT (R:=fun cs (a:aP)=>(-9223372036854775808<=a.last/\a.last<=9223372036854775807)/\∃kv sv,cs=[kv,sv,.int .i64 a.last]/\fO w kv a.labels/\gy w sv a.samples) L fun cs hc=>by
  obtain⟨m,y,hy⟩:=h4 cs hc;obtain⟨hlen,k,hf⟩:=kh Tryz.underlying88 (by kernel_rfl) (by kernel_rfl) hy;match cs,hlen with
  |[v1,v2,v3],_=>
   obtain⟨y1,g1⟩:=hf 0 _ v1 rfl rfl;obtain⟨y2,g2⟩:=hf 1 _ v2 rfl rfl;obtain⟨y3,g3⟩:=hf 2 _ v3 rfl rfl;obtain⟨T,e3,_,w3⟩:=DataW.trod_int Tryz.underlying2 g3;obtain⟨ks,hks⟩:=oU g1 (mN Tryz.underlying65 g1);obtain⟨a2,n2,c2,rfl⟩:=mN Tryz.underlying86 g2;obtain⟨ms,hms⟩:=wG g2;simp only[List.cons.injEq,and_true] at e3;subst e3;exact⟨⟨ks,ms,T⟩,bounds_i64 w3,v1,_,rfl,hks,hms⟩
 refine⟨l,sa,sc,by rw[k1,h2],by omega,hnil,by omega,fun i a ha=>?_⟩;obtain⟨cs,e1,hok,kv,sv,rfl,e2,e3⟩:=k2 i a ha;obtain⟨_,b,o,f1,f2⟩:=h3 i _ e1;exact⟨b,o,f1,hok,kv,sv,by simpa using f2 0 _ rfl,e2,f2 1 _ rfl,e3,f2 2 _ rfl⟩
end
theorem EV{w:World}{v:Value}{S:List aP}(h:io w v S):
 Calls Tryz.prog 23 #[v] w fun e w'=>∃b,e=.returned (.bool b)/\Below w.heap.size w w'/\(b=true->Kl S):=by
 obtain⟨a,c,rfl,hn,_,_,hc⟩:=h
 have HC:=af hc
 unfold maxLen at hn
 clear hc
 go_enter Tryz.func23,Tryz.ntmps23
 go_wp2
 go_loopw [3] (fun vi wr=>∃i:Nat,i<=S.length/\i<=31/\vi=.int .i64 (i:Int)/\(∀x∈S.take i,EU x.labels/\x.samples.length<=250)/\Below w.heap.size w wr) (fun vi _=>31-(intOf vi).toNat)
 case atStart=>exact⟨0,Nat.zero_le _,by omega,rfl,by simp,bQ⟩
 obtain⟨i,hi,hi2,rfl,hp,hb⟩:=hrel
 have HP:=af hp
 clear hp
 by_cases hil:i<S.length
 ·by_cases hi3:i<=30
  ·obtain⟨b,o,rfl,hok,sl,sv,d1,hL,d2,hS,_⟩:=HC.out i _ (aW hil);have HT:=af (show S.take i++[S[i]]=S.take (i+1) from(eN hil).symm);have e1:=cu hb d1;have q:=af (Dz (hL.below (hb.mono (aF _))));generalize S[i]=x at*;obtain⟨va,vc,rfl,_⟩:=hL;obtain⟨ma,mc,rfl,hm,_⟩:=hS;unfold maxLen at hm;go_wp2_with fail
   refine q.out.mono ?_;rintro e W2 ⟨b2,rfl,hb2,hf⟩;have HF:=af hf;have hbb:=ay hb hb2;have e2:=cu hbb d2;clear hf q d1 d2 e1;cases b2 with
   |false=>
    go_wp2;go_ret;exact⟨false,rfl,hbb,fun e=>by cases e⟩
   |true=>
    by_cases h1:250<x.samples.length
    ·have f1:decide ((250:Int)<(x.samples.length:Int))=true:=by simp;omega
     have f1':decide (250<x.samples.length)=true:=by simpa using h1
     go_wp2;go_ret;exact⟨false,rfl,hbb,fun e=>by cases e⟩
    have f1:decide ((250:Int)<(x.samples.length:Int))=false:=by simp;omega
    have f1':decide (250<x.samples.length)=false:=by simpa using h1
    go_wp2;go_roundw
    case rel=>
     refine⟨i+1,by omega,by omega,by go_num,fun y hy=>?_,hbb⟩;rw[<-HT.out] at hy;rcases List.mem_append.1 hy with hy|hy
     ·exact HP.out y hy
     ·obtain rfl:=List.mem_singleton.1 hy;exact⟨HF.out trivial,by omega⟩
    case measure=>simp[intOf];omega
  ·have f1:decide ((i:Int)<=30)=false:=by simp;omega
   have f1':decide (i<=30)=false:=by simpa using hi3
   have f2:decide ((S.length:Int)<=30)=false:=by simp;omega
   have f2':decide (S.length<=30)=false:=by simp;omega
   go_wp2;go_ret;exact⟨false,rfl,hb,fun e=>by cases e⟩
 ·obtain rfl:i=S.length:=by omega
  rw[List.take_length] at HP;go_wp2;go_ret;exact⟨_,rfl,hb,fun e=>⟨by (have h:(S.length:Int)<=30:=by simpa using e);omega,HP.out⟩⟩
theorem Fy{w:World}{gv sv:Value}{f:Int}{R:List Rc}{S:List aP}(hR:ip w gv R)(hS:io w sv S):
 Calls Tryz.prog 10 #[.agg #[.int .i64 f,gv,sv]] w fun e w'=>∃b,e=.returned (.bool b)/\Below w.heap.size w w'/\(b=true->Km R/\Kl S):=by
 have b0:=ai w (.cells #[.int .i64 f,gv,sv] 25)
 have k0:=ag.new w 25 #[.int .i64 f,gv,sv]
 have q1:=af (EV (hS.below b0))
 have q2:=af (fun W (hb:Below w.heap.size w W)=>Ap (hR.below hb))
 obtain⟨ga,gc,rfl,_⟩:=hR
 obtain⟨sa,sc,rfl,_⟩:=hS
 go_enter Tryz.func10,Tryz.ntmps10
 go_wp2_with fail
 refine q1.out.mono ?_
 rintro e w1 ⟨b1,rfl,hb,hf1⟩
 have hb1:=ay b0 hb
 have y1:=ax (ag.below k0 hb k0.lt) 1 (.slice ga R.length gc) rfl
 have HF1:=af hf1
 clear hf1 q1 b0 hb k0
 cases b1 with
 |false=>
  go_wp2;go_ret;exact⟨false,rfl,hb1,fun e=>by cases e⟩
 |true=>
  go_wp2_with fail
  refine(q2.out _ hb1).mono ?_;rintro e w2 ⟨b2,rfl,hb2,hf2⟩;have HF2:=af hf2;clear hf2 q2;go_wp2;go_ret;exact⟨b2,rfl,ay hb1 hb2,fun e=>⟨HF2.out e,HF1.out trivial⟩⟩
end
section
open Go.RowKit Go.Maps Go.WideMaps Go.ChangeShapes Go.WideShapes Go.Deep
theorem KP:Tryz.prog.globalNamed "math/bits.deBruijn64tab"=some 1:=by kernel_rfl
def KN:List (String×DataW Unit):=[("math/bits.deBruijn64tab",Rows.laid_math_bits_deBruijn64tab),("unicode/utf8.acceptRanges",Rows.laid_unicode_utf8_acceptRanges),("unicode/utf8.first",Rows.laid_unicode_utf8_first)]
theorem Lu{W:World}(hL:laidMet Tryz.prog KN W):Tb W/\1<W.heap.size:=by
 have hL2:laidMet Tryz.prog (("math/bits.deBruijn64tab",Lib.tabData .u8 (Lib.deBruijn64tab.map Int.ofNat))::[("unicode/utf8.acceptRanges",Rows.laid_unicode_utf8_acceptRanges),("unicode/utf8.first",Rows.laid_unicode_utf8_first)]) W:=hL;have hI:Lib.TabIs Tryz.prog W "math/bits.deBruijn64tab" .u8 (Lib.deBruijn64tab.map Int.ofNat):=Lib.tabIs_of_head (t:=438) (e:=5) (n:=64) KP (by kernel_rfl) (by kernel_rfl) (by kernel_rfl) (by kernel_rfl) (by kernel_rfl) hL2;have hc:∀j,j<Lib.deBruijn64tab.length->W.cell? ⟨1,j,none⟩=some (.int .u8 (Lib.deBruijn64tab.getD j 0)):=fun j hj=>by
  rw[hI.cell KP j (by rw[List.length_map];exact hj)];congr 2;simp[List.getD,hj]
 exact⟨hc,World.block_lt_of_cell? _ _ (hc 0 (by decide))⟩
section
variable {H:Type} {enc:TypeId×Value->H} {w:World} {base:Nat} {sp:Nat->Bool} {held:Bool}
theorem Aa{cs:Array Value}{d:DataW H}{p:List MemPlace}(h:DataW.Trod enc Tryz.prog w base sp held 25 (.agg cs) d p):∃(b:mI) (gv sv:Value),Value.agg cs=.agg #[.int .i64 b.floor,gv,sv]/\(-9223372036854775808<=b.floor/\b.floor<=9223372036854775807)/\ip w gv b.gone/\io w sv b.ser:=by
 obtain⟨fuel,h⟩:=h;have h:DataW.trod enc Tryz.prog w base sp held fuel 25 cs.toList=some (d,p):=h;obtain⟨hlen,k,hf⟩:=kh Tryz.underlying25 (by kernel_rfl) (by kernel_rfl) h;obtain⟨l⟩:=cs;match l,hlen with
 |[v0,v1,v2],_=>
  obtain⟨y0,g0⟩:=hf 0 _ v0 rfl rfl;obtain⟨y1,g1⟩:=hf 1 _ v1 rfl rfl;obtain⟨y2,g2⟩:=hf 2 _ v2 rfl rfl;obtain⟨F,e0,_,w0⟩:=DataW.trod_int Tryz.underlying2 g0;obtain⟨a1,n1,c1,rfl⟩:=mN Tryz.underlying22 g1;obtain⟨a2,n2,c2,rfl⟩:=mN Tryz.underlying23 g2;obtain⟨R,hR⟩:=wW g1;obtain⟨S,hS⟩:=wI g2;simp only[List.cons.injEq,and_true] at e0;subst e0;exact⟨⟨F,R,S⟩,_,_,rfl,bounds_i64 w0,hR,hS⟩
end
end
section
theorem qi(g:Int)(K:List (List UInt8))(R:List Rc)(s:List UInt8)(K':List (List UInt8))(e:Int)(h:cO g K R=(s,some K',e)):gh g=true/\iT g K R=(some s,K')/\(∀x∈R,dJ x g=0)/\e=0:=by
 unfold cO at h;split at h
 ·cases h
 ·rename_i hk;split at h
  ·cases h
  ·rename_i hf;split at h
   ·cases h
   ·rename_i s2 K2 hp;obtain⟨rfl,h2⟩:=Prod.mk.inj h;obtain⟨h3,rfl⟩:=Prod.mk.inj h2;obtain rfl:=aA h3;exact⟨by simpa using hk,hp,jN g R (by simpa using hf),rfl⟩
theorem Bg(g:Nat)(h1:1<=g)(h2:g<=3)(r:List UInt8):cY (eU cv g 0++r) cv=(g,0,r,0):=by
 have hl:(eU cv g 0).length=10:=by
  unfold eU;rw[dD];rfl
 unfold cY;rw[if_neg (by rw[aG,hl];simp[cv])];have ht:(eU cv g 0++r).take (cv.length+6)=eU cv g 0:=List.take_left' hl;have hd:(eU cv g 0++r).drop (cv.length+6)=r:=List.drop_left' hl;rw[ht,hd,show eB (eU cv g 0)=some (cv++[UInt8.ofNat g,UInt8.ofNat 0]) from BH _];simp only;rcases(show g=1\/g=2\/g=3 by omega) with rfl|rfl|rfl<;>rfl
end
section
open Go.RowKit Go.Maps Go.WideMaps
attribute [local go_sem] am aq
structure wm(w:World)(B:Nat)(S:List (Lb×Nat))(L:List Lb)(kv:Value)(D:DataW Unit):Prop where
 boxA:ag w (B+1) 303 #[.map (some B)]
 boxK:ag w (B+2) 65 #[kv]
 grp:w.ownsGroups Tryz.prog 73 (B+1) 3 .i64 B S.length D
 dict:CJ D S
 row:w.ownsRow B 73 2 kv L.length (L.flatMap eX)
section
variable {w w':World} {B:Nat} {S:List (Lb×Nat)} {L:List Lb} {kv:Value} {D:DataW Unit}
theorem wm.kept{X:Nat->Prop}(h:wm w B S L kv D)(hk:ak w w' X)(h0:¬X B)(h1:¬X (B+1))(h2:¬X (B+2))(h3:∀k,kv.ownBlock=some k->¬X k)(h4:∀g,X g->g<w.heap.size->nf w g≠some (some 3)):wm w' B S L kv D:=
 ⟨h.boxA.keptK hk h1,h.boxK.keptK hk h2,jM h.grp hk h0 h4,h.dict,aw h.row hk h3⟩
theorem wm.below(h:wm w B S L kv D)(hb:Below w.heap.size w w'):wm w' B S L kv D:=h.kept (ak.of_below (S:=fun _=>False) hb) id id id (fun _ _ e=>e) (fun _ e=>e.elim)
theorem wm.lt(h:wm w B S L kv D):B+2<w.heap.size:=h.boxK.lt
theorem wm.ne(h:wm w B S L kv D):kv.ownBlock≠some B/\kv.ownBlock≠some (B+1)/\kv.ownBlock≠some (B+2):=by
 refine⟨fun e=>?_,fun e=>?_,fun e=>?_⟩
 ·have h1:=aX h.row e;rw[(tI h.grp).2.2] at h1;simp at h1
 ·have h1:=aX h.row e;rw[aN h.boxA] at h1;simp at h1
 ·have h1:=aX h.row e;rw[aN h.boxK] at h1;simp at h1
theorem ER(L:List Lb)(y:Lb):L.flatMap eX++[.string (bs y.1),.string (bs y.2)]=(L++[y]).flatMap eX:=by
 rw[List.flatMap_append];rfl
theorem EF{w5:World}{o:Obj}{v':Value}{y:Lb}(h:wm w B S L kv D)(hown:w5.ownsRow B 73 2 v' (L.length+1) (L.flatMap eX++[.string (bs y.1),.string (bs y.2)]))(hg:(w.alloc o).grownBy w5 kv.ownBlock):
 ag w5 (B+2) 65 #[kv]/\wm (w5.setCell ⟨B+2,0,none⟩ v') B S (L++[y]) v' D/\ak w (w5.setCell ⟨B+2,0,none⟩ v') (fun k=>k=B+2\/kv.ownBlock=some k):=by
 obtain⟨n0,n1,n2⟩:=h.ne
 have hk1:ak w w5 (fun k=>kv.ownBlock=some k):=((ak.alloc w o _).weaken (fun _ e=>e)).trans (ak.of_grown hg fun k e=>e)
 have hb5:=h.boxK.keptK hk1 n2
 have hset:ak w5 (w5.setCell ⟨B+2,0,none⟩ v') (fun k=>k=B+2):=ak.of_grown (ap w5 (B+2) 0 v') fun k e=>(aA e).symm
 have hk2:ak w (w5.setCell ⟨B+2,0,none⟩ v') (fun k=>k=B+2\/kv.ownBlock=some k):=(hk1.weaken fun k e=>.inr e).trans (hset.weaken fun k e=>.inl e)
 have hne:v'.ownBlock≠some (B+2):=fun e=>by
  have h1:=aX hown e;rw[aN hb5] at h1;simp at h1
 refine⟨hb5,⟨h.boxA.keptK hk2 (fun e=>e.elim (by omega) n1),ag.set_ hb5 0 v',jM h.grp hk2 (fun e=>e.elim (by omega) n0) (fun g hg hl e=>?_),h.dict,?_⟩,hk2⟩
 ·rcases hg with rfl|hg
  ·rw[aN h.boxK] at e;simp at e
  ·rw[aX h.row hg] at e;simp at e
 ·rw[<-ER,aG];exact aw hown hset (fun b e e2=>hne (by rw[e,e2]))
theorem yO(h:wm w B S L kv D)(y:Lb)(hy:kt y)(i:Nat)(hi:i<=100000)(hS:S.length<=10000000):
 ∃va vc st w1,(Instr.mapEntry 303 (.map (some B)) (.agg #[.string (bs y.1),.string (bs y.2)])).run Tryz.prog (w.alloc (.cells #[.int .i64 (i:Int)] 3))=.ok (.tuple #[.slice va (cD S y).length vc,.int .i64 ((st:Nat):Int)]) w1/\
  w1.ownsRow (B+1) 3 1 (.slice va (cD S y).length vc) (cD S y).length ((jL (cD S y)).map (Value.int .i64))/\(cD S y).length<=S.length/\w1.cell? ⟨w.heap.size,0,none⟩=some (.int .i64 (i:Int))/\B+1<=w1.heap.size/\
  ∀(w2:World) (v':Value),w2.ownsRow (B+1) 3 1 v' ((cD S y).length+1) ((jL (cD S y)).map (Value.int .i64)++[.int .i64 (i:Int)])->w1.grownBy w2 (Value.slice va (cD S y).length vc).ownBlock->(v'.ownBlock=(Value.slice va (cD S y).length vc).ownBlock\/v'.ownBlock=some w1.heap.size)->
   ∃w3 D',(Instr.entryStore 303 (.map (some B)) (.int .i64 ((st:Nat):Int)) v').run Tryz.prog w2=.ok () w3/\wm w3 B (S++[(y,i)]) L kv D'/\ak w w3 (fun k=>B<=k):=by
 have hl:=h.lt
 have he:=h.below (ai w (.cells #[.int .i64 (i:Int)] 3))
 have hvl:(cD S y).length<=S.length:=by unfold cD;rw[List.length_map];exact List.length_filter_le _ _
 obtain⟨v,zs,st,w1,hE,hg1,hvb,hat,hoi,hzl,HS⟩:=xq he.grp zn Tryz.underlying303 (fun u=>Tryz.zeroValue57 u) (by unfold maxLen;omega) (pK y hy)
 have hzs:=tW hoi (hat.symm.trans (he.dict y hy))
 subst hzs
 obtain⟨va,vc,rfl⟩:=aH hoi.1
 rw[jg] at*
 have k1:ak (w.alloc (.cells #[.int .i64 (i:Int)] 3)) w1 (fun k=>k=B):=ak.of_grown hg1 fun k e=>(aA e).symm
 have ho1:=aw hoi.1 k1 (fun b e e2=>hvb (by rw[e,e2]))
 rw[jg] at ho1
 have hc:w1.cell? ⟨w.heap.size,0,none⟩=some (.int .i64 (i:Int)):=k1.cell (by rw[World.cell?_alloc_new];rfl) (by simp only;omega)
 refine⟨va,vc,st,w1,hE,ho1,hvl,hc,by have:=hg1.size;rw[aY] at this;omega,fun w2 v' hown hg2 hloc=>?_⟩
 have hown2:w2.ownsInts (B+1) 3 .i64 v' (jL (cD S y)++[(i:Int)]):=by
  refine⟨?_,fun z hz=>?_⟩
  ·rw[aG,jg,List.map_append];exact hown
  ·rcases List.mem_append.1 hz with hz|hz
   ·exact hoi.2 z hz
   ·rw[List.mem_singleton] at hz;subst hz;have m1:IntKind.i64.min= -9223372036854775808:=by decide
    have m2:IntKind.i64.max=9223372036854775807:=by decide
    simp only[Lit.wf,m1,m2,Bool.and_eq_true,decide_eq_true_eq];omega
 obtain⟨w3,hst,hg3,hgr3⟩:=HS w2 v' _ hg2 hown2 (by rw[aG,jg];simp;omega) (hloc.elim .inl fun e=>.inr ⟨_,e,hg1.size⟩)
 have hD:=tI he.grp
 have k2:ak w1 w2 (fun k=>(Value.slice va (cD S y).length vc).ownBlock=some k):=ak.of_grown hg2 fun k e=>e
 have k3:ak w2 w3 (fun k=>k=B):=ak.of_grown hgr3 fun k e=>(aA e).symm
 have kA:ak (w.alloc (.cells #[.int .i64 (i:Int)] 3)) w3 (fun k=>k=B\/(Value.slice va (cD S y).length vc).ownBlock=some k):=((k1.weaken fun k e=>.inl e).trans (k2.weaken fun k e=>.inr e)).trans (k3.weaken fun k e=>.inl e)
 have n0:=he.ne
 have nv:∀k t,nf (w.alloc (.cells #[.int .i64 (i:Int)] 3)) k=some (some t)->t≠3->(Value.slice va (cD S y).length vc).ownBlock≠some k:=fun k t ht hne e=>by
  rw[aX hoi.1 e] at ht;exact hne (aA (aA ht)).symm
 refine⟨w3,_,hst,⟨he.boxA.keptK kA (fun e=>e.elim (by omega) (nv _ _ (aN he.boxA) (by decide))),he.boxK.keptK kA (fun e=>e.elim (by omega) (nv _ _ (aN he.boxK) (by decide))),?_,Hk hD.1 he.dict hy i hown2,?_⟩,(ak.alloc w _ _).trans (kA.weaken fun k e=>?_)⟩
 ·rw[aG];exact hg3
 ·exact aw he.row kA (fun b e e2=>by
   rcases e2 with rfl|e2
   ·exact n0.1 e
   ·exact nv _ _ (aX he.row e) (by decide) e2)
 ·rcases e with rfl|e
  ·exact aF _
  ·have:=(hoi.1.lt k e).1;omega
end
theorem cN(n:Int)(w:World):
 Calls Tryz.prog 179 #[.int .i64 n] w fun e w'=>e=.returned (.string (bs (Num.small (aS n))))/\Below w.heap.size w w':=by
 have hw:=dI n
 have hl:=gz n
 have q:=af (fun W=>aT (aS n:Int) W (by omega) (by omega))
 rw[Int.toNat_natCast] at q
 generalize aS n=m at*
 go_enter Tryz.func179,Tryz.ntmps179
 go_wp2_with fail
 refine(q.out _).mono ?_
 rintro e w2 ⟨rfl,hb2⟩
 go_wp2_with fail
 go_ret
 exact⟨rfl,hb2⟩
theorem re:∀(s t:List UInt8) (k:Nat) (h1:k<s.length) (h2:k<t.length),k<=bN s t->s[k]=t[k]->k+1<=bN s t
 |a::s,b::t,0,_,_,_,e=>by
  unfold bN;rw[if_pos (show a=b from e)];omega
 |a::s,b::t,k+1,h1,h2,h,e=>by
  unfold bN at h⊢;split at h
  ·rename_i hab;rw[if_pos hab];have:=re s t k (by simpa using h1) (by simpa using h2) (by omega) (by simpa using e);omega
  ·omega
theorem rf:∀(s t:List UInt8) (k:Nat),k<=bN s t->((∀(h1:k<s.length) (h2:k<t.length),s[k]≠t[k]))->bN s t=k
 |[],t,k,h,_=>by unfold bN at h⊢;omega
 |a::s,[],k,h,_=>by unfold bN at h⊢;omega
 |a::s,b::t,0,h,e=>by
  unfold bN;rw[if_neg (show ¬a=b from e (by simp) (by simp))]
 |a::s,b::t,k+1,h,e=>by
  unfold bN at h⊢;split at h
  ·rename_i hab;rw[if_pos hab,rf s t k (by omega) (fun h1 h2=>(show s[k]≠t[k] from e (Nat.succ_lt_succ h1) (Nat.succ_lt_succ h2)))]
  ·omega
theorem IJ(a b:Nat):min (a:Int) (b:Int)=((min a b:Nat):Int):=by omega
theorem Ch(s t:List UInt8)(w:World)(hs:s.length<=1099511627776):
 Calls Tryz.prog 180 #[.string (bs s),.string (bs t)] w fun e w'=>e=.returned (.int .i64 (bN s t:Int))/\Below w.heap.size w w':=by
 have hix1:=fun (i:Nat) b (h:s[i]?=some b) k W=>cF (P:=Tryz.prog) 9 Tryz.underlying9 s i b h k W
 have hix2:=fun (i:Nat) b (h:t[i]?=some b) k W=>cF (P:=Tryz.prog) 9 Tryz.underlying9 t i b h k W
 have HI1:=af hix1
 have HI2:=af hix2
 have HCT:=af (re s t)
 have HCS:=af (rf s t)
 have hz1:=aq s
 have hz2:=aq t
 clear hix1 hix2
 have HCL:=af (pQ s t)
 go_enter Tryz.func180,Tryz.ntmps180
 go_wp2_with fail
 go_loopw [5] (fun vn wr=>∃k:Nat,k<=bN s t/\vn=.int .i64 (k:Int)/\Below w.heap.size w wr) (fun vn _=>bN s t-(intOf vn).toNat)
 case atStart=>exact⟨0,Nat.zero_le _,rfl,bQ⟩
 obtain⟨k,hk,rfl,hb⟩:=hrel
 have hmin:=IJ s.length t.length
 by_cases hlt:k<s.length/\k<t.length
 ·obtain⟨h1,h2⟩:=hlt;have j1:=HI1.out k s[k] (aW h1);have j2:=HI2.out k t[k] (aW h2);have f1:decide (k<min s.length t.length)=true:=by simp;omega
  have f1':decide ((k:Int)<min (s.length:Int) (t.length:Int))=true:=by simp;omega
  by_cases he:s[k]=t[k]
  ·have HC:=af (HCT.out k h1 h2 hk he);rw[<-he] at j2;have f2:((s[k].toNat:Int)==(s[k].toNat:Int))=true:=by simp
   generalize s[k]=x at*;clear HI1 HI2 HCS HCL he;go_wp2_with fail
   go_quiet (fail)
   go_wp2_with fail
   go_roundw
   case rel=>exact⟨k+1,HC.out,by go_num,below_drewN hb _⟩
   case measure=>simp[intOf];have:=HC.out;omega
  ·have HC:=af (HCS.out k hk fun _ _=>he);have f2:((s[k].toNat:Int)==(t[k].toNat:Int))=false:=by simpa using fun e=>he (UInt8.toNat_inj.1 (by omega))
   generalize s[k]=x at*;generalize t[k]=y at*;clear HI1 HI2 HCS HCL he HCT;go_wp2_with fail
   go_quiet (fail)
   go_wp2_with fail
   go_ret;exact⟨by rw[HC.out];rfl,below_drewN hb _⟩
 ·have HC:=af (HCS.out k hk fun h1 h2=>absurd ⟨h1,h2⟩ hlt);have f1:decide (k<min s.length t.length)=false:=by simp;omega
  have f1':decide ((k:Int)<min (s.length:Int) (t.length:Int))=false:=by simp;omega
  clear HI1 HI2 HCS HCL HCT hlt;go_wp2_with fail
  go_quiet (fail)
  go_wp2_with fail
  go_ret;exact⟨by rw[HC.out];rfl,below_drewN hb _⟩
theorem zr(L:List Lb):(L.flatMap lL).length=L.length*26:=by
 induction L with
 |nil=>rfl
 |cons y L ih=>
  have h:(lL y).length=26:=by
   unfold lL;rw[aG,Num.fixed_len,Num.fixed_len];rfl
  rw[List.flatMap_cons,aG,ih,h,de];omega
theorem Hf(x:En):(kG x).length=1+x.labels.length*26+24:=by
 unfold kG;rw[aG,aG,aG,de,zr,Num.wide_len,Num.wide_len,Num.wide_len];omega
theorem vL{α β:Type}(f:α->List β)(L:List α){k:Nat}(h:k<L.length):(L.take (k+1)).flatMap f=(L.take k).flatMap f++f L[k]:=by
 rw[eN h,List.flatMap_append];simp
theorem JY{n:Nat}(h:n<=6):IntKind.u8.wrap (n:Int)=((UInt8.ofNat n).toNat:Int):=by
 rw[Num.ofNat_toNat _ (by omega)];simp[IntKind.wrap,IntKind.bits,IntKind.signed];omega
theorem gY{x:En}(h:dK x=true):x.labels.length<=6/\∀y∈x.labels,y.1.length<=48/\y.2.length<=48:=zW (jH h).1
theorem pO(E:List En)(h:∀x∈E,dK x=true):(E.flatMap kG).length<=E.length*200:=by
 induction E with
 |nil=>exact aF _
 |cons x E ih=>
  rw[List.flatMap_cons,aG,Hf,de];have h1:=ih fun y hy=>h y (List.mem_cons_of_mem _ hy);have h2:=(gY (h x List.mem_cons_self)).1;omega
theorem GR(E:List En)(v:Value)(w:World)(h:dV w v E)(hr:∀x∈E,dK x=true)(hE:E.length<=20):
 Calls Tryz.prog 111 #[v] w fun e w'=>e=.returned (.string (bs (Ef E)))/\Below w.heap.size w w':=by
 have HR:=af hr
 have hO':=af (show Ef E=Num.wide E.length++E.flatMap kG from rfl)
 have hEl:=pO E hr
 obtain⟨a,c,rfl,hnil,hl,hlc,hx⟩:=h
 have HX:=af hx
 clear hx hr
 have qn:=af (fun W=>cH (E.length:Int) W (by omega) (by omega))
 rw[Int.toNat_natCast] at qn
 have hwrap:IntKind.u64.wrap (E.length:Int)=(E.length:Int):=by simp[IntKind.wrap,IntKind.bits,IntKind.signed];omega
 have hwl:=Num.wide_len E.length
 have hO:Hid (Ef E=Num.wide E.length++E.flatMap kG):=hO'
 clear hO'
 generalize Num.wide E.length=nb at*
 have B0:=bT.fresh w
 have b0:=ai w (.cells #[.pointer none,.slice none 0 0] 84)
 have qw0:=af (fun W (hW:bT w.heap.size w.heap.size [] W) (hs:w.heap.size<=W.heap.size)=>cU w.heap.size w.heap.size [] nb W hW (by simp;omega) hs)
 go_enter Tryz.func111,Tryz.ntmps111
 go_wp2_with fail
 refine(qn.out _).mono ?_
 rintro e w1 ⟨rfl,hb1⟩
 have B1:=B0.below hb1
 have bb1:=ay b0 hb1
 clear B0 b0 hb1 qn
 go_wp2_with fail
 refine(qw0.out _ B1 bb1.size).mono ?_
 rintro e w2 ⟨rfl,B2,k2⟩
 have bb2:=bb1.trans k2.1
 have hpos:w.heap.size<w2.heap.size:=dU (B1.elim (fun h=>mR h.2.choose_spec.1) (fun h=>mR h.2.choose_spec.1)) k2.1.size
 have B2':bT w.heap.size w.heap.size (nb++(E.take 0).flatMap kG) w2:=by rw[List.take_zero];simpa using B2
 clear qw0 B1 bb1 B2 k2
 go_wp2_with fail
 go_loopw [15] (fun vi wr=>∃i:Nat,i<=E.length/\vi=.int .i64 (i:Int)/\bT w.heap.size w.heap.size (nb++(E.take i).flatMap kG) wr/\Below w.heap.size w wr/\w.heap.size<wr.heap.size) (fun vi _=>E.length-(intOf vi).toNat)
 case atStart=>exact⟨0,Nat.zero_le _,rfl,B2',bb2,hpos⟩
 clear B2' bb2 hpos
 obtain⟨i,hi,rfl,hB,hb,hpos⟩:=hrel
 rcases(show i<E.length\/i=E.length by omega) with hil|rfl
 ·obtain⟨hok,b,o,rfl,a',c',d0,hL,d1,d2,d3⟩:=HX.out i E[i] (aW hil);have e0:=cu hb d0;have e1:=cu hb d1;have e2:=cu hb d2;have e3:=cu hb d3;have HT:=af (vL kG E hil);have hrx:=HR.out _ (dM hil);obtain⟨hl6,hl48⟩:=gY hrx;have hnums:=(jH hrx).2;have hpl:((E.take i).flatMap kG).length<=4000:=by
   have:=pO (E.take i) fun x hx=>HR.out x (List.mem_of_mem_take hx);rw[dt] at this;omega
  have he1:kG E[i]=(UInt8.ofNat E[i].labels.length::E[i].labels.flatMap lL)++((Num.wide (aS E[i].last)++Num.wide (aS E[i].off))++Num.wide (aS E[i].len)):=rfl;rw[he1] at HT;clear he1 d0 d1 d2 d3 hrx hok;generalize E[i]=x at*;generalize hP:(E.take i).flatMap kG=P at*;clear hP;obtain⟨L,la,of,le⟩:=x;simp only at e0 e1 e2 e3 hL HT hl6 hl48 hnums;have hb8:=JY hl6;have B1:=hB.below (ai wr (.cells #[.slice a' L.length c',.int .i64 la,.int .i64 of,.int .i64 le] 92));have k1:=ag.new wr 92 #[.slice a' L.length c',.int .i64 la,.int .i64 of,.int .i64 le];have bA:=hb.alloc hb.size (.cells #[.slice a' L.length c',.int .i64 la,.int .i64 of,.int .i64 le] 92);have qb:=af (fun W (hW:bT w.heap.size w.heap.size (nb++P) W) (hs:w.heap.size<=W.heap.size)=>xZ w.heap.size w.heap.size (nb++P) (UInt8.ofNat L.length) ((UInt8.ofNat L.length).toNat:Int) rfl W hW (by rw[aG];omega) hs);obtain⟨⟨c0,c1,c2,c3⟩,_⟩:=dw k1;go_wp2_with fail
  refine(qb.out _ B1 bA.size).mono ?_;rintro e w3 ⟨rfl,B3,kp3⟩;have hG:wr.heap.size≠w.heap.size:=by omega
  have k3:=kp3.blk k1 hG (by decide);have b3:=bA.trans kp3.1;have hp3:wr.heap.size<w3.heap.size:=dU (oO wr _) kp3.1.size;have B3':bT w.heap.size w.heap.size ((nb++P)++(UInt8.ofNat L.length::(L.take 0).flatMap lL)) w3:=B3;generalize wr.heap.size=G at*;obtain⟨⟨c0,c1,c2,c3⟩,_⟩:=dw k3;clear qb B1 B3 kp3 k1 bA e0 e1 e2 e3 hB hb;go_wp2_with fail
  go_loopw [27] (fun vk wq=>∃k:Nat,k<=L.length/\vk=.int .i64 (k:Int)/\bT w.heap.size w.heap.size ((nb++P)++(UInt8.ofNat L.length::(L.take k).flatMap lL)) wq/\Below w.heap.size w wq/\ag wq G 92 #[.slice a' L.length c',.int .i64 la,.int .i64 of,.int .i64 le]/\w.heap.size<wq.heap.size) (fun vk _=>L.length-(intOf vk).toNat)
  case atStart=>exact⟨0,Nat.zero_le _,rfl,B3',b3,k3,by omega⟩
  clear B3' b3 k3 c0 c1 c2 c3 hp3;obtain⟨k,hk,rfl,hB,hb,hX,hpos2⟩:=hrel;have hll:=zr (L.take k);rw[dt] at hll;rcases(show k<L.length\/k=L.length by omega) with hkl|rfl
  ·obtain⟨_,_,eL,_,hLx⟩:=id hL;obtain⟨rfl,_,rfl⟩:=Value.slice.inj eL;obtain⟨_,_,b3,o3,rfl,g0,g1⟩:=hLx k L[k] (aW hkl);have x0:=cu hb g0;have x1:=cu hb g1;have HTK:=af (vL lL L hkl);obtain⟨y48,z48⟩:=hl48 _ (dM hkl);have hy2:lL L[k]=Num.fixed L[k].1 12++Num.fixed L[k].2 12:=rfl;rw[hy2] at HTK;clear g0 g1 hLx eL hL hl48 hy2;generalize L[k]=y at*;have q1:=af (fun W=>iE y.1 12 W (by omega) (by omega) (by omega));have q2:=af (fun W=>iE y.2 12 W (by omega) (by omega) (by omega));have t1:(Num.fixed y.1 12).length=13:=Num.fixed_len _ _;have t2:(Num.fixed y.2 12).length=13:=Num.fixed_len _ _;generalize Num.fixed y.1 12=y1 at*;generalize Num.fixed y.2 12=y2 at*;have hadd:∀W,(Op.stringOp .add (bs y1) (bs y2)).run Tryz.prog W=.ok (.string (bs (y1++y2))) W:=fun W=>aJ (P:=Tryz.prog) y1 y2 (by omega) W;have bB:=ai wr (.cells #[.string (bs y.1),.string (bs y.2)] 73);have kB:=ag.new wr 73 #[.string (bs y.1),.string (bs y.2)];have m0:(wr.alloc (.cells #[.string (bs y.1),.string (bs y.2)] 73)).cell? ⟨wr.heap.size,0,none⟩=some (.string (bs y.1)):=(ag.cell kB 0).trans rfl;have m1:(wr.alloc (.cells #[.string (bs y.1),.string (bs y.2)] 73)).cell? ⟨wr.heap.size,1,none⟩=some (.string (bs y.2)):=(ag.cell kB 1).trans rfl;have g0:=aj m0;have g1:=aj m1;have HB2:=af (hB.below bB);have HX2:=af (ag.alloc hX (.cells #[.string (bs y.1),.string (bs y.2)] 73));have Hb2:=af (ay hb bB);generalize hA:(nb++P)++(UInt8.ofNat L.length::(L.take k).flatMap lL)=A at*;have hAl:A.length<=100000:=by
    rw[<-hA];simp only[aG,de];omega
   have HA:=af (show (nb++P)++(UInt8.ofNat L.length::(L.take (k+1)).flatMap lL)=A++(y1++y2) by rw[HTK.out,<-hA];simp[List.append_assoc]);have qw:=af (fun W (hW:bT w.heap.size w.heap.size A W) (hs:w.heap.size<=W.heap.size)=>cU w.heap.size w.heap.size A (y1++y2) W hW (by rw[aG];omega) hs);clear kB m0 m1 hB hA HTK;go_wp2_with fail
   refine kN ?_;iterate 2 (refine bH fun K hK=>?_;go_big_quiet_step (fail);refine hK _ ?_;clear hK K)
   (refine fP (f:=177) (args:=#[.string (bs y.1),.int .i64 12]) (v:=.string (bs y1)) (fun W hW=>q1.out W) fun K hK=>?_;go_big_quiet_step (fail);refine hK _ ?_;clear hK K);iterate 2 (refine bH fun K hK=>?_;go_big_quiet_step (fail);refine hK _ ?_;clear hK K)
   (refine fP (f:=177) (args:=#[.string (bs y.2),.int .i64 12]) (v:=.string (bs y2)) (fun W hW=>q2.out W) fun K hK=>?_;go_big_quiet_step (fail);refine hK _ ?_;clear hK K)
   (refine bH fun K hK=>?_;go_big_quiet_step (fail);refine hK _ ?_;clear hK K);refine eF ?_;intro w5 hb5;simp only[az];have b5:=Hb2.out.trans (Below.mono hb5 Hb2.out.size);have B5:=HB2.out.below hb5;have X5:=ag.below HX2.out hb5 HX2.out.lt;clear g0 g1 HB2 HX2 Hb2 bB hX;go_wp2_with fail
   refine(qw.out _ B5 b5.size).mono ?_;rintro e w6 ⟨rfl,B6,k6⟩;go_wp2_with fail
   go_roundw
   case rel=>exact⟨k+1,by omega,by go_num,by rw[HA.out];exact B6,b5.trans k6.1,k6.blk X5 (by omega) (by decide),dU (dU hpos2 (aK (Nat.le_of_lt (oO _ _)) hb5.size)) k6.1.size⟩
   case measure=>simp[intOf];omega
  ·rw[List.take_length] at hB hll;obtain⟨⟨m0,m1,m2,m3⟩,_⟩:=dw hX;have g1:=aj m1;have g2:=aj m2;have g3:=aj m3;have q1:=af (fun W=>cH (aS la:Int) W (by omega) (by have:=gz la;omega));have q2:=af (fun W=>cH (aS of:Int) W (by omega) (by have:=gz of;omega));have q3:=af (fun W=>cH (aS le:Int) W (by omega) (by have:=gz le;omega));rw[Int.toNat_natCast] at q1 q2 q3;have f1:=dI la;have f2:=dI of;have f3:=dI le;have t1:=Num.wide_len (aS la);have t2:=Num.wide_len (aS of);have t3:=Num.wide_len (aS le);generalize Num.wide (aS la)=y1 at*;generalize Num.wide (aS of)=y2 at*;generalize Num.wide (aS le)=y3 at*;generalize aS la=n1 at*;generalize aS of=n2 at*;generalize aS le=n3 at*;have hadd1:∀W,(Op.stringOp .add (bs y1) (bs y2)).run Tryz.prog W=.ok (.string (bs (y1++y2))) W:=fun W=>aJ (P:=Tryz.prog) y1 y2 (by omega) W;have hadd2:∀W,(Op.stringOp .add (bs (y1++y2)) (bs y3)).run Tryz.prog W=.ok (.string (bs (y1++y2++y3))) W:=fun W=>aJ (P:=Tryz.prog) (y1++y2) y3 (by rw[aG];omega) W;have HB2:=af hB;have Hb2:=af hb;generalize hA:(nb++P)++(UInt8.ofNat L.length::L.flatMap lL)=A at*;have hAl:A.length<=100000:=by
    rw[<-hA];simp only[aG,de];omega
   have HA:=af (show nb++(E.take (i+1)).flatMap kG=A++(y1++y2++y3) by rw[HT.out,<-hA];simp[List.append_assoc]);have qw:=af (fun W (hW:bT w.heap.size w.heap.size A W) (hs:w.heap.size<=W.heap.size)=>cU w.heap.size w.heap.size A (y1++y2++y3) W hW (by rw[aG,aG];omega) hs);clear m0 m1 m2 m3 hX hB hA HT hL hl48 hll;generalize y1++y2++y3=z3 at*;generalize y1++y2=z2 at*;go_wp2_with fail
   refine kN ?_;iterate 3 (refine bH fun K hK=>?_;go_big_quiet_step (fail);refine hK _ ?_;clear hK K)
   (refine fP (f:=33) (args:=#[.int .u64 (n1:Int)]) (v:=.string (bs y1)) (fun W hW=>q1.out W) fun K hK=>?_;go_big_quiet_step (fail);refine hK _ ?_;clear hK K);iterate 3 (refine bH fun K hK=>?_;go_big_quiet_step (fail);refine hK _ ?_;clear hK K)
   (refine fP (f:=33) (args:=#[.int .u64 (n2:Int)]) (v:=.string (bs y2)) (fun W hW=>q2.out W) fun K hK=>?_;go_big_quiet_step (fail);refine hK _ ?_;clear hK K);iterate 4 (refine bH fun K hK=>?_;go_big_quiet_step (fail);refine hK _ ?_;clear hK K)
   (refine fP (f:=33) (args:=#[.int .u64 (n3:Int)]) (v:=.string (bs y3)) (fun W hW=>q3.out W) fun K hK=>?_;go_big_quiet_step (fail);refine hK _ ?_;clear hK K)
   (refine bH fun K hK=>?_;go_big_quiet_step (fail);refine hK _ ?_;clear hK K);refine eF ?_;intro w5 hb5;simp only[az];have b5:=Hb2.out.trans (Below.mono hb5 Hb2.out.size);have B5:=HB2.out.below hb5;clear g1 g2 g3 HB2 Hb2;go_wp2_with fail
   refine(qw.out _ B5 b5.size).mono ?_;rintro e w6 ⟨rfl,B6,k6⟩;go_wp2_with fail
   go_roundw
   case rel=>exact⟨i+1,by omega,by go_num,by rw[HA.out];exact B6,b5.trans k6.1,dU hpos2 (aK hb5.size k6.1.size)⟩
   case measure=>simp[intOf];omega
 ·rw[List.take_length] at hB;rw[<-hO.out] at hB;have Q:=af (fx _ _ _ _ hB hb.size);go_wp2_with fail
  refine Q.out.mono ?_;rintro e w3 ⟨rfl,hB3,hb3⟩;go_wp2_with fail
  go_ret;exact⟨rfl,hb.trans hb3⟩
theorem Gj(E:List En){i:Nat}(h:i<E.length)(k:Nat)(hk:k<E[i].labels.length):rH E i++(E[i].labels.take (k+1)).map (fun z=>(z,i))=(rH E i++(E[i].labels.take k).map fun z=>(z,i))++[(E[i].labels[k],i)]:=by
 rw[eN hk,List.map_append,<-List.append_assoc];rfl
theorem Cc(S:List (Lb×Nat))(y:Lb)(i:Nat):eH ((S++[(y,i)]).map fun p=>p.1)=if y∈eH (S.map fun p=>p.1) then eH (S.map fun p=>p.1) else eH (S.map fun p=>p.1)++[y]:=by
 rw[List.map_append,List.map_cons,List.map_nil,E5]
theorem Hc(L:List Lb):∀a:List Lb,(L.foldl (fun a y=>if y∈a then a else a++[y]) a).length<=a.length+L.length:=by
 induction L with
 |nil=>exact fun a=>aF _
 |cons x L ih=>
  intro a;rw[List.foldl_cons];refine aK (ih _) ?_;split
  ·simp
  ·simp;omega
theorem tV(L:List Lb):(eH L).length<=L.length:=by
 have:=Hc L [];simpa[eH] using this
theorem sH(L:List Lb):(jT L).length=L.length:=List.length_mergeSort _
theorem yV{w:World}{g:Nat}{u:Value}(h:w.cell? ⟨g,0,none⟩=some u):∀j u',[u][j]?=some u'->w.cell? ((⟨g,0,none⟩:Addr).add j)=some u':=fun j u' hu=>by
 match j,hu with
 |0,hu=>
  obtain rfl:=aA hu;rw[jY];exact h
 |j+1,hu=>simp at hu
theorem uM(E:List En)(v:Value)(w:World)(h:dV w v E)(hS:(cL E).length<=1000000):
 Calls Tryz.prog 182 #[v] w fun e w'=>∃kv D,e=.returned (.func (.func 233) #[] #[.pointer (some ⟨w.heap.size+2,0,none⟩),.pointer (some ⟨w.heap.size+1,0,none⟩)])/\wm w' w.heap.size (cL E) (gZ E) kv D/\Below w.heap.size w w':=by
 have hmm:=@run_makeMap Tryz.prog
 have HPP:=af (fun i (hi:i<E.length) k=>aK (IR E hi k) hS)
 obtain⟨a,c,rfl,hnil,hl,hlc,hx⟩:=h
 have HX:=af hx
 clear hx
 have ⟨i0,hin,hz0,hz1,hz2⟩:=info_parts (show (Tryz.prog.info? 3).map (fun i=>(i.zero,i.size,i.bytes))=some (some (.int .i64 0),1,8) by kernel_rfl)
 have ⟨j0,hjn,jz0,jz1,jz2⟩:=info_parts (show (Tryz.prog.info? 73).map (fun i=>(i.zero,i.size,i.bytes))=some (some (.agg #[.string ⟨#[]⟩,.string ⟨#[]⟩]),2,32) by kernel_rfl)
 have p0:wm (((w.alloc (.map #[] 0)).alloc (.cells #[.map (some w.heap.size)] 303)).alloc (.cells #[.slice none 0 0] 65)) w.heap.size (rH E 0) (eH ((rH E 0).map fun p=>p.1)) (.slice none 0 0) (.map []):=by
  have g0:=World.ownsGroups_made (H:=Unit) w Tryz.prog 73 3 .i64;have bA:=ag.new (w.alloc (.map #[] 0)) 303 #[.map (some w.heap.size)];rw[aY] at bA;have bK:=ag.new ((w.alloc (.map #[] 0)).alloc (.cells #[.map (some w.heap.size)] 303)) 65 #[.slice none 0 0];rw[aY,aY] at bK;refine⟨ag.alloc bA _,bK,jM g0 ((ak.alloc _ _ (fun _=>False)).trans (ak.alloc _ _ _)) id (fun g hg=>hg.elim),fun y _=>?_,eE⟩;rw[show cD (rH E 0) y=[] from rfl];simp[DataW.atKey,o7]
 have b0:Below w.heap.size w (((w.alloc (.map #[] 0)).alloc (.cells #[.map (some w.heap.size)] 303)).alloc (.cells #[.slice none 0 0] 65)):=(((Below.refl _ w).alloc (aF _) _).alloc (by simp) _).alloc (by simp;omega) _
 go_enter Tryz.func182,Tryz.ntmps182
 go_wp2_with fail
 go_loopw [12] (fun vi wr=>∃(i:Nat) (kv:Value) (D:DataW Unit),i<=E.length/\vi=.int .i64 (i:Int)/\wm wr w.heap.size (rH E i) (eH ((rH E i).map fun p=>p.1)) kv D/\Below w.heap.size w wr) (fun vi _=>E.length-(intOf vi).toNat)
 case atStart=>exact⟨0,_,_,Nat.zero_le _,rfl,p0,b0⟩
 clear p0 b0
 obtain⟨i,kv,D,hi',rfl,hp,hb⟩:=hrel
 rcases(show i<E.length\/i=E.length by omega) with hil|rfl
 ·obtain⟨hok,b,o,rfl,a',c',d0,hL,d1,d2,d3⟩:=HX.out i E[i] (aW hil);have e0:=cu hb d0;have e1:=cu hb d1;have e2:=cu hb d2;have e3:=cu hb d3;have HPI:=af (fun k=>HPP.out i hil k);have HPA:=af (fun k (hk:k<E[i].labels.length)=>Gj E hil k hk);have HPS:=af (oF E hil);clear d0 d1 d2 d3 hok;generalize E[i]=x at*;obtain⟨L,la,of,le⟩:=x;simp only at e0 e1 e2 e3 hL HPI HPA HPS;obtain⟨_,_,eL,hLn,hLx⟩:=hL;obtain⟨rfl,_,rfl⟩:=Value.slice.inj eL;have HLX:=af hLx;clear hLx eL;have bX:=ai wr (.cells #[.slice a' L.length c',.int .i64 la,.int .i64 of,.int .i64 le] 92);have p1:wm (wr.alloc (.cells #[.slice a' L.length c',.int .i64 la,.int .i64 of,.int .i64 le] 92)) w.heap.size (rH E i++(L.take 0).map fun z=>(z,i)) (eH ((rH E i++(L.take 0).map fun z=>(z,i)).map fun p=>p.1)) kv D:=by
   rw[List.take_zero,List.map_nil,List.append_nil];exact hp.below bX
  have B1:=ay hb bX;clear bX hp;go_wp2_with fail
  go_loopw [20] (fun vk wq=>∃(k:Nat) (kv:Value) (D:DataW Unit),k<=L.length/\vk=.int .i64 (k:Int)/\wm wq w.heap.size (rH E i++(L.take k).map fun z=>(z,i)) (eH ((rH E i++(L.take k).map fun z=>(z,i)).map fun p=>p.1)) kv D/\Below w.heap.size w wq) (fun vk _=>L.length-(intOf vk).toNat)
  case atStart=>exact⟨0,_,_,Nat.zero_le _,rfl,p1,B1⟩
  clear p1 B1 hb e0 e1 e2 e3;obtain⟨k,kv,D,hk,rfl,hp,hb⟩:=hrel;rcases(show k<L.length\/k=L.length by omega) with hkl|rfl
  ·obtain⟨hy1,hy2,b3,o3,rfl,g0,g1⟩:=HLX.out k L[k] (aW hkl);have x0:=cu hb g0;have x1:=cu hb g1;have HSA:=af (HPA.out k hkl);have hSl:=HPI.out k;clear g0 g1;generalize L[k]=y at*;generalize hSS:rH E i++(L.take k).map (fun z=>(z,i))=S at*;generalize hS2:rH E i++(L.take (k+1)).map (fun z=>(z,i))=S2 at*;have HS2:=af hS2;clear hSS hS2;have HD:=af (Cc S y i);have HVN:=af (FH S y);have hdl:(eH (S.map fun p=>p.1)).length<=S.length:=by have:=tV (S.map fun p=>p.1);rwa[List.length_map] at this
   generalize hK:eH (S.map fun p=>p.1)=K at*;clear hK;have bY:=ai wr (.cells #[.string (bs y.1),.string (bs y.2)] 73);have pa:=hp.below bY;have kY:=ag.new wr 73 #[.string (bs y.1),.string (bs y.2)];have BY:=ay hb bY;have yok:kt y:=⟨hy1,hy2⟩
   obtain⟨v1,zs,hlook,hat,hoi,hzl,_⟩:=pa.grp.at (Keyed.of_law zn) Tryz.underlying303 (Tryz.zeroValue57 _) (by unfold maxLen;omega) (pK y yok);have hzs:=tW hoi (hat.symm.trans (pa.dict y yok));subst hzs;obtain⟨va,vc,rfl⟩:=aH hoi.1;rw[jg] at hlook;have hpl:=hp.lt;have cA:=ax pa.boxA 0 (.map (some w.heap.size)) rfl;have cK:=ax pa.boxK 0 kv rfl;have y0:=ax kY 0 (.string (bs y.1)) rfl;have y1:=ax kY 1 (.string (bs y.2)) rfl;obtain⟨ka,kc,rfl⟩:=aH pa.row;by_cases hv0:cD S y=[]
   ·have hnew:y∉K:=HVN.out.1 hv0;have HK2:=af (show eH (S2.map fun p=>p.1)=K++[y] by rw[HSA.out,HD.out,if_neg hnew]);rw[hv0] at hlook;rw[show ([]:List Nat).length=0 from rfl] at hlook;clear hv0 hat hoi hzl HVN;go_wp2_with (first|(at_builtin;refine wpList_append_own_at _ rfl _ _ 65 rfl w.heap.size 73 j0 (.agg #[.string ⟨#[]⟩,.string ⟨#[]⟩]) 2 32 Tryz.underlying65 hjn jz0 jz1 jz2 rfl (by decide) _ _ _ rfl (World.ownsRow.alloc pa.row _) ⟨_,0,none⟩ 1 1 [.string (bs y.1),.string (bs y.2)] rfl rfl (iz _ _ _ _ (aY _ _)) (by simp[Value.oneCell']) (by unfold maxLen;omega) (by omega) (by simp;omega) ?_;intro v' w5 hown' hgrow hnil2 hloc;obtain⟨sa',sc',rfl⟩:=aH hown';obtain⟨hbK5,p5,kp5⟩:=EF (y:=y) pa hown' hgrow;have k0:=ax hbK5 0 (.slice ka K.length kc) rfl;have f0:=ag.frozen hbK5 0;have kY5:=kY.keptK kp5 (fun e=>e.elim (by omega) (fun e=>by have:=(hp.row.lt _ e).2;omega));have z0:=ax kY5 0 (.string (bs y.1)) rfl;have z1:=ax kY5 1 (.string (bs y.2)) rfl;have cA5:=ax p5.boxA 0 (.map (some w.heap.size)) rfl;obtain⟨va2,vc2,st,w6,hE,ho6,hvl6,hc6,hs6,hS6⟩:=yO p5 y yok i (by omega) (by omega);have HS6:=af hS6;have KP5:=af kp5;rw[World.size_setCell] at hc6;clear hS6 kp5 hbK5 kY5 hown' hgrow hnil2 hloc)|(at_builtin;refine wpList_append_own_at _ rfl _ _ 57 rfl (w.heap.size+1) 3 i0 (.int .i64 0) 1 8 Tryz.underlying57 hin hz0 hz1 hz2 rfl (by decide) _ _ _ rfl ho6 ⟨_,0,none⟩ 1 1 [.int .i64 (i:Int)] rfl rfl (yV hc6) (by simp[Value.oneCell']) (by unfold maxLen;omega) (by omega) hs6 ?_;intro v2' w7 hown7 hgrow7 hnil7 hloc7;obtain⟨w8,D8,hst,p8,k8⟩:=HS6.out w7 v2' hown7 hgrow7 hloc7))
    go_roundw
    case rel=>
     have kk:ak wr w8 (fun k=>w.heap.size<=k):=((ak.alloc wr _ _).trans (KP5.out.weaken fun k e=>e.elim (fun e=>by omega) (fun e=>(hp.row.lt _ e).1))).trans k8;exact⟨k+1,_,D8,by omega,by go_num,by rw[HS2.out,HK2.out,HSA.out];exact p8,hb.trans (kk.below hb.size fun k e=>e)⟩
    case measure=>simp[intOf];omega
   ·have hold:y∈K:=by
     by_cases hm:y∈K
     ·exact hm
     ·exact absurd (HVN.out.2 hm) hv0
    have HK2:=af (show eH (S2.map fun p=>p.1)=K by rw[HSA.out,HD.out,if_pos hold]);have hpos:(cD S y).length≠0:=fun e=>hv0 (List.length_eq_zero_iff.1 e);have f1:(((cD S y).length:Int)==0)=false:=by simpa using hv0
    have f2:((cD S y).length==0)=false:=by simpa using hv0
    obtain⟨va2,vc2,st,w6,hE,ho6,hvl6,hc6,hs6,hS6⟩:=yO pa y yok i (by omega) (by omega);have HS6:=af hS6;rw[aY] at hc6;clear hv0 hat hoi hzl HVN hold hS6;generalize (cD S y).length=vn at*;go_wp2_with (at_builtin;refine wpList_append_own_at _ rfl _ _ 57 rfl (w.heap.size+1) 3 i0 (.int .i64 0) 1 8 Tryz.underlying57 hin hz0 hz1 hz2 rfl (by decide) _ _ _ rfl ho6 ⟨_,0,none⟩ 1 1 [.int .i64 (i:Int)] rfl rfl (yV hc6) (by simp[Value.oneCell']) (by unfold maxLen;omega) (by omega) hs6 ?_;intro v2' w7 hown7 hgrow7 hnil7 hloc7;obtain⟨w8,D8,hst,p8,k8⟩:=HS6.out w7 v2' hown7 hgrow7 hloc7)
    go_roundw
    case rel=>
     have kk:ak wr w8 (fun k=>w.heap.size<=k):=(ak.alloc wr _ _).trans k8;exact⟨k+1,_,D8,by omega,by go_num,by rw[HS2.out,HK2.out,HSA.out];exact p8,hb.trans (kk.below hb.size fun k e=>e)⟩
    case measure=>simp[intOf];omega
  ·rw[List.take_length] at hp;go_wp2_with fail
   go_roundw
   case rel=>exact⟨i+1,_,D,by omega,by go_num,by rw[HPS.out];exact hp,hb⟩
   case measure=>simp[intOf];omega
 ·rw[<-td] at hp;have hdl:=tV ((cL E).map fun p=>p.1);rw[List.length_map] at hdl;have HKE:=af (show gZ E=jT (eH ((cL E).map fun p=>p.1)) from rfl);generalize eH ((cL E).map fun p=>p.1)=K at*;have hpl:=hp.lt;have cK:=ax hp.boxK 0 kv rfl;obtain⟨ka,kc,rfl⟩:=aH hp.row;by_cases hK0:K.length=0
  ·have q:=af (fun W=>Tryz.slices_SortFunc_none (α:=Lb) ka kc (.func (.func 230) #[] #[]) W);obtain rfl:=List.length_eq_zero_iff.1 hK0;rw[show ([]:List Lb).length=0 from rfl] at cK;have HP:=af hp;clear hp hK0;go_wp2_with fail
   refine(q.out _).mono ?_;rintro e w2 ⟨rfl,rfl⟩;go_wp2_with fail
   go_ret;exact⟨_,D,rfl,by rw[HKE.out,show jT []=[] by unfold jT;simp];exact HP.out,hb⟩
  ·obtain⟨g,rfl⟩:∃g,ka=some ⟨g,0,none⟩:=by
    rcases hp.row.2 with⟨_,e⟩|⟨g,cap,cur,e,_⟩
    ·exact absurd e hK0
    ·exact⟨g,(Value.slice.inj e).1⟩
   have q:=af (CD K w.heap.size g K.length kc wr hp.row rfl (by omega));have HP:=af hp;have HN:=af hp.ne;clear hp;go_wp2_with fail
   refine q.out.mono ?_;rintro e w2 ⟨rfl,hr2,hk2⟩;have HR2:=af hr2;have HK2:=af hk2;clear hr2 hk2 q cK;go_wp2_with fail
   go_ret;have hgb:w.heap.size<=g:=(HP.out.row.lt g rfl).1;have hne:=HN.out;have n0:g≠w.heap.size:=fun e=>hne.1 (by rw[<-e];rfl);have n1:g≠w.heap.size+1:=fun e=>hne.2.1 (by rw[<-e];rfl);have n2:g≠w.heap.size+2:=fun e=>hne.2.2 (by rw[<-e];rfl);refine⟨_,D,rfl,⟨HP.out.boxA.keptK HK2.out (by omega),HP.out.boxK.keptK HK2.out (by omega),jM HP.out.grp HK2.out (by omega) (fun k e hl et=>?_),HP.out.dict,?_⟩,hb.trans (HK2.out.below hb.size fun k e=>by omega)⟩
   ·subst e;rw[aX HP.out.row rfl] at et;simp at et
   ·rw[HKE.out,sH];exact HR2.out
end
section
open Go.RowKit Go.Maps Go.WideMaps
attribute [local go_sem] am aq
end
section
open Go.RowKit Go.Maps Go.WideMaps
attribute [local go_sem] am aq
theorem CV(g:Int):∀(sy:List (List UInt8)) (last:List UInt8),(∀s∈sy,s.length<=48)->(kj g last sy).length<=sy.length*80
 |[],_,_=>aF _
 |s::sy,last,h=>by
  have h1:=CV g sy s fun x hx=>h x (List.mem_cons_of_mem _ hx);have h2:=h s List.mem_cons_self;have h3:=(Num.small_len (bN last s)).2;have h4:=(Num.small_len (s.drop (bN last s)).length).2;have h5:=(Num.small_len s.length).2;rw[kj,aG,de];split
  ·rw[aG,Num.text_len,List.length_drop] at*;omega
  ·rw[Num.text_len];omega
theorem GP(sy:List (List UInt8))(L:List Lb):(L.flatMap (kD sy)).length<=L.length*20:=by
 induction L with
 |nil=>exact aF _
 |cons y L ih=>
  have h1:=(Num.small_len (cz sy y.1)).2;have h2:=(Num.small_len (cz sy y.2)).2;rw[List.flatMap_cons,aG,de];unfold kD at*;rw[aG];omega
theorem DL(g:Int)(a x:En):(iw g a x).length<=30:=by
 unfold iw;split
 ·have h1:=(Num.small_len (Num.zigI (x.last-a.last)).toNat).2;have h2:=(Num.small_len (Num.zigI (x.off-a.off-a.len)).toNat).2;have h3:=(Num.small_len (aS x.len)).2;rw[aG,aG];omega
 ·have h1:=(Num.small_len (aS x.last)).2;have h2:=(Num.small_len (aS x.off)).2;have h3:=(Num.small_len (aS x.len)).2;rw[aG,aG];omega
theorem vQ(g:Int)(sy:List (List UInt8)):∀(l:List En) (a:En),(∀x∈l,x.labels.length<=6)->(di g sy a l).length<=l.length*200
 |[],_,_=>aF _
 |x::l,a,h=>by
  have h1:=vQ g sy l x fun y hy=>h y (List.mem_cons_of_mem _ hy);have h2:=h x List.mem_cons_self;have h3:=GP sy x.labels;have h4:=DL g a x;have h5:=(Num.small_len x.labels.length).2;rw[di,aG,de];unfold vR;rw[aG,aG];omega
theorem tG(g:Int)(E:List En)(hr:∀x∈E,dK x=true)(hE:E.length<=20):(nu E g).length<=100000:=by
 have h6:∀x∈E,x.labels.length<=6:=fun x hx=>(gY (hr x hx)).1;have h1:=wz h6 hE;have h2:=CV g (gr E) [] fun s hs=>l7 hr s ((jo E s).1 hs);have h3:=vQ g (gr E) E aR h6;have h4:=(Num.small_len (gr E).length).2;have h5:=(Num.small_len E.length).2;unfold nu;rw[aG,aG,aG];omega
theorem mB{B b:Nat}{l:List UInt8}{w w':World}{S:Nat->Prop}(h:bT B b l w)(hk:ak w w' S)(hb:¬S b)(ht:∀g,S g->nf w g≠some (some 5)):bT B b l w':=by
 have key:∀{p:Value},Lib.BuilderAtF 84 5 B b p (Lib.byteCells l) w->Lib.BuilderAtF 84 5 B b p (Lib.byteCells l) w':=fun {p} h=>by
  obtain⟨h1,v,h2,h3,h4⟩:=h;refine⟨h1,v,(hk.block b (mR h2) hb).trans h2,⟨h3.1,?_⟩,h4⟩;rcases h3.2 with h|⟨g,cap,cur,fz,e1,e2,e3,e4⟩
  ·exact .inl h
  ·refine .inr ⟨g,cap,cur,fz,e1,e2,(hk.block g (mR e3) (fun hs=>ht g hs ?_)).trans e3,e4⟩;unfold nf;rw[e3];rfl
 exact h.elim (fun h=>.inl (key h)) (fun h=>.inr (key h))
structure mX(w:World)(B m:Nat)(A:List UInt8)(SY:List (List UInt8))(sv:Value)(D:DataW Unit)(n:Nat):Prop where
 bld:bT B B A w
 row:w.ownsRow (B+1) 9 1 sv SY.length (rF SY)
 map:w.ownsMap Tryz.prog 9 jt m n D
 lo:B<m/\B<w.heap.size
section
variable {w w':World} {B m n:Nat} {A:List UInt8} {SY:List (List UInt8)} {sv:Value} {D:DataW Unit}
theorem mX.below(h:mX w B m A SY sv D n)(hb:Below w.heap.size w w'):mX w' B m A SY sv D n:=
 ⟨h.bld.below hb,aw h.row (ak.of_below (S:=fun _=>False) hb) (fun _ _ e=>e),eM h.map (ak.of_below (S:=fun _=>False) hb) id,h.lo.1,dU h.lo.2 hb.size⟩
theorem mX.write{s:List UInt8}(h:mX w B m A SY sv D n)(hB:bT B B (A++s) w')(hk:BK B B w w'):mX w' B m (A++s) SY sv D n:=
 ⟨hB,hk.row h.row (fun e=>by have:=(h.row.lt _ e).1;omega) (by decide),hk.map h.map (by have:=h.lo.1;omega),h.lo.1,dU h.lo.2 hk.1.size⟩
theorem mX.put{D':DataW Unit}{n':Nat}(h:mX w B m A SY sv D n)(hm:w'.ownsMap Tryz.prog 9 jt m n' D')(hg:w.grownBy w' (some m)):mX w' B m A SY sv D' n':=by
 have hk:ak w w' (fun k=>k=m):=ak.of_grown hg fun k e=>(aA e).symm;have ht:=jG h.map;refine⟨mB h.bld hk (by have:=h.lo.1;omega) (fun g e=>by subst e;rw[ht];simp),aw h.row hk (fun b e e2=>?_),hm,h.lo.1,dU h.lo.2 hg.size⟩;subst e2;rw[aX h.row e] at ht;simp at ht
theorem mX.sym(h:mX w B m A SY sv D n){i:Nat}(hi:i<SY.length):∃g c,sv=.slice (some ⟨g,0,none⟩) SY.length c/\w.cell? ⟨g,i,none⟩=some (.string (bs SY[i])):=by
 rcases h.row.2 with⟨_,e⟩|⟨g,cap,cur,e,_⟩
 ·omega
 ·refine⟨g,cap,e,?_⟩;have:=h.row.cells (g:=g) (by rw[e];rfl) i _ (by unfold rF;rw[List.getElem?_map,aW hi];rfl);rwa[jY] at this
theorem mX.look(h:mX w B m A SY sv D n)(hd:j9 D SY){s:List UInt8}(hs:s∈SY)(hl:s.length<=1048576):∀W,Below w.heap.size w W->(Instr.lookup 171 (.map (some m)) (.string (bs s)) false).run Tryz.prog W=.ok (.int .i64 (cz SY s:Nat)) W:=fun W hW=>by
 have hkey:keyOf Tryz.prog 9 (.string (bs s))=some (.string s):=keyOf_string_mk Tryz.underlying9 (by rw[aq];unfold maxLen;omega);have hm:=eM h.map (ak.of_below (S:=fun _=>False) hW) id;obtain⟨v,ps,hrun,hR⟩:=hm.lookup (string_keyed Tryz.underlying9) Tryz.underlying171 (z:=.int .i64 0) (Tryz.zeroValue3 W) (zd:=.lit (.int .i64 0)) (zp:=[]) rfl hkey;rw[(hd s).2 hs] at hR;rw[hrun,zy hR];rfl
end
theorem Ej(E:List En)(v:Value)(w:World)(h:dV w v E)(hr:∀x∈E,dK x=true)(hE:E.length<=20):
 Calls Tryz.prog 112 #[v,.int .i64 2] w fun e w'=>e=.returned (.string (bs (qJ E 2)))/\Below w.heap.size w w':=by
 have hmm:=@run_makeMap Tryz.prog
 have h6:∀x∈E,x.labels.length<=6:=fun x hx=>(gY (hr x hx)).1
 have hT:(ci E).length<=1048576:=by have:=pA E h6;omega
 have hSl:=wz h6 hE
 have HSb:=af (show ∀s∈gr E,s.length<=48 from fun s hs=>l7 hr s ((jo E s).1 hs))
 have HHL:=af (tG 2 E hr hE)
 have HND:=af (sD E)
 have HMEM:=af (fun x (hx:x∈E) y (hy:y∈x.labels)=>(show y.1∈gr E/\y.2∈gr E from⟨(jo E _).2 (mK hx hy).1,(jo E _).2 (mK hx hy).2⟩))
 have HRT:=af hr
 have HH:=af (show nu E 2=Num.small (gr E).length++(kj 2 [] (gr E)++(Num.small E.length++di 2 (gr E) aR E)) from rfl)
 have HMO:=af (show qJ E 2=nu E 2 from List.append_nil _)
 have B0:=bT.fresh w
 have b0:=ai w (.cells #[.pointer none,.slice none 0 0] 84)
 have qs:=af (pr E v _ (h.below b0) hT)
 rw[aY] at qs
 have H:=af h
 obtain⟨a,c,rfl,hnil,hl,hlc,hx⟩:=h
 have HX:=af hx
 clear hx h6 hT hr
 generalize gr E=SY at*
 generalize hHD:nu E 2=HEAD at*
 clear hHD
 go_enter Tryz.func112,Tryz.ntmps112
 go_wp2_with fail
 refine qs.out.mono ?_
 rintro e w1 ⟨sv,rfl,hrow,hb1⟩
 have BA:=b0.trans (hb1.mono (by simp))
 have BB:=B0.below (hb1.mono (by simp))
 have hw1:w.heap.size+1<=w1.heap.size:=by have:=hb1.size;rwa[aY] at this
 have m0:(w1.alloc (.map #[] 0)).ownsMap Tryz.prog 9 jt w1.heap.size 0 (.map []):=World.ownsMap_made w1 Tryz.prog 9 jt
 have M0:mX (w1.alloc (.map #[] 0)) w.heap.size w1.heap.size [] SY sv (.map []) 0:=⟨BB.below (ai _ _),World.ownsRow.alloc hrow _,m0,by omega,by simp;omega⟩
 have BM:=BA.trans ((ai w1 (.map #[] 0)).mono BA.size)
 generalize hm:w1.heap.size=m at*
 obtain⟨sa,sc,rfl⟩:=aH hrow
 have q1:=af (fun W=>cN (SY.length:Int) W)
 have hu:aS (SY.length:Int)=SY.length:=by unfold aS;omega
 rw[hu] at q1
 have t1:=(Num.small_len SY.length).2
 have q2:=af (fun W (hW:mX W w.heap.size m [] SY (.slice sa SY.length sc) (.map []) 0)=>cU w.heap.size w.heap.size [] (Num.small SY.length) W hW.bld (by simp;omega) (by have:=hW.lo.2;omega))
 generalize hn1:Num.small SY.length=n1 at*
 clear qs hrow hb1 b0 B0 BA BB m0 hu hn1
 go_wp2_with fail
 refine(q1.out _).mono ?_
 rintro e w2 ⟨rfl,hb2⟩
 have M1:=M0.below hb2
 have B1:=ay BM hb2
 clear M0 BM hb2 q1
 go_wp2_with fail
 refine(q2.out _ M1).mono ?_
 rintro e w3 ⟨rfl,hB3,hk3⟩
 have M2:=M1.write hB3 hk3
 have B2:=B1.trans hk3.1
 have HA0:=af (show ([]++n1)++(kj 2 [] (SY.drop 0)++(Num.small E.length++di 2 SY aR E))=HEAD by rw[HH.out,List.nil_append];rfl)
 generalize ([]++n1:List UInt8)=A0 at*
 clear q2 M1 B1 hB3 hk3 hm hw1 HH
 go_wp2_with fail
 go_loopw [31,8] (fun vi vl wr=>∃(i n:Nat) (last A:List UInt8) (D:DataW Unit),i<=SY.length/\vi=.int .i64 (i:Int)/\vl=.string (bs last)/\last.length<=48/\n<=i/\mX wr w.heap.size m A SY (.slice sa SY.length sc) D n/\Hid (j9 D (SY.take i))/\Below w.heap.size w wr/\Hid (A++(kj 2 last (SY.drop i)++(Num.small E.length++di 2 SY aR E))=HEAD)) (fun vi _ _=>SY.length-(intOf vi).toNat)
 case atStart=>exact⟨0,0,[],A0,_,Nat.zero_le _,rfl,rfl,Nat.zero_le _,aF _,M2,af nO,B2,HA0⟩
 clear M2 B2 HA0
 obtain⟨i,n,last,A,D,hi,rfl,rfl,hll,hni,M,HK,hb,HA⟩:=hrel
 have hAl:A.length<=100000:=by
  have h1:=congrArg List.length HA.out;rw[aG] at h1;have:=HHL.out;omega
 rcases(show i<SY.length\/i=SY.length by omega) with hil|rfl
 ·obtain⟨g,gc,e1,hc⟩:=M.sym hil;obtain⟨rfl,_,rfl⟩:=Value.slice.inj e1;have hs48:=HSb.out SY[i] (dM hil);have HK2:=af (nP M.map.isMap HK.out (l:=SY[i]) (fun hm=>by
   obtain⟨j,hj,e⟩:=List.mem_iff_getElem.1 hm
   rw[List.getElem_take] at e
   have hj':j<i:=by rw[dt] at hj;omega
   exact(List.pairwise_iff_getElem.1 (show SY.Pairwise (fun a b=>a≠b) from HND.out) j i (by omega) hil hj') e))
  rw[<-eN hil,dt,Nat.min_eq_left (show i<=SY.length by omega)] at HK2;have hkey:keyOf Tryz.prog 9 (.string (bs SY[i]))=some (.string SY[i]):=keyOf_string_mk Tryz.underlying9 (by rw[aq];unfold maxLen;omega);have HMP:=af M.map;have HAT:kj 2 last (SY.drop i)=(if (2:Int)=3 then Num.small (bN last SY[i])++Num.text (SY[i].drop (bN last SY[i])) else Num.text SY[i])++kj 2 SY[i] (SY.drop (i+1)):=by rw[List.drop_eq_getElem_cons hil,kj]
  rw[HAT] at HA;clear HAT e1 HK;generalize SY[i]=s at*;have HM:=af (fun W5 (hown:W5.ownsMap Tryz.prog 9 jt m (n+1) (D.put (.string s) (.lit (.int .i64 (i:Nat))))) (hg:wr.grownBy W5 (some m))=>M.put hown hg);have HB:=af (fun W5 (hg:wr.grownBy W5 (some m))=>hb.grown hg hb.size (fun k e=>by have:=aA e;have:=M.lo.1;omega));rw[if_neg (by decide)] at HA;have hx0:(bs s).extract 0 s.length=bs s:=by rw[bV];simp
  have q1:=af (fun W=>eh s W (by omega));have t1:(Num.text s).length<=100:=by rw[Num.text_len];have:=(Num.small_len s.length).2;omega
  have HA2:=af (show (A++Num.text s)++(kj 2 s (SY.drop (i+1))++(Num.small E.length++di 2 SY aR E))=HEAD by rw[<-HA.out];simp[List.append_assoc]);generalize Num.text s=ts at*;have q2:=af (fun W D n (hW:mX W w.heap.size m A SY (.slice (some ⟨g,0,none⟩) SY.length sc) D n)=>cU w.heap.size w.heap.size A ts W hW.bld (by omega) (by have:=hW.lo.2;omega));clear HA M hb;go_wp2_with (at_mapUpdate;refine wpList_mapUpdate_own _ rfl _ _ _ 171 rfl 9 3 (string_keyed Tryz.underlying9) Tryz.underlying171 jt m n D rfl HMP.out (by unfold maxLen;omega) _ _ _ rfl rfl hkey (.lit (.int .i64 (i:Int))) [] rfl ?_;intro w5 hown5 hgrow5;have M5:=HM.out w5 hown5 hgrow5;have b5:=HB.out w5 hgrow5;clear hown5 hgrow5 HM HB HMP)
  refine(q1.out _).mono ?_;rintro e w6 ⟨rfl,hb6⟩;have M6:=M5.below hb6;have b6:=ay b5 hb6;clear M5 b5 hb6;go_wp2_with fail
  refine(q2.out _ _ _ M6).mono ?_;rintro e w7 ⟨rfl,hB7,hk7⟩;have M7:=M6.write hB7 hk7;have b7:=b6.trans hk7.1;clear M6 b6 hB7 hk7;go_wp2_with fail
  go_roundw
  case rel=>exact⟨i+1,n+1,s,A++ts,_,by omega,by go_num,rfl,hs48,by omega,M7,HK2,b7,HA2⟩
  case measure=>simp[intOf];omega
 ·rw[List.drop_length,show kj 2 last []=[] from rfl,List.nil_append] at HA;rw[List.take_length] at HK;have q1:=af (fun W=>cN (E.length:Int) W);have hu:aS (E.length:Int)=E.length:=by unfold aS;omega
  rw[hu] at q1;have t1:=(Num.small_len E.length).2;have HA1:=af (show (A++Num.small E.length)++di 2 SY aR (E.drop 0)=HEAD by rw[<-HA.out];simp[List.append_assoc]);generalize Num.small E.length=ne at*;have q2:=af (fun W (hW:mX W w.heap.size m A SY (.slice sa SY.length sc) D n)=>cU w.heap.size w.heap.size A ne W hW.bld (by omega) (by have:=hW.lo.2;omega));clear HA hu;go_wp2_with fail
  refine(q1.out _).mono ?_;rintro e w2 ⟨rfl,hb2⟩;have M1:=M.below hb2;have b1:=ay hb hb2;clear M hb hb2 q1;go_wp2_with fail
  refine(q2.out _ M1).mono ?_;rintro e w3 ⟨rfl,hB3,hk3⟩;have M2:=(M1.write hB3 hk3).below (ai w3 (.cells #[.slice none 0 0,.int .i64 0,.int .i64 0,.int .i64 0] 92));have b2:=b1.trans hk3.1;have b3:=b2.alloc b2.size (.cells #[.slice none 0 0,.int .i64 0,.int .i64 0,.int .i64 0] 92);have kH:=ag.new w3 92 #[.slice none 0 0,.int .i64 0,.int .i64 0,.int .i64 0];have hwH:w.heap.size<w3.heap.size:=(M1.write hB3 hk3).lo.2;clear M1 b1 hB3 hk3 q2 b2;generalize hH:w3.heap.size=AH at*;go_wp2_with fail
  go_loopw [60] (fun vi wr=>∃(i:Nat) (A:List UInt8) (ah:En) (av:Value),i<=E.length/\vi=.int .i64 (i:Int)/\mX wr w.heap.size m A SY (.slice sa SY.length sc) D n/\ag wr AH 92 #[av,.int .i64 ah.last,.int .i64 ah.off,.int .i64 ah.len]/\Bj ah/\Below w.heap.size w wr/\Hid (A++di 2 SY ah (E.drop i)=HEAD)) (fun vi _=>E.length-(intOf vi).toNat)
  case atStart=>exact⟨0,_,aR,_,Nat.zero_le _,rfl,M2,kH,⟨by simp[aR],by simp[aR],by simp[aR],by simp[aR],by simp[aR],by simp[aR]⟩,b3,HA1⟩
  clear M2 kH b3 HA1 hH hAl;obtain⟨i,A,ah,av,hi,rfl,M,kH,hah,hb,HA⟩:=hrel;have hAl:A.length<=100000:=by
   have h1:=congrArg List.length HA.out;rw[aG] at h1;have:=HHL.out;omega
  rcases(show i<E.length\/i=E.length by omega) with hil|rfl
  ·obtain⟨hok,b,o,rfl,a',c',d0,hL,d1,d2,d3⟩:=HX.out i E[i] (aW hil);have e0:=cu hb d0;have e1:=cu hb d1;have e2:=cu hb d2;have e3:=cu hb d3;have hrx:=HRT.out E[i] (dM hil);obtain⟨hl6,hl48⟩:=gY hrx;have hnx:=sP hrx;have HSY:=af (fun y (hy:y∈E[i].labels)=>HMEM.out _ (dM hil) y hy);have HAT:di 2 SY ah (E.drop i)=vR 2 SY ah E[i]++di 2 SY E[i] (E.drop (i+1)):=by rw[List.drop_eq_getElem_cons hil,di]
   rw[HAT] at HA;clear HAT hrx hok d0 d1 d2 d3;generalize E[i]=x at*;have HE2:vR 2 SY ah x=Num.small x.labels.length++(x.labels.flatMap (kD SY)++iw 2 ah x):=rfl;rw[HE2] at HA;generalize hR2:di 2 SY x (E.drop (i+1))=R2 at*;have HR2:=af hR2;clear HE2 hR2;have q1:=af (fun W=>cN (x.labels.length:Int) W);have hu:aS (x.labels.length:Int)=x.labels.length:=by unfold aS;omega
   rw[hu] at q1;have t1:=(Num.small_len x.labels.length).2;have HA1:=af (show (A++Num.small x.labels.length)++(((x.labels.drop 0).flatMap (kD SY)++iw 2 ah x)++R2)=HEAD by rw[<-HA.out];simp[List.append_assoc]);generalize Num.small x.labels.length=nl at*;have q2:=af (fun W (hW:mX W w.heap.size m A SY (.slice sa SY.length sc) D n)=>cU w.heap.size w.heap.size A nl W hW.bld (by omega) (by have:=hW.lo.2;omega));have bX:=ai wr (.cells #[.slice a' x.labels.length c',.int .i64 x.last,.int .i64 x.off,.int .i64 x.len] 92);have kX:=ag.new wr 92 #[.slice a' x.labels.length c',.int .i64 x.last,.int .i64 x.off,.int .i64 x.len];have MX:=M.below bX;have kHX:=kH.below bX kH.lt;have b1:=ay hb bX;have hXH:wr.heap.size≠AH:=by have:=kH.lt;omega
   have hXB:w.heap.size<wr.heap.size:=M.lo.2;clear HA hu M hb bX kH;obtain⟨⟨c0,c1,c2,c3⟩,_⟩:=dw kX;go_wp2_with fail
   refine(q1.out _).mono ?_;rintro e w2 ⟨rfl,hb2⟩;have M1:=MX.below hb2;have b2:=ay b1 hb2;have kX2:=kX.below hb2 kX.lt;have kH2:=kHX.below hb2 kHX.lt;clear MX b1 hb2 q1 kX kHX c0 c1 c2 c3;generalize wr.heap.size=XB at*;obtain⟨⟨c0,c1,c2,c3⟩,_⟩:=dw kX2;go_wp2_with fail
   refine(q2.out _ M1).mono ?_;rintro e w3 ⟨rfl,hB3,hk3⟩;have M2:=M1.write hB3 hk3;have b3:=b2.trans hk3.1;have kX3:=hk3.blk kX2 (by omega) (by decide);have kH3:=hk3.blk kH2 (by omega) (by decide);clear M1 b2 hB3 hk3 q2 kX2 kH2 c0 c1 c2 c3 hAl;obtain⟨⟨c0,c1,c2,c3⟩,_⟩:=dw kX3;go_wp2_with fail
   go_loopw [72] (fun vk wq=>∃(k:Nat) (A:List UInt8),k<=x.labels.length/\vk=.int .i64 (k:Int)/\mX wq w.heap.size m A SY (.slice sa SY.length sc) D n/\ag wq AH 92 #[av,.int .i64 ah.last,.int .i64 ah.off,.int .i64 ah.len]/\ag wq XB 92 #[.slice a' x.labels.length c',.int .i64 x.last,.int .i64 x.off,.int .i64 x.len]/\Below w.heap.size w wq/\Hid (A++(((x.labels.drop k).flatMap (kD SY)++iw 2 ah x)++R2)=HEAD)) (fun vk _=>x.labels.length-(intOf vk).toNat)
   case atStart=>exact⟨0,_,Nat.zero_le _,rfl,M2,kH3,kX3,b3,HA1⟩
   clear M2 kH3 kX3 b3 HA1 c0 c1 c2 c3;obtain⟨k,A,hk,rfl,M,kH,kX,hb,HA⟩:=hrel;have hAl:A.length<=100000:=by
    have h1:=congrArg List.length HA.out;rw[aG] at h1;have:=HHL.out;omega
   rcases(show k<x.labels.length\/k=x.labels.length by omega) with hkl|rfl
   ·obtain⟨_,_,eL,_,hLx⟩:=id hL;obtain⟨rfl,_,rfl⟩:=Value.slice.inj eL;obtain⟨_,_,b3,o3,rfl,g0,g1⟩:=hLx k x.labels[k] (aW hkl);have x0:=cu hb g0;have x1:=cu hb g1;have hmem:=HSY.out _ (dM hkl);have h48:=hl48 _ (dM hkl);rw[List.drop_eq_getElem_cons hkl,List.flatMap_cons] at HA;clear g0 g1 hLx eL;generalize x.labels[k]=y at*;have bY:=ai wr (.cells #[.string (bs y.1),.string (bs y.2)] 73);have kY:=ag.new wr 73 #[.string (bs y.1),.string (bs y.2)];have MY:=M.below bY;have z0:=aj (ax kY 0 (.string (bs y.1)) rfl);have z1:=aj (ax kY 1 (.string (bs y.2)) rfl);have HL1:=af (MY.look HK.out hmem.1 (by omega));have HL2:=af (MY.look HK.out hmem.2 (by omega));have hp1:=(oG hmem.1).1;have hp2:=(oG hmem.2).1;have q1:=af (fun W=>cN ((cz SY y.1:Nat):Int) W);have q2:=af (fun W=>cN ((cz SY y.2:Nat):Int) W);have hu1:aS ((cz SY y.1:Nat):Int)=cz SY y.1:=by unfold aS;omega
    have hu2:aS ((cz SY y.2:Nat):Int)=cz SY y.2:=by unfold aS;omega
    rw[hu1] at q1;rw[hu2] at q2;have t1:=(Num.small_len (cz SY y.1)).2;have t2:=(Num.small_len (cz SY y.2)).2;have hl2:kD SY y=Num.small (cz SY y.1)++Num.small (cz SY y.2):=rfl;rw[hl2] at HA;generalize Num.small (cz SY y.1)=y1 at*;generalize Num.small (cz SY y.2)=y2 at*;generalize cz SY y.1=p1 at*;generalize cz SY y.2=p2 at*;have hadd:∀W,(Op.stringOp .add (bs y1) (bs y2)).run Tryz.prog W=.ok (.string (bs (y1++y2))) W:=fun W=>aJ (P:=Tryz.prog) y1 y2 (by omega) W;have HA2:=af (show (A++(y1++y2))++(((x.labels.drop (k+1)).flatMap (kD SY)++iw 2 ah x)++R2)=HEAD by rw[<-HA.out];simp[List.append_assoc]);have qw:=af (fun W (hW:mX W w.heap.size m A SY (.slice sa SY.length sc) D n)=>cU w.heap.size w.heap.size A (y1++y2) W hW.bld (by rw[aG];omega) (by have:=hW.lo.2;omega));have HMY:=af MY;have HkH:=af (kH.below bY kH.lt);have HkX:=af (kX.below bY kX.lt);have Hb2:=af (ay hb bY);clear HA hl2 hu1 hu2 hmem h48 kY MY M kH kX bY hb;go_wp2_with fail
    refine kN ?_;iterate 3 (refine bH fun K hK=>?_;go_big_quiet_step (fail);refine hK _ ?_;clear hK K)
    (refine nt (v:=.int .i64 (p1:Int)) (fun W hW=>by have hl:=HL1.out W hW;go_simp) fun K hK=>?_;go_big_quiet_step (fail);refine hK _ ?_;clear hK K)
    (refine fP (f:=179) (args:=#[.int .i64 (p1:Int)]) (v:=.string (bs y1)) (fun W hW=>q1.out W) fun K hK=>?_;go_big_quiet_step (fail);refine hK _ ?_;clear hK K);iterate 3 (refine bH fun K hK=>?_;go_big_quiet_step (fail);refine hK _ ?_;clear hK K)
    (refine nt (v:=.int .i64 (p2:Int)) (fun W hW=>by have hl:=HL2.out W hW;go_simp) fun K hK=>?_;go_big_quiet_step (fail);refine hK _ ?_;clear hK K)
    (refine fP (f:=179) (args:=#[.int .i64 (p2:Int)]) (v:=.string (bs y2)) (fun W hW=>q2.out W) fun K hK=>?_;go_big_quiet_step (fail);refine hK _ ?_;clear hK K)
    (refine bH fun K hK=>?_;go_big_quiet_step (fail);refine hK _ ?_;clear hK K);refine eF ?_;intro w5 hb5;simp only[az];have b5:=Hb2.out.trans (Below.mono hb5 Hb2.out.size);have M5:=HMY.out.below hb5;have kH5:=ag.below HkH.out hb5 HkH.out.lt;have kX5:=ag.below HkX.out hb5 HkX.out.lt;clear z0 z1 HMY HkH HkX Hb2 HL1 HL2;go_wp2_with fail
    refine(qw.out _ M5).mono ?_;rintro e w6 ⟨rfl,hB6,hk6⟩;have M6:=M5.write hB6 hk6;go_wp2_with fail
    go_roundw
    case rel=>exact⟨k+1,_,by omega,by go_num,M6,hk6.blk kH5 (by omega) (by decide),hk6.blk kX5 (by omega) (by decide),b5.trans hk6.1,HA2⟩
    case measure=>simp[intOf];omega
   ·rw[List.drop_length,List.flatMap_nil,List.nil_append] at HA;obtain⟨n1,n2,n3,n4,n5,n6⟩:=hnx;obtain⟨h1,h2,h3,h4,h5,h6⟩:=hah;obtain⟨⟨c0,c1,c2,c3⟩,_⟩:=dw kX;obtain⟨⟨d0,d1,d2,d3⟩,f0,f1,f2,f3⟩:=dw kH;have g1:=aj c1;have g2:=aj c2;have g3:=aj c3;have q1:=af (fun W=>aT (aS x.last:Int) W (by omega) (by have:=gz x.last;omega));rw[Int.toNat_natCast] at q1;have q2:=af (fun W=>cN x.off W);have q3:=af (fun W=>cN x.len W);have hu1:=dI x.last;have ht2:iw 2 ah x=(Num.small (aS x.last)++Num.small (aS x.off))++Num.small (aS x.len):=rfl;rw[ht2] at HA;have t1:=(Num.small_len (aS x.last)).2;have t2:=(Num.small_len (aS x.off)).2;have t3:=(Num.small_len (aS x.len)).2;generalize Num.small (aS x.last)=y1 at*;generalize Num.small (aS x.off)=y2 at*;generalize Num.small (aS x.len)=y3 at*;generalize aS x.last=p1 at*;have hadd1:∀W,(Op.stringOp .add (bs y1) (bs y2)).run Tryz.prog W=.ok (.string (bs (y1++y2))) W:=fun W=>aJ (P:=Tryz.prog) y1 y2 (by omega) W;have hadd2:∀W,(Op.stringOp .add (bs (y1++y2)) (bs y3)).run Tryz.prog W=.ok (.string (bs (y1++y2++y3))) W:=fun W=>aJ (P:=Tryz.prog) (y1++y2) y3 (by rw[aG];omega) W;have HA2:=af (show (A++(y1++y2++y3))++di 2 SY x (E.drop (i+1))=HEAD by rw[HR2.out,<-HA.out];simp[List.append_assoc]);have qw:=af (fun W (hW:mX W w.heap.size m A SY (.slice sa SY.length sc) D n)=>cU w.heap.size w.heap.size A (y1++y2++y3) W hW.bld (by rw[aG,aG];omega) (by have:=hW.lo.2;omega));generalize y1++y2++y3=z3 at*;generalize y1++y2=z2 at*;have HMY:=af M;have HkH:=af kH;have HkX:=af kX;have Hb2:=af hb;clear HA ht2 M kH kX hb c0 c1 c2 c3 d0 d1 d2 d3 f0 f1 f2 f3;go_wp2_with fail
    refine kN ?_;iterate 3 (refine bH fun K hK=>?_;go_big_quiet_step (fail);refine hK _ ?_;clear hK K)
    (refine fP (f:=32) (args:=#[.int .u64 (p1:Int)]) (v:=.string (bs y1)) (fun W hW=>q1.out W) fun K hK=>?_;go_big_quiet_step (fail);refine hK _ ?_;clear hK K);iterate 2 (refine bH fun K hK=>?_;go_big_quiet_step (fail);refine hK _ ?_;clear hK K)
    (refine fP (f:=179) (args:=#[.int .i64 x.off]) (v:=.string (bs y2)) (fun W hW=>q2.out W) fun K hK=>?_;go_big_quiet_step (fail);refine hK _ ?_;clear hK K);iterate 3 (refine bH fun K hK=>?_;go_big_quiet_step (fail);refine hK _ ?_;clear hK K)
    (refine fP (f:=179) (args:=#[.int .i64 x.len]) (v:=.string (bs y3)) (fun W hW=>q3.out W) fun K hK=>?_;go_big_quiet_step (fail);refine hK _ ?_;clear hK K)
    (refine bH fun K hK=>?_;go_big_quiet_step (fail);refine hK _ ?_;clear hK K);refine eF ?_;intro w5 hb5;simp only[az];have b5:=Hb2.out.trans (Below.mono hb5 Hb2.out.size);have M5:=HMY.out.below hb5;have kH5:=ag.below HkH.out hb5 HkH.out.lt;have kX5:=ag.below HkX.out hb5 HkX.out.lt;clear g1 g2 g3 HMY HkH HkX Hb2;go_wp2_with fail
    refine(qw.out _ M5).mono ?_;rintro e w6 ⟨rfl,hB6,hk6⟩;have M6:=M5.write hB6 hk6;have kH6:=hk6.blk kH5 (by omega) (by decide);have kX6:=hk6.blk kX5 (by omega) (by decide);have b6:=b5.trans hk6.1;obtain⟨⟨c0,c1,c2,c3⟩,_⟩:=dw kX6;obtain⟨⟨d0,d1,d2,d3⟩,f0,f1,f2,f3⟩:=dw kH6;obtain⟨kH7,K7⟩:=IH kH6 (.slice a' x.labels.length c') (.int .i64 x.last) (.int .i64 x.off) (.int .i64 x.len);have HkH7:=af kH7;have HK7:=af K7;have HM6:=af M6;have HtH:=af (aN kH6);clear M5 kH5 kX5 b5 hB6 hk6 qw kH7 K7 M6 kH6 kX6;go_wp2_with fail
    go_roundw
    case rel=>
     have ht:=HtH.out;have hM6:=HM6.out;refine⟨i+1,_,x,_,by omega,by go_num,⟨mB hM6.bld HK7.out (by omega) (fun g e=>by subst e;rw[ht];simp),aw hM6.row HK7.out (fun b e e2=>?_),eM hM6.map HK7.out (fun e=>?_),hM6.lo.1,dU hM6.lo.2 HK7.out.size⟩,HkH7.out,⟨n1,n2,n3,n4,n5,n6⟩,b6.trans (HK7.out.below b6.size fun k e=>by omega),HA2⟩
     ·subst e2;rw[aX hM6.row e] at ht;simp at ht
     ·have h1:=jG hM6.map;rw[e,ht] at h1;simp at h1
    case measure=>simp[intOf];omega
  ·rw[List.drop_length,show di 2 SY ah []=[] from rfl,List.append_nil] at HA;obtain rfl:=HA.out;have Q:=af (fx _ _ _ _ M.bld hb.size);go_wp2_with fail
   refine Q.out.mono ?_;rintro e w3 ⟨rfl,hB3,hb3⟩;go_wp2_with fail
   go_ret;exact⟨by rw[HMO.out];rfl,hb.trans hb3⟩
end
section
open Go.RowKit Go.Maps Go.WideMaps Go.Shelf
attribute [local go_sem] am aq
attribute [local go_sem] Oper.semAt_some
def KB (n₀ n1 b:Nat)(W W':World):Prop:=Below n₀ W W'/\∀k o,k<n1->W.heap[k]?=some o->k≠b->(∀c fz,o≠.cells c 5 fz)->W'.heap[k]?=some o
theorem KB.t{n₀ n1 b:Nat}{A B C:World}(h:KB n₀ n1 b A B)(k:KB n₀ n1 b B C):KB n₀ n1 b A C:=⟨h.1.trans k.1,fun i o hi ho hb ht=>k.2 i o hi (h.2 i o hi ho hb ht) hb ht⟩
theorem KB.b{n₀ b:Nat}{w:World}(hn:n₀<=w.heap.size)(W:World)(l:Nat)(o o':Obj)(hl:w.heap.size<=l)(h:W.heap[l]?=some o)(h1:o.isCells=false)(h2:o.isWalk=false):KB n₀ w.heap.size b W (W.putObj l o'):=
 ⟨belowK_b hn W l o o' hl h h1 h2,fun k x hk hx _ _=>by rw[World.putObj_heap_other (by omega)];exact hx⟩
theorem KB.refl(n₀ n1 b:Nat)(W:World):KB n₀ n1 b W W:=⟨bQ,fun _ _ _ h _ _=>h⟩
theorem KB.of_below{n₀ n1 b:Nat}{W W':World}(h:Below W.heap.size W W')(hn:n₀<=W.heap.size):KB n₀ n1 b W W':=⟨h.mono hn,fun k _ _ ho _ _=>(h.block k (Array.getElem?_eq_some_iff.1 ho).1).trans ho⟩
theorem KB.blk{n₀ n1 b g:Nat}{t:TypeId}{cs:Array Value}{W W':World}(h:KB n₀ n1 b W W')(hk:ag W g t cs)(hg:g<n1)(hb:g≠b)(ht:t≠5):ag W' g t cs:=h.2 g _ hg hk hb (fun c fz e=>ht (by cases e;rfl))
theorem KB.row{n₀ n1 b base:Nat}{e:TypeId}{size n:Nat}{v:Value}{xs:List Value}{W W':World}(h:KB n₀ n1 b W W')(hr:W.ownsRow base e size v n xs)(hv:∀g,v.ownBlock=some g->g<n1/\g≠b)(ht:e≠5):W'.ownsRow base e size v n xs:=by
 refine⟨hr.1,?_⟩;rcases hr.2 with h2|⟨g,cap,cur,rfl,h3,h4,h5⟩
 ·exact .inl h2
 ·exact .inr ⟨g,cap,cur,rfl,h3,h.2 g _ (hv g rfl).1 h4 (hv g rfl).2 (fun c fz e2=>ht (by cases e2;rfl)),h5⟩
abbrev KE(w:World)(B:Nat)(S:List (Lb×Nat)):Type:={p:Lb×Value//kt p.1/\w.ownsInts (B+1) 3 .i64 p.2 (jL (cD S p.1))}
theorem Es{P:Program}{k t e:TypeId}{R:Value->Option (DataW Unit×List MemPlace)}{w w':World}{b:Nat}{es:Array MapEntry}{clock:Nat}{z v key:Value}{kl:Lit}(K:KeyLaw P k)(ht:P.underlying t=some (.map k e))(hz:∀u:World,(zeroValue e).run P u=.ok z u)(hb:w.heap[b]?=some (.map es clock))(F:WideElems.Fit P k R es clock)(hkey:keyOf P k key=some kl)
 (h:(Instr.lookup t (.map (some b)) key false).run P w=.ok v w) (hb':w'.heap[b]?=some (.map es clock)):(Instr.lookup t (.map (some b)) key false).run P w'=.ok v w':=by
 rcases Maps.fit_look false (Keyed.of_law K) ht (hz w) hb F hkey with⟨h1,h2,_⟩|⟨e0,y,m0,k0,h1,_,_,_⟩
 ·rw[h] at h1;have hv:v=z:=by simpa using h1
  rcases Maps.fit_look false (Keyed.of_law K) ht (hz w') hb' F hkey with⟨g1,_,_⟩|⟨e1,y1,m1,k1,g1,_,_,_⟩
  ·rw[g1,hv];rfl
  ·exact absurd k1 (h2 e1 m1)
 ·rw[h] at h1;have hv:v=e0.val:=by simpa using h1
  rcases Maps.fit_look false (Keyed.of_law K) ht (hz w') hb' F hkey with⟨g1,g2,_⟩|⟨e1,y1,m1,k1,g1,_,_,_⟩
  ·exact absurd k0 (g2 e0 m0)
  ·obtain⟨i,hi⟩:=List.getElem?_of_mem m0;obtain⟨j,hj⟩:=List.getElem?_of_mem m1;rw[g1,hv,(nX F hi hj (k0.trans k1.symm)).2];rfl
theorem Dj{L:List Lb}{k:Nat}(h:k<L.length):(L.flatMap eX)[k*2]?=some (.string (bs L[k].1))/\(L.flatMap eX)[k*2+1]?=some (.string (bs L[k].2)):=by
 have h1:=oY L (k*2) (by omega);have h2:=oY L (k*2+1) (by omega);rw[show k*2/2=k by omega,show k*2%2=0 by omega,List.getD_eq_getElem?_getD,aW h] at h1;rw[show (k*2+1)/2=k by omega,show (k*2+1)%2=1 by omega,List.getD_eq_getElem?_getD,aW h] at h2;exact⟨h1,h2⟩
theorem yP(n:Nat)(hn:1<=n)(b B n₀:Nat)(S:List (Lb×Nat))(L:List Lb)(kv:Value)(D:DataW Unit)(w:World)(hp:wm w B S L kv D)(hbB:b<B)(hn₀:n₀<=w.heap.size)(hok:∀y∈L,kt y)(hL:L.length<=1000000)(hS:S.length<maxLen):
 ∃XS:List (KE w B S),XS.map (fun p=>p.1.1)=L/\SeqStopsK Fence.wide n Tryz.prog 233 #[.pointer (some ⟨B+2,0,none⟩),.pointer (some ⟨B+1,0,none⟩)] (fun p:KE w B S=>#[.agg #[.string (bs p.1.1.1),.string (bs p.1.1.2)],p.1.2]) (KB n₀ w.heap.size b) (fun ys=>ys=XS) (fun _=>True) XS.length w:=by
 have hex:∀y∈L,∃v,w.ownsInts (B+1) 3 .i64 v (jL (cD S y))/\∀W,KB n₀ w.heap.size b w W->(Instr.lookup 303 (.map (some B)) (.agg #[.string (bs y.1),.string (bs y.2)]) false).run Tryz.prog W=.ok v W:=by
  intro y hy;obtain⟨v,zs,hlook,hat,hoi,hzl,_⟩:=hp.grp.at (Keyed.of_law zn) Tryz.underlying303 (Tryz.zeroValue57 _) hS (pK y (hok y hy));have hzs:=tW hoi (hat.symm.trans (hp.dict y (hok y hy)));subst hzs;obtain⟨es,clock,hb,F,_⟩:=hp.grp;have hBl:B<w.heap.size:=(Array.getElem?_eq_some_iff.1 hb).1;exact⟨v,hoi,fun W hW=>Es zn Tryz.underlying303 (fun u=>Tryz.zeroValue57 u) hb F (pK y (hok y hy)) hlook (hW.2 B _ hBl hb (by omega) (fun c fz e=>by cases e))⟩
 obtain⟨f,hf⟩:∃f:(y:Lb)->y∈L->Value,∀y hy,w.ownsInts (B+1) 3 .i64 (f y hy) (jL (cD S y))/\∀W,KB n₀ w.heap.size b w W->(Instr.lookup 303 (.map (some B)) (.agg #[.string (bs y.1),.string (bs y.2)]) false).run Tryz.prog W=.ok (f y hy) W:=⟨fun y hy=>Classical.choose (hex y hy),fun y hy=>Classical.choose_spec (hex y hy)⟩
 clear hex
 refine⟨L.attach.map fun y=>⟨(y.1,f y.1 y.2),hok y.1 y.2,(hf y.1 y.2).1⟩,by rw[List.map_map];exact List.attach_map_subtype_val L,?_⟩
 have HXL:∀k (hk:k<L.length),(L.attach.map fun y=>(⟨(y.1,f y.1 y.2),hok y.1 y.2,(hf y.1 y.2).1⟩:KE w B S))[k]?=some ⟨(L[k],f L[k] (dM hk)),hok _ (dM hk),(hf _ (dM hk)).1⟩:=fun k hk=>by
  rw[List.getElem?_map,List.getElem?_attach];simp[hk]
 have HLK:=af (fun k (hk:k<L.length)=>(hf L[k] (dM hk)).2)
 have hXlen:(L.attach.map fun y=>(⟨(y.1,f y.1 y.2),hok y.1 y.2,(hf y.1 y.2).1⟩:KE w B S)).length=L.length:=by simp
 have HXV:=af (fun k (hk:k<L.length)=>(hf L[k] (dM hk)).1)
 have HXS:=af HXL
 clear HXL
 generalize (L.attach.map fun y=>(⟨(y.1,f y.1 y.2),hok y.1 y.2,(hf y.1 y.2).1⟩:KE w B S))=XS at*
 intro l J Jx W hW hJ hJx hY h0
 have HJ:=af hJ
 have HY:=af hY
 clear hJ hJx hY
 have HP:=af hp
 have hkb0:KB n₀ w.heap.size b w W:=(KB.of_below hW hn₀)
 obtain⟨ka,kc,rfl⟩:=aH hp.row
 have cK:=(hW.cell (World.block_lt_of_cell? _ _ (ax hp.boxK 0 (.slice ka L.length kc) rfl))).trans (ax hp.boxK 0 (.slice ka L.length kc) rfl)
 have hlen:XS.length=L.length:=hXlen
 have h00:J (XS.take 0) W:=h0
 clear hp hXlen h0
 refine callsIn_of_wp Tryz.func233 rfl trivial ?_ rfl
 simp only[Tryz.ntmps233,List.size_toArray,de,List.length_nil,Nat.reduceAdd,Nat.reduceSub,Array.replicate_succ,Array.replicate_zero,List.push_toArray,List.append_toArray,List.nil_append,List.cons_append]
 gi_wp2
 gi_loopw [8] (fun vi wr=>∃k:Nat,k<=L.length/\vi=.int .i64 (k:Int)/\J (XS.take k) wr/\KB n₀ w.heap.size b w wr) (fun vi _=>L.length-(intOf vi).toNat)
 case atStart=>exact⟨0,Nat.zero_le _,rfl,h00,hkb0⟩
 case round=>
  clear h00 hkb0 hW cK;obtain⟨k,hk,rfl,hJs,hkb⟩:=hrel;by_cases hlt:k<L.length
  ·obtain⟨g,rfl⟩:∃g,ka=some ⟨g,0,none⟩:=by
    rcases HP.out.row.2 with⟨_,e⟩|⟨g,cap,cur,e,_⟩
    ·omega
    ·exact⟨g,(Value.slice.inj e).1⟩
   have hgb:=(HP.out.row.lt g rfl)
   have hrow:=hkb.row HP.out.row (fun g' hg'=>by obtain rfl:=aA hg';exact⟨hgb.2,by have h1:B<=g:=hgb.1;show g≠b;omega⟩) (by decide);have hcl:∀j u,(L.flatMap eX)[j]?=some u->wr.cell? ((⟨g,0,none⟩:Addr).add j)=some u:=hrow.cells (g:=g) rfl;have y0:=hcl (k*2) (.string (bs L[k].1)) (Dj hlt).1;have y1:=hcl (k*2+1) (.string (bs L[k].2)) (Dj hlt).2;rw[jY] at y0 y1;have hx:=HXS.out k hlt;have hlk:=HLK.out k hlt;have HJ2:=af (fun W2 (hg:wr.grownBy W2 none)=>HJ.out _ _ _ none hJs hg (fun r e=>by cases e));have bA:=ai wr (.cells #[.string (bs L[k].1),.string (bs L[k].2)] 73);have hnr:n₀<=wr.heap.size:=aK hn₀ hkb.1.size;have hkb2:=hkb.t (KB.of_below (n1:=w.heap.size) (b:=b) bA hnr);have hkb3:KB n₀ w.heap.size b w (wr.alloc (.cells #[.string (bs L[k].1),.string (bs L[k].2)] 73)).drew:=⟨hkb2.1.drew,hkb2.2⟩
   have hll:=hlk _ hkb3;have cA:=ax (hkb2.blk HP.out.boxA HP.out.boxA.lt (by omega) (by decide)) 0 (.map (some B)) rfl;have hgr:=World.grownBy_alloc wr (.cells #[.string (bs L[k].1),.string (bs L[k].2)] 73) none;have hj2:=HJ2.out (wr.alloc (.cells #[.string (bs L[k].1),.string (bs L[k].2)] 73)).drew ⟨hgr.os,hgr.tape,hgr.output,hgr.size,hgr.block⟩;obtain⟨fn,tmps,assign,body,hy,hR⟩:=HY.out _ ⟨(L[k],f L[k] (dM hlt)),hok _ (dM hlt),(hf _ (dM hlt)).1⟩ _ hj2 (by rw[dt];omega);dsimp only at hy;gi_wp2;have hR2:=hR.mono (fun e W' h=>(show ∃bb:Bool,e=.returned (.bool bb)/\Hid ((bb=true/\J _ W'/\KB n₀ w.heap.size b _ W')\/(bb=false/\Jx _ W')) from h.elim (fun h=>⟨true,h.1,af (.inl ⟨rfl,h.2⟩)⟩) (fun h=>⟨false,h.1,af (.inr ⟨rfl,h.2⟩)⟩)));clear hR hj2;gi_region_with (refine hR2.mono ?_;rintro e w3 ⟨bb,rfl,hh⟩)
   all_goals
    cases bb with
    |true=>
     obtain⟨_,hJ3,hk3⟩:=hh.out.resolve_right (fun h=>by cases h.1);have HKB:=af (hkb3.t hk3);have HX:=af hx;have HJ3:=af hJ3;clear hR2 hy hJ3 hkb3 hk3 hll hkb2 hkb hJs hx hlk hh;gi_wp2;go_roundw
     case rel=>
      refine⟨k+1,by omega,by go_num,?_,HKB.out⟩;rw[List.take_add_one,HX.out];exact HJ3.out
     case measure=>simp[intOf];omega
    |false=>
     obtain⟨_,hJx3⟩:=hh.out.resolve_left (fun h=>by cases h.1);clear hR2 hy hh;gi_wp2;refine bodyPost_ret (results_none rfl _ _ _) rfl ?_;exact⟨⟨_,rfl⟩,.inr ⟨_,hJx3⟩⟩
  ·obtain rfl:k=L.length:=by omega
   rw[<-hlen,List.take_length] at hJs;gi_wp2;go_end0
   exact⟨⟨_,rfl⟩,.inl ⟨_,rfl,hJs⟩⟩
end
end Go.Proofs.YtcdgfajdlaeodaaGreatDoor
