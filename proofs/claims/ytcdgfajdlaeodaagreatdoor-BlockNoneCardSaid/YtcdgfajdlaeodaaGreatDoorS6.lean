/- Part 6 of the proof: contracts of functions, and plain laws. -/
import Derived.Test.YtcdgfajdlaeodaaGreatDoorS5
import Derived.Laws.EntriesVeiled
import Derived.WideKeyEntry
import Derived.Maps.GroupsBeside
import Derived.Shelf.SlicesE.Clone
import Derived.Shelf.SlicesQ.Contains
import Derived.Shelf.SlSortCmp.NoneTotal
import Derived.Test.YtcdgfajdlaeodaaGreatDoorRows
import Derived.Lib.LaidTab
import Derived.Maps.Ext
set_option maxRecDepth 100000
set_option maxHeartbeats 4000000
namespace Go.Proofs.YtcdgfajdlaeodaaGreatDoor
section
open Go.RowKit
attribute [local go_sem] am aq
theorem qU{P:Program}{fn:Func}{p q u:Tmp}{ty tz:TypeId}(h:fn.results=#[.cell p ty,.cell q tz,.tmp u])(tmps:Array Value)(w:World)(g g':Nat)(tb tc:TypeId)(cs ds:Array Value)(d e:TypeDesc)
 (hp:tmps.getD p undef=.pointer (some ⟨g,0,none⟩)) (hg:ag w g tb cs) (hq:tmps.getD q undef=.pointer (some ⟨g',0,none⟩)) (hg':ag w g' tc ds)
 (hu:P.underlying ty=some d) (hd:(match d with|.struct _|.array _ _=>true|_=>false)=true) (hi:(P.info? ty).map (·.size)=some cs.size)
 (hu':P.underlying tz=some e) (hd':(match e with|.struct _|.array _ _=>true|_=>false)=true) (hi':(P.info? tz).map (·.size)=some ds.size):
 (results fn tmps).run P w=.ok (.tuple #[.agg cs,.agg ds,tmps.getD u undef]) w:=by
 have hp':tmps[p]?.getD undef=.pointer (some ⟨g,0,none⟩):=by simpa using hp
 have hq':tmps[q]?.getD undef=.pointer (some ⟨g',0,none⟩):=by simpa using hq
 simp[results,h,hp',hq',asAddr,run_loadVar_row w g tb ty cs (0,0) d hg hu hd hi,run_loadVar_row w g' tc tz ds (0,0) e hg' hu' hd' hi']
def JZ(w0:World)(g1 g2:Nat)(T1 T2:TypeId)(z1 c1 z2 c2:Array Value)(h1:ag w0 g1 T1 z1)(h2:ag w0 g2 T2 z2):fK where
 ph q w:=ak w0 w (fun k=>k=g1\/k=g2)/\ag w g1 T1 (if q=0 then z1 else c1)/\ag w g2 T2 (if q<=1 then z2 else c2)
 K _ _:=True
 w0:=w0
 start:=⟨ak.refl _ _,h1,h2⟩
 refl _:=trivial
 trans _ _:=trivial
 grow _:=trivial
 stay h k:=⟨h.1.trans (ak.of_below k),ag.below h.2.1 k h.2.1.lt,ag.below h.2.2 k h.2.2.lt⟩
theorem iz{w0:World}{g1 g2:Nat}{T1 T2:TypeId}{z1 c1 z2 c2:Array Value}{h1:ag w0 g1 T1 z1}{h2:ag w0 g2 T2 z2}{p:Addr}{v:Value}(hp:w0.cell? p=some v)(hn:p.block≠g1)(hm:p.block≠g2):∀x:PW (JZ w0 g1 g2 T1 T2 z1 c1 z2 c2 h1 h2),x.w.cell? p=some v:=fun x=>by
 obtain⟨q,hq⟩:=x.2;exact hq.1.cell hp fun e=>e.elim hn hm
def Fr (s:kt)(k:Int)(l:List Lb)(M:List Mr)(t tb:Int)(u:Nat)(g:Int):kt×Int×Int×List aO×List Rc:=
 if k=0 then((eP s l t u g).1,(eP s l t u g).2.1,(eP s l t u g).2.2.1,[],(eP s l t u g).2.2.2)
 else if k=1 then((eO s M t tb).1,(eO s M t tb).2.1,(eO s M t tb).2.2.1,[],(eO s M t tb).2.2.2)
 else if k=2 then((iX s t).1,(iX s t).2.1,(iX s t).2.2.1,[],(iX s t).2.2.2)
 else if k=3 then(s,(yx s.ser M t tb).1,0,(yx s.ser M t tb).2,[])
 else(s,1,0,[],[])
def KV (w:World)(r:kt×Int×Int×List aO×List Rc)(e:Ending)(w':World):Prop:=
 ∃v' av rv Z,e=.returned (.tuple #[.agg #[v',.int .i64 r.1.floor],.agg #[.int .i64 r.2.1,.int .i64 r.2.2.1,av],rv])/\aM w' v' r.1.ser/\aM w' av r.2.2.2.1/\
  w'.ownsRow w.heap.size 108 5 rv Z.length (aU Z)/\(∀z∈Z,aC w' z.2 z.1.labels)/\Z.map (fun z=>z.1)=r.2.2.2.2/\Below w.heap.size w w'
theorem KU(sv lv mv:Value)(S:List aO)(l:List Lb)(M:List Mr)(f kd t tb og ge:Int)(u:Nat)(w:World)(h:aM w sv S)(hl:aC w lv l)(hM:iG w mv M)
 (hb0:∀m∈M,m.name.length<=1048576/\m.value.length<=1048576) (hu:ew (t,u)) (hg: -9223372036854775808<=ge/\ge<=9223372036854775807) (hS:S.length<=1000) (hSs:∀x∈S,x.samples.length<=1000):
 Calls Tryz.prog 29 #[.agg #[sv,.int .i64 f],.agg #[.int .i64 kd,lv,mv,.int .i64 t,.int .i64 tb,.int .u64 (u:Int),.int .i64 og],.int .i64 ge] w (KV w (Fr ⟨S,f⟩ kd l M t tb u ge)):=by
 have HA:=af (show Fr ⟨S,f⟩ kd l M t tb u ge=if kd=0 then((eP ⟨S,f⟩ l t u ge).1,(eP ⟨S,f⟩ l t u ge).2.1,(eP ⟨S,f⟩ l t u ge).2.2.1,[],(eP ⟨S,f⟩ l t u ge).2.2.2)
  else if kd=1 then((eO ⟨S,f⟩ M t tb).1,(eO ⟨S,f⟩ M t tb).2.1,(eO ⟨S,f⟩ M t tb).2.2.1,[],(eO ⟨S,f⟩ M t tb).2.2.2)
  else if kd=2 then((iX ⟨S,f⟩ t).1,(iX ⟨S,f⟩ t).2.1,(iX ⟨S,f⟩ t).2.2.1,[],(iX ⟨S,f⟩ t).2.2.2)
  else if kd=3 then(⟨S,f⟩,(yx S M t tb).1,0,(yx S M t tb).2,[])
  else(⟨S,f⟩,1,0,[],[]) from rfl)
 obtain⟨va,vc,rfl,_⟩:=id h
 obtain⟨ra,rc,rfl,_⟩:=id hl
 obtain⟨ma,mc,rfl,_⟩:=id hM
 have b1:=ai w (.cells #[.slice va S.length vc,.int .i64 f] 49)
 have b2:=b1.alloc b1.size (.cells #[.int .i64 kd,.slice ra l.length rc,.slice ma M.length mc,.int .i64 t,.int .i64 tb,.int .u64 (u:Int),.int .i64 og] 69)
 have b3:=b2.alloc b2.size (.cells #[.slice none 0 0,.int .i64 0] 49)
 have b4:=b3.alloc b3.size (.cells #[.int .i64 0,.int .i64 0,.slice none 0 0] 62)
 have k1:=ag.new w 49 #[.slice va S.length vc,.int .i64 f]
 generalize hw1:w.alloc (.cells #[.slice va S.length vc,.int .i64 f] 49)=w1 at*
 have hz1:w1.heap.size=w.heap.size+1:=by rw[<-hw1,aW]
 have k2:=ag.new w1 69 #[.int .i64 kd,.slice ra l.length rc,.slice ma M.length mc,.int .i64 t,.int .i64 tb,.int .u64 (u:Int),.int .i64 og]
 have k1:=ag.alloc k1 (.cells #[.int .i64 kd,.slice ra l.length rc,.slice ma M.length mc,.int .i64 t,.int .i64 tb,.int .u64 (u:Int),.int .i64 og] 69)
 generalize hw2:w1.alloc (.cells #[.int .i64 kd,.slice ra l.length rc,.slice ma M.length mc,.int .i64 t,.int .i64 tb,.int .u64 (u:Int),.int .i64 og] 69)=w2 at*
 have hz2:w2.heap.size=w.heap.size+1+1:=by rw[<-hw2,aW,hz1]
 have k3:=ag.new w2 49 #[.slice none 0 0,.int .i64 0]
 have k1:=ag.alloc k1 (.cells #[.slice none 0 0,.int .i64 0] 49)
 have k2:=ag.alloc k2 (.cells #[.slice none 0 0,.int .i64 0] 49)
 generalize hw3:w2.alloc (.cells #[.slice none 0 0,.int .i64 0] 49)=w3 at*
 have hz3:w3.heap.size=w.heap.size+1+1+1:=by rw[<-hw3,aW,hz2]
 have k4:=ag.new w3 62 #[.int .i64 0,.int .i64 0,.slice none 0 0]
 have k1:=ag.alloc k1 (.cells #[.int .i64 0,.int .i64 0,.slice none 0 0] 62)
 have k2:=ag.alloc k2 (.cells #[.int .i64 0,.int .i64 0,.slice none 0 0] 62)
 have k3:=ag.alloc k3 (.cells #[.int .i64 0,.int .i64 0,.slice none 0 0] 62)
 rw[hz1] at k2
 rw[hz2] at k3
 rw[hz3] at k4
 generalize hw4:w3.alloc (.cells #[.int .i64 0,.int .i64 0,.slice none 0 0] 62)=w4 at*
 have hz4:w4.heap.size=w.heap.size+1+1+1+1:=by rw[<-hw4,aW,hz3]
 go_enter Tryz.func29,Tryz.ntmps29
 go_upto_region 1 with fail
 have y0:=ax k1 0 (.slice va S.length vc) rfl
 have y1:=ax k1 1 (.int .i64 f) rfl
 have z0:=ax k2 0 (.int .i64 kd) rfl
 have z1:=ax k2 1 (.slice ra l.length rc) rfl
 have z2:=ax k2 2 (.slice ma M.length mc) rfl
 have z3:=ax k2 3 (.int .i64 t) rfl
 have z4:=ax k2 4 (.int .i64 tb) rfl
 have z5:=ax k2 5 (.int .u64 (u:Int)) rfl
 have z6:=ax k2 6 (.int .i64 og) rfl
 have b5:=b4.alloc b4.size (.cells #[.slice va S.length vc,.int .i64 f,.int .i64 ge,.int .i64 kd,.slice ra l.length rc,.slice ma M.length mc,.int .i64 t,.int .i64 tb,.int .u64 (u:Int),.int .i64 og,.slice none 0 0] 158)
 have k5:=ag.new w4 158 (l4 (.slice va S.length vc) f (.int .i64 ge) kd (.slice ra l.length rc) (.slice ma M.length mc) t tb u og (.slice none 0 0))
 rw[hz4] at k5
 have k1':=ag.alloc k1 (.cells (l4 (.slice va S.length vc) f (.int .i64 ge) kd (.slice ra l.length rc) (.slice ma M.length mc) t tb u og (.slice none 0 0)) 158)
 have k2':=ag.alloc k2 (.cells (l4 (.slice va S.length vc) f (.int .i64 ge) kd (.slice ra l.length rc) (.slice ma M.length mc) t tb u og (.slice none 0 0)) 158)
 have k3':=ag.alloc k3 (.cells (l4 (.slice va S.length vc) f (.int .i64 ge) kd (.slice ra l.length rc) (.slice ma M.length mc) t tb u og (.slice none 0 0)) 158)
 have k4':=ag.alloc k4 (.cells (l4 (.slice va S.length vc) f (.int .i64 ge) kd (.slice ra l.length rc) (.slice ma M.length mc) t tb u og (.slice none 0 0)) 158)
 unfold l4 at k1' k2' k3' k4' k5
 clear k1 k2 k3 k4 b1 b2 b3 b4 hw1 hw2 hw3 hw4 hz1 hz2 hz3
 go_upto_region 3 with fail
 have hnb:w4.heap.size=w.heap.size+1+1+1+1:=hz4
 clear hz4 y0 y1 z0 z1 z2 z3 z4 z5 z6
 generalize hw5:w4.alloc _=w5 at*
 clear hw5
 have kz:=ax k2' 0 (.int .i64 kd) rfl
 have H:=af (And.intro h (And.intro hl (And.intro hM (And.intro hb0 (And.intro hu (And.intro hg (And.intro hS hSs)))))))
 have HK:=af (And.intro k1' (And.intro k3' (And.intro k4' k5)))
 have hy0:=ax k1' 0 (.slice va S.length vc) rfl
 have hy1:=ax k1' 1 (.int .i64 f) rfl
 clear h hl hM hb0 hu hg hS hSs k1' k2' k3' k4' k5
 go_upto_block 0 with fail
 go_cut [10] (fun s10 wx=>w5=wx/\∃fn,s10=.func (.func fn) #[.pointer (some ⟨w.heap.size+1+1+1+1,0,none⟩)] #[]/\(∀args W,(callFunc fn args).run Tryz.prog W=.ok (.enter fn args) W)/\
  Calls Tryz.prog fn #[.pointer (some ⟨w.heap.size+1+1+1+1,0,none⟩)] w5 (gI w5 (w.heap.size+1+1+1+1) ge kd (.slice ra l.length rc) (.slice ma M.length mc) t tb u og (Fr ⟨S,f⟩ kd l M t tb u ge).1 (Fr ⟨S,f⟩ kd l M t tb u ge).2.1 (Fr ⟨S,f⟩ kd l M t tb u ge).2.2.1 (Fr ⟨S,f⟩ kd l M t tb u ge).2.2.2.1 (Fr ⟨S,f⟩ kd l M t tb u ge).2.2.2.2))
 case first=>
  by_cases h0:kd=0
  ·have f0:(kd==0)=true:=by simpa using h0
   have h0:=af h0;go_wp2_with fail
   go_meet;refine⟨rfl,99,rfl,fun _ _=>rfl,?_⟩;rw[HA.out,if_pos h0.out];exact CR _ _ _ _ S l f ge kd t tb og u w5 HK.out.2.2.2 (H.out.1.below b5) (H.out.2.1.below b5) H.out.2.2.2.2.1 H.out.2.2.2.2.2.1 H.out.2.2.2.2.2.2.1 H.out.2.2.2.2.2.2.2
  have f0:(kd==0)=false:=by simpa using h0
  have h0:=af h0;by_cases h1:kd=1
  ·have f1:(kd==1)=true:=by simpa using h1
   have h1:=af h1;go_wp2_with fail
   go_meet;refine⟨rfl,100,rfl,fun _ _=>rfl,?_⟩;rw[HA.out,if_neg h0.out,if_pos h1.out];exact Cy _ _ _ _ S M f ge kd t tb og u w w5 HK.out.2.2.2 H.out.1 H.out.2.2.1 b5 (by omega) H.out.2.2.2.1
  have f1:(kd==1)=false:=by simpa using h1
  have h1:=af h1;by_cases h2:kd=2
  ·have f2:(kd==2)=true:=by simpa using h2
   have h2:=af h2;go_wp2_with fail
   go_meet;refine⟨rfl,101,rfl,fun _ _=>rfl,?_⟩;rw[HA.out,if_neg h0.out,if_neg h1.out,if_pos h2.out];exact Hm _ _ _ _ S f ge kd t tb og u w5 HK.out.2.2.2 (H.out.1.below b5) ⟨H.out.2.2.2.2.1.1,(show (0:Nat)<18446744073709551616 by decide)⟩ H.out.2.2.2.2.2.2.1 H.out.2.2.2.2.2.2.2
  have f2:(kd==2)=false:=by simpa using h2
  have h2:=af h2;by_cases h3:kd=3
  ·have f3:(kd==3)=true:=by simpa using h3
   have h3:=af h3;go_wp2_with fail
   go_meet;refine⟨rfl,102,rfl,fun _ _=>rfl,?_⟩;rw[HA.out,if_neg h0.out,if_neg h1.out,if_neg h2.out,if_pos h3.out];exact JO _ _ _ _ S M f ge kd t tb og u w5 HK.out.2.2.2 (H.out.1.below b5) (H.out.2.2.1.below b5) H.out.2.2.2.1
  have f3:(kd==3)=false:=by simpa using h3
  have h3:=af h3;have HZ:=af (show Fr ⟨S,f⟩ kd l M t tb u ge=(⟨S,f⟩,1,0,[],[]) by rw[HA.out,if_neg h0.out,if_neg h1.out,if_neg h2.out,if_neg h3.out]);obtain⟨k1,k3,k4,k5⟩:=HK.out;obtain⟨n8,s2,s3⟩:=iB b5 (by omega) k3 (.slice va S.length vc) f;have c4:=s3 _ _ (H.out.1.below b5);have hkk:ak w5 ((w5.setCell ⟨w.heap.size+1+1,0,none⟩ (.slice va S.length vc)).setCell ⟨w.heap.size+1+1,1,none⟩ (.int .i64 f)) (fun k=>k=w.heap.size+1+1):=(ak.of_grown (ap _ _ _ _) fun k e=>(az e).symm).trans (ak.of_grown (ap _ _ _ _) fun k e=>(az e).symm);have k4:=ag.keptK k4 hkk (show ¬(w.heap.size+1+1+1=w.heap.size+1+1) by omega);have kf0:=ag.frozen k3 0;have kf1:=ag.frozen k3 1;have kc0:=ax k3 0 (.slice none 0 0) rfl;have kc1:=ax k3 1 (.int .i64 0) rfl;have f0:=ag.frozen k4 0;have f1:=ag.frozen k4 1;have f2:=ag.frozen k4 2;have c0:=ax k4 0 (.int .i64 0) rfl;have c1:=ax k4 1 (.int .i64 0) rfl;have c2:=ax k4 2 (.slice none 0 0) rfl;obtain⟨n9,kA,kB⟩:=iL (ak.of_below (S:=fun _=>False) s2) (show w.heap.size<=w.heap.size+1+1+1 by omega) k4 (.int .i64 1) (.int .i64 0) (.slice none 0 0);have hs9:=c4.an k4 kB;have n8':=ag.keptK n8 kB (show ¬(w.heap.size+1+1=w.heap.size+1+1+1) by omega);have hBB:=kA.below (aF _) (fun _ e=>e.elim);clear s3 c4 k1 k3 k4 k5 hkk kA kB n8 s2;go_wp2_with fail
  refine bodyPost_ret (qU rfl _ _ (w.heap.size+1+1) (w.heap.size+1+1+1) 49 62 _ _ _ _ rfl n8' rfl n9 Tryz.underlying49 rfl (by kernel_rfl) Tryz.underlying62 rfl (by kernel_rfl)) rfl ?_;unfold KV;rw[HZ.out];exact⟨_,.slice none 0 0,.slice none 0 0,[],rfl,hs9,iu.nil _,eE,by simp,rfl,hBB⟩
 case rest=>
  obtain⟨rfl,fn,rfl,hcf,hq⟩:=hcut;obtain⟨k1,k3,k4,k5⟩:=HK.out;have Q:=af hq;obtain⟨⟨⟨S',f'⟩,er,nn,A,R⟩,hR⟩:∃p,Fr ⟨S,f⟩ kd l M t tb u ge=p:=⟨_,rfl⟩
  rw[hR] at Q;have HZ:=af hR;clear hq hR HA HK H kz hy0 hy1;go_wp2_with fail
  refine Q.out.mono ?_;rintro e w6 ⟨av,sv',rv,Z,rfl,hA,hs,G6,row,hlb,hZR,hk6⟩;have hA:aM w6 av A:=hA;have hs:aM w6 sv' S':=hs;obtain⟨aa,ac,rfl,_⟩:=id hA;obtain⟨ba,bc,rfl,_⟩:=id hs;obtain⟨ra',rc',rfl⟩:=aH row;have b7:=ai w6 (.cells #[.int .i64 er,.int .i64 nn,.slice aa A.length ac] 62);have k11:=ag.new w6 62 #[.int .i64 er,.int .i64 nn,.slice aa A.length ac];have B6:=b5.trans (hk6.below b5.size fun k e=>by omega);have k3:=ag.below (ag.keptK k3 hk6 (by omega)) b7 (ag.keptK k3 hk6 (by omega)).lt;have k4:=ag.below (ag.keptK k4 hk6 (by omega)) b7 (ag.keptK k4 hk6 (by omega)).lt;have G7:=ag.below G6 b7 G6.lt;have hG6:=G6.lt;have HF:=af (And.intro (hA.below b7) (And.intro (hs.below b7) (And.intro (aw row (ak.of_below (S:=fun _=>False) b7) (fun _ _ e=>e)) (And.intro (fun z hz=>(hlb z hz).below b7) (And.intro hZR (ay B6 b7))))));have hrl:=row.lt;have hw5s:w.heap.size+1+1+1+1<w5.heap.size:=k5.lt;clear Q hA hs G6 row hlb hZR hk6 k5 b5 B6 k1;go_upto_region 14 with fail
  generalize hW7:w6.alloc _=W7 at*;clear hW7;have p0:=iz (h1:=k3) (h2:=k4) (c1:=#[.slice ba S'.length bc,.int .i64 f']) (c2:=#[.int .i64 er,.int .i64 nn,.slice aa A.length ac]) (ax G7 0 (.slice ba S'.length bc) rfl) (show w.heap.size+1+1+1+1≠w.heap.size+1+1 by omega) (show w.heap.size+1+1+1+1≠w.heap.size+1+1+1 by omega);have p1:=iz (h1:=k3) (h2:=k4) (c1:=#[.slice ba S'.length bc,.int .i64 f']) (c2:=#[.int .i64 er,.int .i64 nn,.slice aa A.length ac]) (ax G7 1 (.int .i64 f') rfl) (show w.heap.size+1+1+1+1≠w.heap.size+1+1 by omega) (show w.heap.size+1+1+1+1≠w.heap.size+1+1+1 by omega);have p2:=iz (h1:=k3) (h2:=k4) (c1:=#[.slice ba S'.length bc,.int .i64 f']) (c2:=#[.int .i64 er,.int .i64 nn,.slice aa A.length ac]) (ax G7 10 (.slice ra' Z.length rc') rfl) (show w.heap.size+1+1+1+1≠w.heap.size+1+1 by omega) (show w.heap.size+1+1+1+1≠w.heap.size+1+1+1 by omega);have p3:=iz (h1:=k3) (h2:=k4) (c1:=#[.slice ba S'.length bc,.int .i64 f']) (c2:=#[.int .i64 er,.int .i64 nn,.slice aa A.length ac]) (ax k11 0 (.int .i64 er) rfl) (show w6.heap.size≠w.heap.size+1+1 by omega) (show w6.heap.size≠w.heap.size+1+1+1 by omega);have p4:=iz (h1:=k3) (h2:=k4) (c1:=#[.slice ba S'.length bc,.int .i64 f']) (c2:=#[.int .i64 er,.int .i64 nn,.slice aa A.length ac]) (ax k11 1 (.int .i64 nn) rfl) (show w6.heap.size≠w.heap.size+1+1 by omega) (show w6.heap.size≠w.heap.size+1+1+1 by omega);have p5:=iz (h1:=k3) (h2:=k4) (c1:=#[.slice ba S'.length bc,.int .i64 f']) (c2:=#[.int .i64 er,.int .i64 nn,.slice aa A.length ac]) (ax k11 2 (.slice aa A.length ac) rfl) (show w6.heap.size≠w.heap.size+1+1 by omega) (show w6.heap.size≠w.heap.size+1+1+1 by omega);refine dZ (JZ W7 (w.heap.size+1+1) (w.heap.size+1+1+1) 49 62 #[.slice none 0 0,.int .i64 0] #[.slice ba S'.length bc,.int .i64 f'] #[.int .i64 0,.int .i64 0,.slice none 0 0] #[.int .i64 er,.int .i64 nn,.slice aa A.length ac] k3 k4) [9,10] rfl (by kernel_rfl) (by kernel_rfl) (by kernel_rfl) (by kernel_rfl) ?_;iterate 9 (refine jY fun K hK=>?_;go_big_quiet_step (fail);refine hK _ ?_;clear hK K)
  refine i8 0 (by kernel_rfl) (by kernel_rfl) rfl (fun _ _ h=>by cases h) (by kernel_rfl) rfl (fun W hW=>?_) ?_
  ·obtain⟨h1,h2,h3⟩:=hW;have h2:ag W (w.heap.size+1+1) 49 #[.slice none 0 0,.int .i64 0]:=h2;have kf0:=ag.frozen h2 0;have kf1:=ag.frozen h2 1;have kc0:=ax h2 0 (.slice none 0 0) rfl;have kc1:=ax h2 1 (.int .i64 0) rfl;have hkk:ak W ((W.setCell ⟨w.heap.size+1+1,0,none⟩ (.slice ba S'.length bc)).setCell ⟨w.heap.size+1+1,1,none⟩ (.int .i64 f')) (fun k=>k=w.heap.size+1+1\/k=w.heap.size+1+1+1):=(ak.of_grown (ap _ _ _ _) fun k e=>.inl (az e).symm).trans (ak.of_grown (ap _ _ _ _) fun k e=>.inl (az e).symm);exact⟨_,by go_simp,trivial,h1.trans hkk,(ag.set_ h2 0 _).set_ 1 _,ag.far (ag.far h3 (p:=⟨w.heap.size+1+1,0,none⟩) (show w.heap.size+1+1+1≠w.heap.size+1+1 by omega) _) (p:=⟨w.heap.size+1+1,1,none⟩) (show w.heap.size+1+1+1≠w.heap.size+1+1 by omega) _⟩
  refine i8 1 (by kernel_rfl) (by kernel_rfl) rfl (fun _ _ h=>by cases h) (by kernel_rfl) rfl (fun W hW=>?_) ?_
  ·obtain⟨h1,h2,h3⟩:=hW;have h3:ag W (w.heap.size+1+1+1) 62 #[.int .i64 0,.int .i64 0,.slice none 0 0]:=h3;have f0:=ag.frozen h3 0;have f1:=ag.frozen h3 1;have f2:=ag.frozen h3 2;have c0:=ax h3 0 (.int .i64 0) rfl;have c1:=ax h3 1 (.int .i64 0) rfl;have c2:=ax h3 2 (.slice none 0 0) rfl;have hkk:ak W (((W.setCell ⟨w.heap.size+1+1+1,0,none⟩ (.int .i64 er)).setCell ⟨w.heap.size+1+1+1,1,none⟩ (.int .i64 nn)).setCell ⟨w.heap.size+1+1+1,2,none⟩ (.slice aa A.length ac)) (fun k=>k=w.heap.size+1+1\/k=w.heap.size+1+1+1):=((ak.of_grown (ap _ _ _ _) fun k e=>.inr (az e).symm).trans (ak.of_grown (ap _ _ _ _) fun k e=>.inr (az e).symm)).trans (ak.of_grown (ap _ _ _ _) fun k e=>.inr (az e).symm);exact⟨_,by go_simp,trivial,h1.trans hkk,ag.far (ag.far (ag.far h2 (p:=⟨w.heap.size+1+1+1,0,none⟩) (show w.heap.size+1+1≠w.heap.size+1+1+1 by omega) _) (p:=⟨w.heap.size+1+1+1,1,none⟩) (show w.heap.size+1+1≠w.heap.size+1+1+1 by omega) _) (p:=⟨w.heap.size+1+1+1,2,none⟩) (show w.heap.size+1+1≠w.heap.size+1+1+1 by omega) _,((ag.set_ h3 0 _).set_ 1 _).set_ 2 _⟩
  (refine jY fun K hK=>?_;go_big_quiet_step (fail);refine hK _ ?_;clear hK K);refine Dz ?_;rintro WE _ hp;obtain⟨hkE,n8,n9⟩:=hp;have n8:ag WE (w.heap.size+1+1) 49 #[.slice ba S'.length bc,.int .i64 f']:=n8;have n9:ag WE (w.heap.size+1+1+1) 62 #[.int .i64 er,.int .i64 nn,.slice aa A.length ac]:=n9;simp only[aB];clear p0 p1 p2 p3 p4 p5 G7 k11;go_wp2_with fail
  refine bodyPost_ret (qU rfl _ _ (w.heap.size+1+1) (w.heap.size+1+1+1) 49 62 _ _ _ _ rfl n8 rfl n9 Tryz.underlying49 rfl (by kernel_rfl) Tryz.underlying62 rfl (by kernel_rfl)) rfl ?_;unfold KV;rw[HZ.out];obtain⟨hA,hs,row,hlb,hZR,hB⟩:=HF.out;have hkm:ak W7 ((W7.setCell ⟨w.heap.size+1+1,0,none⟩ (.slice ba S'.length bc)).setCell ⟨w.heap.size+1+1,1,none⟩ (.int .i64 f')) (fun k=>k=w.heap.size+1+1):=(ak.of_grown (ap _ _ _ _) fun k e=>(az e).symm).trans (ak.of_grown (ap _ _ _ _) fun k e=>(az e).symm);have n8m:ag ((W7.setCell ⟨w.heap.size+1+1,0,none⟩ (.slice ba S'.length bc)).setCell ⟨w.heap.size+1+1,1,none⟩ (.int .i64 f')) (w.heap.size+1+1) 49 #[.slice ba S'.length bc,.int .i64 f']:=(ag.set_ k3 0 _).set_ 1 _;have k4m:=ag.keptK k4 hkm (show ¬(w.heap.size+1+1+1=w.heap.size+1+1) by omega);have hszm:((W7.setCell ⟨w.heap.size+1+1,0,none⟩ (.slice ba S'.length bc)).setCell ⟨w.heap.size+1+1,1,none⟩ (.int .i64 f')).heap.size=W7.heap.size:=by simp[World.setCell]
  have hkn:ak ((W7.setCell ⟨w.heap.size+1+1,0,none⟩ (.slice ba S'.length bc)).setCell ⟨w.heap.size+1+1,1,none⟩ (.int .i64 f')) WE (fun k=>k=w.heap.size+1+1+1):=
   ⟨hkE.os.trans hkm.os.symm,hkE.tape.trans hkm.tape.symm,hkE.output.trans hkm.output.symm,by rw[hszm];exact hkE.size,fun i hi hn=>by
    by_cases e:i=w.heap.size+1+1
    ·subst e
     exact n8.trans n8m.symm
    ·rw[hszm] at hi
     exact(hkE.block i hi fun e2=>e2.elim e hn).trans (hkm.block i hi e).symm⟩
  exact⟨_,_,_,Z,rfl,(hs.st k3 hkm).an k4m hkn,(hA.st k3 hkm).an k4m hkn,eJ (aw row hkE fun k hk e=>by have:=(hrl k hk).1;omega) (by omega),fun z hz=>((hlb z hz).st k3 hkm).an k4m hkn,hZR,hB.trans (hkE.below hB.size fun k e=>by omega)⟩
end
section
open Go Go.RowKit Go.Shelf Go.Maps
theorem Js(c:Nat)(h:c<4):IntKind.u64.wrap (IntKind.u64.wrap (2^(c+1))-2)=((2^(c+1)-2:Nat):Int):=by
 rcases(show c=0\/c=1\/c=2\/c=3 by omega) with rfl|rfl|rfl|rfl<;>rfl
theorem Kx(s:AK)(t:Int)(h:s.n≠0):sU s t=FA (dX s t):=by unfold sU;rw[if_neg h]
structure qy(w:World)(b:Nat)(L:List Bool)(g:Nat)(t:TypeId)(cs:Array Value)(W:World):Prop where
 wr:kq b L W
 bx:ag W g t cs
 bk:BK b b w W
theorem kq.far{b g i:Nat}{L:List Bool}{W:World}{t:TypeId}{cs:Array Value}{u:Value}(h:kq b L W)(k:ag W g t cs)(ht:t≠5)(hg:g≠b):kq b L (W.setCell ⟨g,i,none⟩ u):=by
 obtain⟨v,h1,h2⟩:=h;refine⟨v,ag.far h1 (by simpa using fun e=>hg e.symm) _,h2.kept (ap W g i u) ?_⟩;cases hv:v.ownBlock with
 |none=>exact .inl rfl
 |some x=>exact .inr fun e=>mP h2 k ht x hv (az e)
theorem qy.set{w W:World}{b g i:Nat}{L:List Bool}{t:TypeId}{cs:Array Value}{u:Value}(h:qy w b L g t cs W)(ht:t≠5)(hb:b<w.heap.size)(hg:w.heap.size<=g):qy w b L g t (cs.setIfInBounds i u) (W.setCell ⟨g,i,none⟩ u):=
 ⟨h.wr.far h.bx ht (by omega),ag.set_ h.bx i u,uE h.bk (Nat.le_of_lt hb) (ap W g i u) fun r e=>by cases e;exact hg⟩
theorem qy.below{w W W':World}{b g:Nat}{L:List Bool}{t:TypeId}{cs:Array Value}(h:qy w b L g t cs W)(hb:b<=w.heap.size)(k:Below W.heap.size W W'):qy w b L g t cs W':=
 ⟨h.wr.below k,ag.below h.bx k h.bx.lt,h.bk.trans (BK.of_below k (aK hb h.bk.1.size))⟩
theorem IF(b:Nat)(L:List Bool)(s:AK)(t:Int)(w:World)(h:kq b L w)(hL:L.length<=900000)(hn:s.n<=100000):
 Calls Tryz.prog 292 #[.pointer (some ⟨b,0,none⟩),uU s,.int .i64 t] w fun e w'=>e=.returned (uU (bG s t))/\kq b (L++sU s t) w'/\BK b b w w':=by
 have hb:b<w.heap.size:=h.elim fun _ h=>h.1.lt
 have k0:=ag.new w 359 (lY s)
 have k1:=ag.new (w.alloc (.cells (lY s) 359)) 359 #[.int .i64 0,.int .i64 0,.int .i64 0]
 have k0':=k0.alloc (.cells #[.int .i64 0,.int .i64 0,.int .i64 0] 359)
 have b1:=ai w (.cells (lY s) 359)
 have b2:=b1.alloc b1.size (.cells #[.int .i64 0,.int .i64 0,.int .i64 0] 359)
 rw[aW] at k1
 have h2:kq b L ((w.alloc (.cells (lY s) 359)).alloc (.cells #[.int .i64 0,.int .i64 0,.int .i64 0] 359)):=h.below b2
 have x0:=ax k0' 0 (.int .i64 (s.n:Int)) rfl
 have x1:=ax k0' 1 (.int .i64 s.t) rfl
 have x2:=ax k0' 2 (.int .i64 s.d) rfl
 have hst:=af (gX s)
 have hqa:=af (fun W=>FK s t (by omega) W)
 by_cases h0:s.n=0
 ·have f1:((s.n:Int)==0)=true:=by rw[h0];rfl
  have HB:=af (show sU s t=bH (aS t) 64 by unfold sU;rw[if_pos h0]);have hu:=dF t;have hq:=af (fun W hW=>eD b L (aS t) 64 W hW (gy t) (by omega) (by omega));clear h0 h;rw[hst.out] at hqa⊢;unfold lY at*;go_enter Tryz.func292,Tryz.ntmps292
  go_wp2_with fail
  refine(hq.out _ h2).mono ?_;rintro e w3 ⟨rfl,h3,c3⟩;have r0:=c3.blk k0' (by omega) (by decide);have r1:=c3.blk k1 (by omega) (by decide);have c3':=(BK.of_below b2 (Nat.le_of_lt hb)).trans c3;clear k0 k1 k0' b1 b2 h2 c3 x0 x1 x2 hq;have x0:=ax r0 0 (.int .i64 (s.n:Int)) rfl;have x1:=ax r0 1 (.int .i64 s.t) rfl;have x2:=ax r0 2 (.int .i64 s.d) rfl;go_wp2_with fail
  refine(hqa.out _).mono ?_;rintro e w9 ⟨rfl,hb9⟩;have P:=(qy.mk h3 r1 c3').below (Nat.le_of_lt hb) hb9;have z0:=ag.frozen P.bx 0;have z1:=ag.frozen P.bx 1;have z2:=ag.frozen P.bx 2;have g0:=ax P.bx 0 (.int .i64 0) rfl;have g1:=ax P.bx 1 (.int .i64 0) rfl;have g2:=ax P.bx 2 (.int .i64 0) rfl;rw[gX];unfold lY;clear r0 r1 c3' h3 x0 x1 x2 hb9;go_wp2_with fail
  have P3:=((P.set (i:=0) (u:=.int .i64 ((bG s t).n:Int)) (by decide) hb (by omega)).set (i:=1) (u:=.int .i64 (bG s t).t) (by decide) hb (by omega)).set (i:=2) (u:=.int .i64 (bG s t).d) (by decide) hb (by omega);refine bodyPost_ret (results_cell_row rfl _ _ (w.heap.size+1) 359 (lY (bG s t)) (0,0) _ rfl P3.bx Tryz.underlying359 rfl (by kernel_rfl)) rfl ?_;exact⟨by rw[gX],by rw[HB.out];exact P3.wr,P3.bk⟩
 ·have f1:((s.n:Int)==0)=false:=by simp;omega
  have HB0:=Kx s t h0;have hqc:=af (fun W=>CD s t W);have hqo:=af (fun W=>JL (dX s t) W);have hql:=af rF;have hcl:=pH (dX s t);have HBC:=af (show FA (dX s t)=_ from rfl);have hib:=af (show dX s t=dH (dH (t-s.t)-s.d) from rfl);have hcr:=su (dH (t-s.t)-s.d);rw[<-hib.out] at hcr;have HIN:=af (fun hi:fe (dX s t)<4=>vD (c:=dX s t) rfl hi);unfold FA at HBC;obtain⟨c,hc⟩:∃z,dX s t=z:=⟨_,rfl⟩
  rw[hc] at HB0 hqc hqo hcl hcr HIN;clear hib;obtain⟨i,hi⟩:∃z,fe c=z:=⟨_,rfl⟩
  rw[hi] at hqo hcl HIN;have HB:Hid (sU s t=if i=4 then bH 15 4++bH (aS c) 64 else bH (2^(i+1)-2) (i+1)++bH (aS (c-gY i)) (kZ i)):=af (by rw[HB0,<-hi];rfl);clear h0 h HB0 HBC hc hi;rw[hst.out] at hqa hqc⊢;unfold lY at*;go_enter Tryz.func292,Tryz.ntmps292
  go_wp2_with fail
  refine(hqc.out _).mono ?_;rintro e w3 ⟨rfl,hb3⟩;have h3:=h2.below hb3;have r0:=k0'.below hb3 k0'.lt;have r1:=k1.below hb3 k1.lt;have b3:=ay b2 hb3;clear k0 k1 k0' b1 b2 h2 hb3 x0 x1 x2 hqc;go_wp2_with fail
  refine(hqo.out _).mono ?_;rintro e w4 ⟨rfl,hb4⟩;go_wp2_with fail
  refine(hql.out _).mono ?_;rintro e w5 ⟨rfl,hb5⟩;have hb45:=ay hb4 hb5;have h5:=h3.below hb45;have r05:=r0.below hb45 r0.lt;have r15:=r1.below hb45 r1.lt;have b5:=ay b3 hb45;clear h3 r0 r1 b3 hb4 hb5 hb45 hqo hql;have k5:=ag.new w5 401 uy;have h6:=h5.below (ai w5 (.cells uy 401));have r06:=r05.alloc (.cells uy 401);have r16:=r15.alloc (.cells uy 401);have b6:=b5.alloc b5.size (.cells uy 401);have hlt5:w.heap.size+1<w5.heap.size:=r15.lt;unfold uy at*;clear h5 r05 r15 b5;by_cases h4:i=4
  ·subst h4;have hu:=dF c;have hq1:=af (fun W hW=>eD b L 15 4 W hW (by omega) (by omega) (by omega));have hq2:=af (fun W hW=>eD b (L++bH 15 4) (aS c) 64 W hW (gy c) (by omega) (by rw[aG,bN];omega));go_wp2_with fail
   refine(hq1.out _ h6).mono ?_;rintro e w7 ⟨rfl,h7,c7⟩;go_wp2_with fail
   refine(hq2.out _ h7).mono ?_;rintro e w8 ⟨rfl,h3,c8⟩;have r0:=c8.blk (c7.blk r06 (by omega) (by decide)) (by omega) (by decide);have r1:=c8.blk (c7.blk r16 (by omega) (by decide)) (by omega) (by decide);have c3':=((BK.of_below b6 (Nat.le_of_lt hb)).trans c7).trans c8;clear h6 h7 c7 c8 b6 k5 r06 r16 hq1 hq2;have x0:=ax r0 0 (.int .i64 (s.n:Int)) rfl;have x1:=ax r0 1 (.int .i64 s.t) rfl;have x2:=ax r0 2 (.int .i64 s.d) rfl;go_wp2_with fail
   refine(hqa.out _).mono ?_;rintro e w9 ⟨rfl,hb9⟩;have P:=(qy.mk h3 r1 c3').below (Nat.le_of_lt hb) hb9;have z0:=ag.frozen P.bx 0;have z1:=ag.frozen P.bx 1;have z2:=ag.frozen P.bx 2;have g0:=ax P.bx 0 (.int .i64 0) rfl;have g1:=ax P.bx 1 (.int .i64 0) rfl;have g2:=ax P.bx 2 (.int .i64 0) rfl;rw[gX];unfold lY;clear r0 r1 c3' h3 x0 x1 x2 hb9;go_wp2_with fail
   have P3:=((P.set (i:=0) (u:=.int .i64 ((bG s t).n:Int)) (by decide) hb (by omega)).set (i:=1) (u:=.int .i64 (bG s t).t) (by decide) hb (by omega)).set (i:=2) (u:=.int .i64 (bG s t).d) (by decide) hb (by omega);refine bodyPost_ret (results_cell_row rfl _ _ (w.heap.size+1) 359 (lY (bG s t)) (0,0) _ rfl P3.bx Tryz.underlying359 rfl (by kernel_rfl)) rfl ?_;exact⟨by rw[gX],by rw[HB.out,if_pos trivial,<-List.append_assoc];exact P3.wr,P3.bk⟩
  ·have hi4:i<4:=by omega
   have hin:=HIN.out hi4;have f2:((i:Int)==4)=false:=by simp;omega
   have hw1:IntKind.i64.wrap ((i:Int)+1)=((i+1:Nat):Int):=ct _ (by omega);have hps:=Js i hi4;have hlow:gY i<=0/\ -2047<=gY i:=by unfold gY;repeat' split;all_goals omega
   have hhi:oA i<=2048:=by unfold oA;repeat' split;all_goals omega
   have hws:IntKind.i64.wrap (c-gY i)=c-gY i:=ct _ (by omega);have hu:=dF (c-gY i);have hsz:kZ i<=64:=by rcases(show i=0\/i=1\/i=2\/i=3 by omega) with rfl|rfl|rfl|rfl<;>decide
   have hpl:(2:Nat)^(i+1)<=2^5:=Nat.pow_le_pow_right (by decide) (by omega);have hq1:=af (fun W hW=>eD b L (2^(i+1)-2) (i+1) W hW (by omega) (by omega) (by omega));have hq2:=af (fun W hW=>eD b (L++bH (2^(i+1)-2) (i+1)) (aS (c-gY i)) (kZ i) W hW (gy _) hsz (by rw[aG,bN];omega));have HI:=af (fun k (hk:k<12)=>hk);have e1:#[Value.int .i64 0,.int .i64 0,.int .i64 0,.int .i64 (-63),.int .i64 64,.int .i64 7,.int .i64 (-255),.int .i64 256,.int .i64 9,.int .i64 (-2047),.int .i64 2048,.int .i64 12][i*3]?=some (Value.int .i64 (gY i)):=by
    rcases(show i=0\/i=1\/i=2\/i=3 by omega) with rfl|rfl|rfl|rfl<;>rfl
   have e2:#[Value.int .i64 0,.int .i64 0,.int .i64 0,.int .i64 (-63),.int .i64 64,.int .i64 7,.int .i64 (-255),.int .i64 256,.int .i64 9,.int .i64 (-2047),.int .i64 2048,.int .i64 12][i*3+2]?=some (Value.int .i64 (kZ i:Int)):=by
    rcases(show i=0\/i=1\/i=2\/i=3 by omega) with rfl|rfl|rfl|rfl<;>rfl
   clear hin HIN hhi hlow hpl HI hcr;go_wp2_with fail
   refine(hq1.out _ h6).mono ?_;rintro e w7 ⟨rfl,h7,c7⟩;have k7:=c7.blk k5 (by omega) (by decide);have r07:=c7.blk r06 (by omega) (by decide);have r17:=c7.blk r16 (by omega) (by decide);have c7':=(BK.of_below b6 (Nat.le_of_lt hb)).trans c7;have y0:=aj ((ag.cell k7 (i*3)).trans e1);have y1:=aj ((ag.cell k7 (i*3+2)).trans e2);clear h6 c7 b6 k5 r06 r16 hq1 k7;go_wp2_with fail
   refine l6 ?_
   (try dsimp only);iterate 12 (refine bJ fun K hK=>?_;go_big_quiet_step (fail);refine hK _ ?_;clear hK K)
   refine eR ?_;intro w75 hb75;simp only[aB];have h75:=h7.below hb75;have r075:=r07.below hb75 r07.lt;have r175:=r17.below hb75 r17.lt;have c75:=c7'.trans (BK.of_below hb75 (aK (Nat.le_of_lt hb) c7'.1.size));clear y0 y1 h7 r07 r17 c7' hb75;go_wp2_with fail
   refine(hq2.out _ h75).mono ?_;rintro e w8 ⟨rfl,h3,c8⟩;have r0:=c8.blk r075 (by omega) (by decide);have r1:=c8.blk r175 (by omega) (by decide);have c3':=c75.trans c8;clear h75 c75 c8 r075 r175 hq2;have x0:=ax r0 0 (.int .i64 (s.n:Int)) rfl;have x1:=ax r0 1 (.int .i64 s.t) rfl;have x2:=ax r0 2 (.int .i64 s.d) rfl;go_wp2_with fail
   refine(hqa.out _).mono ?_;rintro e w9 ⟨rfl,hb9⟩;have P:=(qy.mk h3 r1 c3').below (Nat.le_of_lt hb) hb9;have z0:=ag.frozen P.bx 0;have z1:=ag.frozen P.bx 1;have z2:=ag.frozen P.bx 2;have g0:=ax P.bx 0 (.int .i64 0) rfl;have g1:=ax P.bx 1 (.int .i64 0) rfl;have g2:=ax P.bx 2 (.int .i64 0) rfl;rw[gX];unfold lY;clear r0 r1 c3' h3 x0 x1 x2 hb9;go_wp2_with fail
   have P3:=((P.set (i:=0) (u:=.int .i64 ((bG s t).n:Int)) (by decide) hb (by omega)).set (i:=1) (u:=.int .i64 (bG s t).t) (by decide) hb (by omega)).set (i:=2) (u:=.int .i64 (bG s t).d) (by decide) hb (by omega);refine bodyPost_ret (results_cell_row rfl _ _ (w.heap.size+1) 359 (lY (bG s t)) (0,0) _ rfl P3.bx Tryz.underlying359 rfl (by kernel_rfl)) rfl ?_;exact⟨by rw[gX],by rw[HB.out,if_neg h4,<-List.append_assoc];exact P3.wr,P3.bk⟩
end
section
open Go Go.RowKit Go.Shelf Go.Maps
attribute [local go_sem] am aq
theorem kq.lt{b:Nat}{L:List Bool}{W:World}(h:kq b L W):b<W.heap.size:=h.elim fun _ h=>h.1.lt
theorem cR{w W:World}{B g i:Nat}{u:Value}(h:Below B w W)(hg:B<=g):Below B w (W.setCell ⟨g,i,none⟩ u):=h.setCell (p:=⟨g,i,none⟩) hg u
theorem IG(v:Value)(L:List Int)(w:World)(h:uN w v L)(hL:L.length<=1000):Calls Tryz.prog 267 #[v] w fun e w'=>e=.returned (.string (bs (kV L)))/\Below w.heap.size w w':=by
 obtain⟨a,c,rfl,_,_,_,h5⟩:=h;obtain⟨N,hN⟩:∃N,L.length=N:=⟨_,rfl⟩
 rw[hN] at hL⊢;have HN:=af hN;have H5:=af h5;clear hN h5;have q:=af (nG w);go_enter Tryz.func267,Tryz.ntmps267
 go_wp2_with fail
 refine q.out.mono ?_;rintro e w1 ⟨rfl,h1,b1,hs1⟩;have h2:=h1.below (ai w1 (.cells #[.int .i64 0,.int .i64 0,.int .i64 0] 359));have k2:=ag.new w1 359 #[.int .i64 0,.int .i64 0,.int .i64 0];have b2:=b1.alloc b1.size (.cells #[.int .i64 0,.int .i64 0,.int .i64 0] 359);rw[hs1] at k2;clear q h1 b1;go_wp2_with fail
 generalize hw2:w1.alloc _=w2 at*;clear hw2 hs1;go_loopw [10] (fun i wr=>∃(j:Nat) (s:AK) (P:List Bool),j<=N/\i=.int .i64 (j:Int)/\kq w.heap.size P wr/\ag wr (w.heap.size+1) 359 (lY s)/\Below w.heap.size w wr/\s.n<=j/\P.length<=68*j/\Hid (ld ⟨0,0,0⟩ L=P++ld s (L.drop j))) (fun i _=>N-(intOf i).toNat)
 case atStart=>exact⟨0,⟨0,0,0⟩,[],Nat.zero_le _,rfl,h2,k2,b2,aF _,aF _,af rfl⟩
 case round=>
  clear h2 k2 b2;obtain⟨j,s,P,hj,rfl,hw,hk,hbl,hsn,hPl,HP⟩:=hrel;rcases(show j<N\/j=N by omega) with hjn|rfl
  ·have hjl:j<L.length:=by rw[HN.out];exact hjn
   obtain⟨g,o,rfl,hc⟩:=H5.out j L[j] (aV hjl);have hc2:=cu hbl hc;have HP2:=af (show ld ⟨0,0,0⟩ L=(P++sU s L[j])++ld (bG s L[j]) (L.drop (j+1)) by rw[HP.out,List.append_assoc,List.drop_eq_getElem_cons hjl];rfl);have hbl2:=yV s L[j];generalize L[j]=t at*;have hq:=af (IF w.heap.size P s t wr hw (by omega) (by omega));have hwl:=hw.lt;rw[gX] at hq;have HC:=af (show (bG s t).n<=j+1 by unfold bG;split<;>simp;omega);have y0:=ax hk 0 (.int .i64 (s.n:Int)) rfl;have y1:=ax hk 1 (.int .i64 s.t) rfl;have y2:=ax hk 2 (.int .i64 s.d) rfl;unfold lY at hq hk;clear hjl hc hw HP;go_wp2_with fail
   refine hq.out.mono ?_;rintro e w5 ⟨rfl,h5,k5⟩;have r5:=k5.blk hk (by omega) (by decide);have b5:=hbl.trans k5.1;clear hq y0 y1 y2 hc2 hk hbl k5;have f0:=ag.frozen r5 0;have f1:=ag.frozen r5 1;have f2:=ag.frozen r5 2;have g0:=ax r5 0 (.int .i64 (s.n:Int)) rfl;have g1:=ax r5 1 (.int .i64 s.t) rfl;have g2:=ax r5 2 (.int .i64 s.d) rfl;have hw1:IntKind.i64.wrap ((j:Int)+1)=(j:Int)+1:=ct _ (by omega);rw[gX];unfold lY;go_wp2_with fail
   have r6:=((r5.set_ 0 (.int .i64 ((bG s t).n:Int))).set_ 1 (.int .i64 (bG s t).t)).set_ 2 (.int .i64 (bG s t).d);have h6:=((h5.far (i:=0) (u:=.int .i64 ((bG s t).n:Int)) r5 (by decide) (by omega)).far (i:=1) (u:=.int .i64 (bG s t).t) (r5.set_ 0 _) (by decide) (by omega)).far (i:=2) (u:=.int .i64 (bG s t).d) ((r5.set_ 0 _).set_ 1 _) (by decide) (by omega);have b6:=cR (i:=2) (u:=.int .i64 (bG s t).d) (cR (i:=1) (u:=.int .i64 (bG s t).t) (cR (i:=0) (u:=.int .i64 ((bG s t).n:Int)) b5 (show w.heap.size<=w.heap.size+1 by omega)) (show w.heap.size<=w.heap.size+1 by omega)) (show w.heap.size<=w.heap.size+1 by omega);clear f0 f1 f2 g0 g1 g2 r5 h5 b5;go_roundw
   case rel=>exact⟨j+1,bG s t,P++sU s t,hjn,by go_num,h6,r6,b6,HC.out,by rw[aG];omega,HP2⟩
   case measure=>simp[intOf];omega
  ·have hq:=af (uH w.heap.size P wr hw);have HE:=af (show ed P=kV L by
    unfold kV
    rw[HP.out,List.drop_of_length_le (by rw[HN.out];exact aF _)]
    simp[ld])
   clear HP H5 hk hw;go_wp2_with fail
   refine bL hq.out fun w5 rfl=>?_;go_wp2_with fail
   go_ret;exact⟨by rw[<-HE.out];rfl,hbl⟩
end
section
open Go Go.RowKit Go.Shelf Go.Maps
theorem Bq(p:Option Int)(L:List cH)(j:Nat)(hj:j<L.length):nL p (L.drop j)=((match p with|none=>true|some t=>decide (t<L[j].1))&&nL (some L[j].1) (L.drop (j+1))):=by
 rw[List.drop_eq_getElem_cons hj];rfl
def qX(L:List cH)(j:Nat):Option Int:=match j with
 |0=>none
 |k+1=>(L[k]?).map fun x=>x.1
theorem lF(v:Value)(L:List cH)(w:World)(h:aI w v L):Calls Tryz.prog 62 #[v] w fun e w'=>e=.returned (.bool (dh L))/\Below w.heap.size w w':=by
 obtain⟨a,c,rfl,_,hl0,_,h5⟩:=h;obtain⟨N,hN⟩:∃N,L.length=N:=⟨_,rfl⟩
 rw[hN] at hl0⊢;have HN:=af hN;have H5:=af h5;clear hN h5;go_enter Tryz.func62,Tryz.ntmps62
 go_wp2_with fail
 go_loopw [6] (fun i wr=>∃j:Nat,j<=N/\i=.int .i64 (j:Int)/\Below w.heap.size w wr/\Hid (dh L=nL (qX L j) (L.drop j))) (fun i _=>N-(intOf i).toNat)
 case atStart=>exact⟨0,Nat.zero_le _,rfl,bR,af rfl⟩
 case round=>
  obtain⟨j,hj,rfl,hbl,HJ⟩:=hrel;rcases(show j<N\/j=N by omega) with hjn|rfl
  ·have hjl:j<L.length:=by rw[HN.out];exact hjn
   have hj9:IntKind.i64.wrap ((j:Int)+1)=(j:Int)+1:=ct _ (by omega);have HS:=af (HJ.out.trans (Bq (qX L j) L j hjl));have HP:=af (show qX L (j+1)=some L[j].1 by show (L[j]?).map _=_;rw[aV hjl];rfl);by_cases h0:j=0
   ·have f1:decide ((0:Int)<(j:Int))=false:=decide_eq_false (by omega);have f1':decide (0<j)=false:=decide_eq_false (by omega);have hpn:qX L j=none:=by rw[h0];rfl
    have HR:=af (show dh L=nL (qX L (j+1)) (L.drop (j+1)) by rw[HS.out,HP.out,hpn];rfl);clear hpn;clear HJ HS HP h0;go_wp2_with fail
    refine dY ?_
    (try dsimp only);iterate 3 (refine bJ fun K hK=>?_;go_big_quiet_step (fail);refine hK _ ?_;clear hK K)
    iterate 12 (refine Du fun K hK=>?_;go_big_quiet_step (fail);refine hK _ ?_;clear hK K)
    iterate 1 (refine bJ fun K hK=>?_;go_big_quiet_step (fail);refine hK _ ?_;clear hK K)
    refine eR ?_;intro w5 hb5;simp only[aB];have b5:=ay hbl hb5;go_wp2_with fail
    go_roundw
    case rel=>exact⟨j+1,by omega,by go_num,b5,HR⟩
    case measure=>simp[intOf];omega
   ·have f1:decide ((0:Int)<(j:Int))=true:=decide_eq_true (by omega);have f1':decide (0<j)=true:=decide_eq_true (by omega);obtain⟨k,hk⟩:∃k,k+1=j:=⟨j-1,by omega⟩
    have hkl:k<L.length:=by omega
    have hk9:IntKind.i64.wrap ((j:Int)-1)=(k:Int):=(ct _ (by omega)).trans (by omega);obtain⟨g,o,rfl,hx1⟩:=H5.out j L[j] (aV hjl);obtain⟨g2,o2,e2,hx2⟩:=H5.out k L[k] (aV hkl);obtain⟨rfl,rfl⟩:g=g2/\o=o2:=by injection e2 with e3;injection e3 with e4 e5;exact⟨e4,e5⟩
    have y1:=aj (cu hbl hx1.2.1);have y2:=aj (cu hbl hx2.2.1);have HQ:=af (show qX L j=some L[k].1 by subst hk;unfold qX;simp only[];rw[aV hkl];rfl);generalize L[k].1=tk at*;generalize L[j].1=tj at*;clear hx1 hx2 e2 hjl hkl;have hkN:k<N:=by omega
    by_cases hlt:tk<tj
    ·have f2:decide (tj<=tk)=false:=decide_eq_false (by omega);have HR:=af (show dh L=nL (qX L (j+1)) (L.drop (j+1)) by rw[HS.out,HP.out,HQ.out];simp[hlt]);clear HJ HS HP HQ hlt hk h0;go_wp2_with fail
     refine dY ?_
     (try dsimp only);iterate 16 (refine bJ fun K hK=>?_;go_big_quiet_step (fail);refine hK _ ?_;clear hK K)
     refine eR ?_;intro w5 hb5;simp only[aB];have b5:=ay hbl hb5;clear y1 y2;go_wp2_with fail
     go_roundw
     case rel=>exact⟨j+1,by omega,by go_num,b5,HR⟩
     case measure=>simp[intOf];omega
    ·have f2:decide (tj<=tk)=true:=decide_eq_true (by omega);have HR:=af (show dh L=false by rw[HS.out,HQ.out];simp[hlt]);clear HJ HS HP HQ hlt hk h0;go_wp2_with fail
     refine dY ?_
     (try dsimp only);iterate 16 (refine bJ fun K hK=>?_;go_big_quiet_step (fail);refine hK _ ?_;clear hK K)
     refine eR ?_;intro w5 hb5;simp only[aB];have b5:=ay hbl hb5;clear y1 y2;go_wp2_with fail
     go_ret;exact⟨by rw[HR.out];rfl,b5⟩
  ·have HR:=af (show dh L=true by rw[HJ.out,List.drop_of_length_le (by rw[HN.out];exact aF _)];rfl);clear HJ H5;go_wp2_with fail
   go_ret;exact⟨by rw[HR.out];rfl,hbl⟩
def jG:Array Value:=#[.nilFunc,.nilFunc,.func (.func 217) #[] #[],.func (.func 218) #[] #[],.func (.func 219) #[] #[],.func (.func 220) #[] #[],.func (.func 221) #[] #[],.func (.func 222) #[] #[]]
theorem we(w:World):Calls Tryz.prog 170 #[] w fun e w'=>e=.returned (.agg jG)/\Below w.heap.size w w':=by
 go_enter Tryz.func170,Tryz.ntmps170
 go_wp2;refine bodyPost_ret (results_cell_row rfl _ _ w.heap.size 245 jG (0,0) _ rfl (ag.new _ _ _) Tryz.underlying245 rfl (by kernel_rfl)) rfl ?_;exact⟨rfl,ai _ _⟩
def xK (g:Nat):Nat:=if g=1 then 217 else if g=2 then 219 else 221
def xX (g:Nat):Nat:=if g=1 then 218 else if g=2 then 220 else 222
def H3(g:Nat):Array Value:=#[.func (.func (xK g)) #[] #[],.func (.func (xX g)) #[] #[]]
theorem wg(g:Nat)(h1:1<=g)(h3:g<=3)(w:World):Calls Tryz.prog 107 #[.int .i64 (g:Int)] w fun e w'=>e=.returned (.tuple #[.agg (H3 g),.bool true])/\Below w.heap.size w w':=by
 have qf:=af we;have r0:=ag.new w 177 #[.nilFunc,.nilFunc];have b0:=ai w (.cells #[.nilFunc,.nilFunc] 177);rcases(show g=1\/g=2\/g=3 by omega) with rfl|rfl|rfl
 ·go_enter Tryz.func107,Tryz.ntmps107
  go_wp2_with fail
  refine(qf.out _).mono ?_;rintro e w1 ⟨rfl,hb1⟩;have r1:=(r0.below hb1 r0.lt).alloc (.cells jG 245);have k1:=ag.new w1 245 jG;have b1:=(ay b0 hb1).alloc (ay b0 hb1).size (.cells jG 245);have z0:=ag.frozen r1 0;have z1:=ag.frozen r1 1;have g0:=ax r1 0 Value.nilFunc rfl;have g1:=ax r1 1 Value.nilFunc rfl;have y0:=ax k1 2 (.func (.func 217) #[] #[]) rfl;have y1:=ax k1 3 (.func (.func 218) #[] #[]) rfl;clear r0 b0 k1 qf;unfold jG at*;go_wp2_with fail
  refine i6 ((r1.set_ 0 _).set_ 1 _) Tryz.underlying177 ?_;exact⟨rfl,cR (cR b1 (aF _)) (aF _)⟩
 ·go_enter Tryz.func107,Tryz.ntmps107
  go_wp2_with fail
  refine(qf.out _).mono ?_;rintro e w1 ⟨rfl,hb1⟩;have r1:=(r0.below hb1 r0.lt).alloc (.cells jG 245);have k1:=ag.new w1 245 jG;have b1:=(ay b0 hb1).alloc (ay b0 hb1).size (.cells jG 245);have z0:=ag.frozen r1 0;have z1:=ag.frozen r1 1;have g0:=ax r1 0 Value.nilFunc rfl;have g1:=ax r1 1 Value.nilFunc rfl;have y0:=ax k1 4 (.func (.func 219) #[] #[]) rfl;have y1:=ax k1 5 (.func (.func 220) #[] #[]) rfl;clear r0 b0 k1 qf;unfold jG at*;go_wp2_with fail
  refine i6 ((r1.set_ 0 _).set_ 1 _) Tryz.underlying177 ?_;exact⟨rfl,cR (cR b1 (aF _)) (aF _)⟩
 ·go_enter Tryz.func107,Tryz.ntmps107
  go_wp2_with fail
  refine(qf.out _).mono ?_;rintro e w1 ⟨rfl,hb1⟩;have r1:=(r0.below hb1 r0.lt).alloc (.cells jG 245);have k1:=ag.new w1 245 jG;have b1:=(ay b0 hb1).alloc (ay b0 hb1).size (.cells jG 245);have z0:=ag.frozen r1 0;have z1:=ag.frozen r1 1;have g0:=ax r1 0 Value.nilFunc rfl;have g1:=ax r1 1 Value.nilFunc rfl;have y0:=ax k1 6 (.func (.func 221) #[] #[]) rfl;have y1:=ax k1 7 (.func (.func 222) #[] #[]) rfl;clear r0 b0 k1 qf;unfold jG at*;go_wp2_with fail
  refine i6 ((r1.set_ 0 _).set_ 1 _) Tryz.underlying177 ?_;exact⟨rfl,cR (cR b1 (aF _)) (aF _)⟩
theorem wi(g:Int)(h:g<1\/3<g)(w:World):Calls Tryz.prog 107 #[.int .i64 g] w fun e w'=>e=.returned (.tuple #[.agg #[.nilFunc,.nilFunc],.bool false])/\Below w.heap.size w w':=by
 have qf:=af we;have r0:=ag.new w 177 #[.nilFunc,.nilFunc];have b0:=ai w (.cells #[.nilFunc,.nilFunc] 177);by_cases h1:g<1
 ·have f1:decide (g<1)=true:=decide_eq_true h1;go_enter Tryz.func107,Tryz.ntmps107
  go_wp2_with fail
  refine(qf.out _).mono ?_;rintro e w1 ⟨rfl,hb1⟩;have r1:=(r0.below hb1 r0.lt).alloc (.cells jG 245);have k1:=ag.new w1 245 jG;have b1:=(ay b0 hb1).alloc (ay b0 hb1).size (.cells jG 245);have z0:=ag.frozen r1 0;have z1:=ag.frozen r1 1;have g0:=ax r1 0 Value.nilFunc rfl;have g1:=ax r1 1 Value.nilFunc rfl;clear r0 b0 k1 qf;unfold jG at*;go_wp2_with fail
  refine bodyPost_ret (mh rfl _ _ w.heap.size 177 #[.nilFunc,.nilFunc] _ rfl ((r1.set_ 0 _).set_ 1 _) Tryz.underlying177 rfl (by kernel_rfl)) rfl ?_;exact⟨rfl,cR (cR b1 (aF _)) (aF _)⟩
 ·have f1:decide (g<1)=false:=decide_eq_false h1;have f2:decide (4<=g)=true:=decide_eq_true (by omega);go_enter Tryz.func107,Tryz.ntmps107
  go_wp2_with fail
  refine(qf.out _).mono ?_;rintro e w1 ⟨rfl,hb1⟩;have r1:=(r0.below hb1 r0.lt).alloc (.cells jG 245);have k1:=ag.new w1 245 jG;have b1:=(ay b0 hb1).alloc (ay b0 hb1).size (.cells jG 245);have z0:=ag.frozen r1 0;have z1:=ag.frozen r1 1;have g0:=ax r1 0 Value.nilFunc rfl;have g1:=ax r1 1 Value.nilFunc rfl;clear r0 b0 k1 qf;unfold jG at*;go_wp2_with fail
  refine bodyPost_ret (mh rfl _ _ w.heap.size 177 #[.nilFunc,.nilFunc] _ rfl ((r1.set_ 0 _).set_ 1 _) Tryz.underlying177 rfl (by kernel_rfl)) rfl ?_;exact⟨rfl,cR (cR b1 (aF _)) (aF _)⟩
end
section
open Go.RowKit
attribute [local go_sem] am aq
theorem xF(x:aO)(f:Int)(h:(decide (bD x.labels=0)&&(decide (x.samples.length<=200)&&(dh x.samples&&decide (x.last<=1125899906842624))))=false):dJ x f=false:=by
 unfold dJ;rw[h];rfl
theorem Bt(x:aO)(f:Int)(h:(decide (bD x.labels=0)&&(decide (x.samples.length<=200)&&(dh x.samples&&decide (x.last<=1125899906842624))))=true)(hn:x.samples.length=0):dJ x f=decide (f<=x.last):=by
 obtain⟨l,s,b⟩:=x;obtain rfl:s=[]:=List.length_eq_zero_iff.1 hn;unfold dJ;rw[h];rfl
theorem zi(x:aO)(f:Int)(h:(decide (bD x.labels=0)&&(decide (x.samples.length<=200)&&(dh x.samples&&decide (x.last<=1125899906842624))))=true)(hn:0<x.samples.length):dJ x f=(decide (f<=x.samples[0].1)&&decide ((x.samples[x.samples.length-1]'(by omega)).1<=x.last)):=by
 obtain⟨l,s,b⟩:=x;cases s with
 |nil=>simp at hn
 |cons y s=>
  unfold dJ;rw[h];simp only[Bool.true_and,List.getLast_eq_getElem];rfl
theorem sY{w wr:World}{a:Option Addr}{n c:Nat}{L:List cH}(h:aI w (.slice a n c) L){i:Nat}(hi:i<L.length)(hb:Below w.heap.size w wr):∃g o,a=some ⟨g,o,none⟩/\wr.cell? ⟨g,o+i*2,none⟩=some (.int .i64 L[i].1)/\wr.cell? ⟨g,o+i*2+1,none⟩=some (.int .u64 (L[i].2:Int)):=by
 obtain⟨a',c',h1,_,_,_,h5⟩:=h;obtain⟨rfl,_,_⟩:=Value.slice.inj h1;obtain⟨g,o,e,h6⟩:=h5 i L[i] (aV hi);obtain⟨_,k2,k3⟩:=pw.below h6 hb;exact⟨g,o,e,k2,k3⟩
theorem Bs(sl sv:Value)(l:List Lb)(L:List cH)(b f:Int)(w:World)(hl:aC w sl l)(hs:aI w sv L):
 Calls Tryz.prog 82 #[.agg #[sl,sv,.int .i64 b],.int .i64 f] w fun e w'=>e=.returned (.bool (dJ ⟨l,L,b⟩ f))/\Below w.heap.size w w':=by
 have b1:=ai w (.cells #[sl,sv,.int .i64 b] 88)
 have k1:=ag.new w 88 #[sl,sv,.int .i64 b]
 have q1:=af (jj l sl _ (hl.below b1))
 have q2:=af (fun W (hb:Below w.heap.size w W)=>lF sv L W (hs.below hb))
 obtain⟨ra,rc,rfl,_⟩:=id hl
 obtain⟨sa,sc,rfl,_⟩:=id hs
 have H:=af hs
 have R1:=af (xF ⟨l,L,b⟩ f)
 have R2:=af (Bt ⟨l,L,b⟩ f)
 have R3:=af (zi ⟨l,L,b⟩ f)
 have hln:=hs.len
 obtain⟨c0,c1,c2⟩:=iV k1
 simp only at R1 R2 R3
 clear hl hs
 go_enter Tryz.func82,Tryz.ntmps82
 go_wp2_with fail
 generalize hW0:w.alloc _=W0 at*
 clear hW0
 refine bL q1.out fun w1 hb1=>?_
 have B1:=ay b1 hb1
 have m1:=ag.below k1 hb1 k1.lt
 obtain⟨c0,c1,c2⟩:=iV m1
 clear q1 hb1 k1 b1
 rcases oh l with hc|hc
 case inr=>
  have HZ:=af (R1.out (by rw[hc];rfl));rw[hc];clear R1 R2 R3 hc q2;go_wp2_with fail
  go_ret;exact⟨by rw[HZ.out];rfl,B1⟩
 rw[hc] at R1 R2 R3⊢
 by_cases h2:L.length<=200
 case neg=>
  have HZ:=af (R1.out (by rw[decide_eq_false h2];rfl));have h2i:((200:Int)<(L.length:Int)):=by omega
  clear R1 R2 R3 hc q2;go_wp2_with fail
  go_ret;exact⟨by rw[HZ.out];rfl,B1⟩
 rw[decide_eq_true h2] at R1 R2 R3
 have h2i:¬((200:Int)<(L.length:Int)):=by omega
 clear hc
 go_wp2_with fail
 refine(q2.out _ B1).mono ?_
 rintro e w2 ⟨rfl,hb2⟩
 have B2:=ay B1 hb2
 have m2:=ag.below m1 hb2 m1.lt
 obtain⟨c0,c1,c2⟩:=iV m2
 clear q2 hb2 m1
 cases hso:dh L with
 |false=>
  have HZ:=af (R1.out (by rw[hso];rfl));clear R1 R2 R3;go_wp2_with fail
  go_ret;exact⟨by rw[HZ.out];rfl,B2⟩
 |true=>
  rw[hso] at R1 R2 R3;clear hso;by_cases h4:b<=1125899906842624
  case neg=>
   have HZ:=af (R1.out (by rw[decide_eq_false h4];rfl));have h4i:((1125899906842624:Int)<b):=by omega
   clear R1 R2 R3;go_wp2_with fail
   go_ret;exact⟨by rw[HZ.out];rfl,B2⟩
  rw[decide_eq_true h4] at R1 R2 R3;have h4i:¬((1125899906842624:Int)<b):=by omega
  by_cases hn:L.length=0
  ·have HZ:=af (R2.out rfl hn);have hni:((L.length:Int)=0):=by omega
   have Hn:=af hn;clear R1 R2 R3 hn;go_wp2_with fail
   go_ret;exact⟨by rw[HZ.out];rfl,B2⟩
  ·have hp:0<L.length:=by omega
   have HZ:=af (R3.out rfl hp);have hni:¬((L.length:Int)=0):=by omega
   obtain⟨n',hn'⟩:∃n',n'=L.length-1:=⟨_,rfl⟩
   have hnl:n'<L.length:=by omega
   have HZ:=af (show dJ ⟨l,L,b⟩ f=(decide (f<=L[0].1)&&decide (L[n'].1<=b)) by rw[HZ.out];subst hn';rfl);obtain⟨g,o,rfl,d0,_⟩:=sY H.out hp B2;obtain⟨g',o',e,e0,_⟩:=sY H.out hnl B2;cases e;rw[Nat.zero_mul,Nat.add_zero] at d0;have hwr:IntKind.i64.wrap ((L.length:Int)-1)=(n':Int):=by rw[ct _ (by omega)];omega
   have hnli:(n':Int)<(L.length:Int):=by omega
   have hpi:(0:Int)<(L.length:Int):=by omega
   clear hn' hn;have g1:=aj c1;have gb:=aj c2;have gd:=aj d0;have ge:=aj e0;by_cases h5:f<=L[0].1
   ·have HQ:=af (show dJ ⟨l,L,b⟩ f=decide (L[n'].1<=b) by rw[HZ.out,decide_eq_true h5];rfl);clear R1 R2 R3 HZ;generalize L[0].1=x0 at*;generalize L[n'].1=x1 at*;go_wp2_with fail
    refine dY ?_;iterate 20 (refine bJ fun K hK=>?_;go_big_quiet_step (fail);refine hK _ ?_;clear hK K)
    refine eR ?_;intro w5 hb5;simp only[aB];go_wp2_with fail
    go_ret;exact⟨by rw[HQ.out];rfl,ay B2 hb5⟩
   ·have HQ:=af (show dJ ⟨l,L,b⟩ f=false by rw[HZ.out,decide_eq_false h5];rfl);clear R1 R2 R3 HZ;generalize L[0].1=x0 at*;have h6:x0<f:=by omega
    have h7:decide (f<=x0)=false:=decide_eq_false h5;go_wp2_with fail
    refine dY ?_;iterate 8 (refine bJ fun K hK=>?_;go_big_quiet_step (fail);refine hK _ ?_;clear hK K)
    iterate 10 (refine Du fun K hK=>?_;go_big_quiet_step (fail);refine hK _ ?_;clear hK K)
    iterate 2 (refine bJ fun K hK=>?_;go_big_quiet_step (fail);refine hK _ ?_;clear hK K)
    refine eR ?_;intro w5 hb5;simp only[aB];go_wp2_with fail
    go_ret;exact⟨by rw[HQ.out];rfl,ay B2 hb5⟩
theorem yz{α:Type}(p:α->Bool):∀S:List α,S.any p=decide (0<=dU (S.findIdx? p))
 |[]=>rfl
 |x::S=>by
  have ih:=yz p S;rw[List.any_cons,List.findIdx?_cons];cases hp:p x with
  |true=>simp[dU]
  |false=>
   rw[Bool.false_or,ih,if_neg (by decide)];cases S.findIdx? p with
   |none=>rfl
   |some i=>
    show decide (0<=(i:Int))=decide (0<=((i+1:Nat):Int));rw[decide_eq_true (by omega),decide_eq_true (by omega)]
def yB(f:Nat)(capt:Array Value)(p:Rc->Bool)(w:World):Prop:=∀(x:Rc) (sl:Value) (W:World),Below w.heap.size w W->KQ W x sl->
 Calls Tryz.prog f (#[.agg #[.int .i64 x.kind,sl,.int .i64 x.t,.int .i64 x.u,.int .u64 (x.v:Int)]]++capt) W fun e W'=>e=.returned (.bool (p x))/\Below W.heap.size W W'
theorem Hu(f:Nat)(capt:Array Value)(p:Rc->Bool)(v:Value)(S:List Rc)(w:World)(h:dw w v S)(hp:yB f capt p w)(hcf:∀args W,(callFunc f args).run Tryz.prog W=.ok (.enter f args) W):
 Calls Tryz.prog 133 #[v,.func (.func f) #[] capt] w fun e w'=>e=.returned (.int .i64 (dU (S.findIdx? p)))/\Below w.heap.size w w':=by
 obtain⟨a,c,rfl,hlen,hx⟩:=h
 have HX:=af hx
 have HP:=af hp
 clear hx hp
 obtain⟨N,hN⟩:∃N,S.length=N:=⟨_,rfl⟩
 have HN:=af hN
 rw[hN] at hlen⊢
 clear hN
 go_enter Tryz.func133,Tryz.ntmps133
 go_wp2_with fail
 go_loopw [5,8] (fun _ vi wr=>∃(i:Nat),i<=N/\vi=.int .i64 (i:Int)/\Below w.heap.size w wr/\Hid (S.findIdx? p=((S.drop i).findIdx? p).map (·+i))) (fun _ vi _=>N-(intOf vi).toNat)
 case atStart=>exact⟨0,Nat.zero_le _,rfl,bR,af (by rw[List.drop_zero];cases S.findIdx? p<;>rfl)⟩
 obtain⟨i,hi',rfl,hb,HJ⟩:=hrel
 rcases(show i<N\/i=N by omega) with hil|rfl
 ·have hiL:i<S.length:=by rw[HN.out];exact hil
  obtain⟨b,o,rfl,hser⟩:=HX.out i S[i] (aV hiL);obtain⟨hok,sl,d0,d1,h1,d2,d3,d4⟩:=rM.below hser hb;have q:=af (HP.out S[i] sl wr hb ⟨hok,h1⟩);rw[jd p S i hiL] at HJ;clear hser hok h1;generalize S[i]=y at*;clear hiL;obtain⟨bo,hbo⟩:∃bo,p y=bo:=⟨_,rfl⟩
  rw[hbo] at HJ q;clear hbo;have hw9:IntKind.i64.wrap ((i:Int)+1)=(i:Int)+1:=ct _ (by omega);go_wp2_with fail
  refine bL q.out fun w2 hb2=>?_;have B2:=ay hb hb2;clear q d0 d1 d2 d3 d4 hb hb2;cases bo with
  |true=>
   have HZ:=af (show dU (S.findIdx? p)=(i:Int) by rw[HJ.out];simp[dU]);clear HJ;go_wp2_with fail
   go_ret;exact⟨by rw[HZ.out];rfl,B2⟩
  |false=>
   have HZ:=af (show S.findIdx? p=((S.drop (i+1)).findIdx? p).map (·+(i+1)) by rw[HJ.out,if_neg (by decide)];cases (S.drop (i+1)).findIdx? p<;>simp[Nat.add_assoc,Nat.add_comm 1]);clear HJ;go_wp2_with fail
   go_roundw
   case rel=>exact⟨i+1,hil,by go_num,B2,HZ⟩
   case measure=>simp[intOf];omega
 ·have HZ:=af (show dU (S.findIdx? p)= -1 by rw[HJ.out,List.drop_of_length_le (by rw[HN.out];exact aF _)];rfl);clear HJ;go_wp2_with fail
  go_ret;exact⟨by rw[HZ.out];rfl,hb⟩
theorem Fz(f:Nat)(capt:Array Value)(p:aO->Bool)(v:Value)(S:List aO)(w:World)(h:aM w v S)(hp:jT f capt p w)(hcf:∀args W,(callFunc f args).run Tryz.prog W=.ok (.enter f args) W):
 Calls Tryz.prog 65 #[v,.func (.func f) #[] capt] w fun e w'=>e=.returned (.bool (S.any p))/\Below w.heap.size w w':=by
 have q:=af (mt f capt p v S w h hp hcf)
 have HA:=af (yz p S)
 generalize dU (S.findIdx? p)=k at*
 clear h hp hcf
 go_enter Tryz.func65,Tryz.ntmps65
 go_wp2_with fail
 refine bL q.out fun w1 hb=>?_
 go_wp2_with fail
 go_ret
 exact⟨by rw[HA.out];rfl,hb⟩
theorem Fy(f:Nat)(capt:Array Value)(p:Rc->Bool)(v:Value)(S:List Rc)(w:World)(h:dw w v S)(hp:yB f capt p w)(hcf:∀args W,(callFunc f args).run Tryz.prog W=.ok (.enter f args) W):
 Calls Tryz.prog 64 #[v,.func (.func f) #[] capt] w fun e w'=>e=.returned (.bool (S.any p))/\Below w.heap.size w w':=by
 have q:=af (Hu f capt p v S w h hp hcf)
 have HA:=af (yz p S)
 generalize dU (S.findIdx? p)=k at*
 clear h hp hcf
 go_enter Tryz.func64,Tryz.ntmps64
 go_wp2_with fail
 refine bL q.out fun w1 hb=>?_
 go_wp2_with fail
 go_ret
 exact⟨by rw[HA.out];rfl,hb⟩
end
section
open Go.RowKit Go.Maps Go.WideMaps Go.MapKept
attribute [local go_sem] am aq
theorem yk{T:TypeId}{w:World}{g:Nat}{sa:Option Addr}{c:Nat}{L:List Lb}(hB:ag w g T (List.replicate 12 (.string ⟨#[]⟩)).toArray)(hL:aC w (.slice sa L.length c) L)(h6:L.length<=6):
 ∃n w',(Builtin.copy_ #[65,65] 3 #[.slice (some ⟨g,0,none⟩) 6 6,.slice sa L.length c]).run Tryz.prog w=.ok (goInt n) w'/\ag w' g T (aQ (dD L)).toArray/\∀B w0,Below B w0 w->B<=g->Below B w0 w':=by
 have hp:aQ (dD L)=aQ L++List.replicate (12-L.length*2) (.string ⟨#[]⟩):=by
  unfold dD;rw[jt,oX];congr 2;omega
 cases sa with
 |none=>
  have h0:L=[]:=by
   obtain⟨a,c',he,_,hc⟩:=hL;cases he;cases L with
   |nil=>rfl
   |cons x l=>
    obtain⟨_,_,_,_,e,_⟩:=hc 0 x rfl;cases e
  subst h0;refine⟨0,w,me w _ _ _ 73 _ 6 6 c Tryz.underlying65 (by kernel_rfl),?_,fun _ _ h _=>h⟩;exact hB
 |some a=>
  have hm:Nat.min L.length 6=L.length:=Nat.min_eq_left h6;by_cases h0:L=[]
  ·subst h0;refine⟨0,_,dM w _ _ _ 73 g 0 6 6 a 0 c _ _ [] 2 0 Tryz.underlying65 (by kernel_rfl) hB rfl rfl (fun j v h=>by simp at h) (by simp) (by simp),?_,fun B w0 h hg=>below_setRow h hg _⟩;have:=setRow_heap w g _ (List.replicate 12 (Value.string ⟨#[]⟩)).toArray _ _ hB;exact this
  ·obtain⟨b,o,ha⟩:∃b o,a=⟨b,o,none⟩:=by
    obtain⟨a',c',he,_,hc⟩:=hL;cases he;cases L with
    |nil=>exact absurd rfl h0
    |cons x l=>
     obtain⟨_,_,b,o,e,_⟩:=hc 0 x rfl;exact⟨b,o,az e⟩
   subst ha;refine⟨L.length,_,dM w _ _ _ 73 g 0 6 6 _ L.length c _ _ (aQ L) 2 L.length Tryz.underlying65 (by kernel_rfl) hB hm.symm (ef L) (rk hL) (by rw[ef];simp;omega) (fun v hv=>?_),?_,fun B w0 h hg=>below_setRow h hg _⟩
   ·unfold aQ at hv;obtain⟨x,_,hx⟩:=List.mem_flatMap.1 hv;simp only[List.mem_cons,List.not_mem_nil,or_false] at hx;rcases hx with rfl|rfl<;>rfl
   ·have:=setRow_heap w g (List.replicate 12 (Value.string ⟨#[]⟩)).toArray (aQ (dD L)).toArray _ _ hB;rw[hp] at this⊢;have e:List.take 0 (List.replicate 12 (Value.string ⟨#[]⟩)).toArray.toList++aQ L++List.drop (0+(aQ L).length) (List.replicate 12 (Value.string ⟨#[]⟩)).toArray.toList=aQ L++List.replicate (12-L.length*2) (.string ⟨#[]⟩):=by
     rw[ef,List.toList_toArray,List.take_zero,List.nil_append,Nat.zero_add,List.drop_replicate]
    rw[e];exact this
section
variable {P:Program} {k e t:TypeId} {w:World} {b clock:Nat} {es:Array MapEntry} {key z:Value} {kl:Lit}
def cX(es:Array MapEntry)(clock:Nat)(key v:Value):Obj:=.map (es.push ⟨key,v,clock⟩) (clock+1)
theorem Af(K:KeyLaw P k)(hkey:keyOf P k key=some kl)(hk:∀x∈es.toList,∃l,keyOf P k x.key=some l)(hn:∀x∈es.toList,x.key≠key)(w:World):(Instr.findKey k key es.toList).run P w=.ok none w:=by
 rcases K.find w hkey es.toList hk with⟨h1,_⟩|⟨j,e0,_,h2,h3⟩
 ·exact h1
 ·exact absurd h3 (hn e0 (List.mem_of_getElem? h2))
theorem wo(K:KeyLaw P k)(hkey:keyOf P k key=some kl)(hk:∀x∈es.toList,∃l,keyOf P k x.key=some l)(hn:∀x∈es.toList,x.key≠key)(v:Value)(w:World):(Instr.findKey k key (es.push ⟨key,v,clock⟩).toList).run P w=.ok (some (es.size,v)) w:=by
 have hk':∀x∈(es.push ⟨key,v,clock⟩).toList,∃l,keyOf P k x.key=some l:=fun x hx=>by
  rw[Array.toList_push] at hx;rcases List.mem_append.1 hx with hx|hx
  ·exact hk x hx
  ·obtain rfl:=List.mem_singleton.1 hx;exact⟨kl,hkey⟩
 rcases K.find w hkey _ hk' with⟨_,h2⟩|⟨j,e0,h1,h2,h3⟩
 ·exact absurd rfl (h2 ⟨key,v,clock⟩ (by simp))
 ·rw[Array.toList_push] at h2;by_cases hj:j<es.toList.length
  ·rw[List.getElem?_append_left hj] at h2;exact absurd h3 (hn e0 (List.mem_of_getElem? h2))
  ·have hj2:=(List.getElem?_eq_some_iff.1 h2).1;simp at hj hj2;obtain rfl:j=es.size:=by omega
   simp at h2;subst h2;exact h1
theorem GW(K:KeyLaw P k)(ht:P.underlying t=some (.map k e))(hz:∀u:World,(zeroValue e).run P u=.ok z u)(hkey:keyOf P k key=some kl)(hk:∀x∈es.toList,∃l,keyOf P k x.key=some l)(hn:∀x∈es.toList,x.key≠key)(hb:w.heap[b]?=some (.map es clock)):
 (Instr.lookup t (.map (some b)) key false).run P w=.ok z w:=by
 simp[Instr.lookup,run_underlying ht,MapKept.run_getObj_map hb,K.check w _ hkey,Af K hkey hk hn w,hz,Result.andThen]
theorem EQ{c:Nat}(K:KeyLaw P k)(ht:P.underlying t=some (.map k e))(hkey:keyOf P k key=some kl)(hk:∀x∈es.toList,∃l,keyOf P k x.key=some l)(hn:∀x∈es.toList,x.key≠key)(hb:w.heap[b]?=some (.map (es.push ⟨key,z,clock⟩) c)):
 (Instr.lookup t (.map (some b)) key false).run P w=.ok z w:=by
 have h1:=wo (clock:=clock) K hkey hk hn z w
 simp only[Array.toList_push] at h1
 simp[Instr.lookup,run_underlying ht,MapKept.run_getObj_map hb,K.check w _ hkey,h1,Result.andThen]
theorem Fp(K:KeyLaw P k)(ht:P.underlying t=some (.map k e))(hz:∀u:World,(zeroValue e).run P u=.ok z u)(hkey:keyOf P k key=some kl)(hk:∀x∈es.toList,∃l,keyOf P k x.key=some l)(hn:∀x∈es.toList,x.key≠key)(hb:w.heap[b]?=some (.map es clock)):
 (Instr.mapEntry t (.map (some b)) key).run P w=.ok (.tuple #[z,goInt clock]) (Go.ChangeMaps.setBlock w b (cX es clock key z)):=by
 simp[Instr.mapEntry,cX,run_underlying ht,MapKept.run_getObj_map hb,K.check w false hkey,Af K hkey hk hn w,hz,MapKept.run_setObj_map _ hb,Result.andThen,Go.ChangeMaps.setBlock]
theorem Cu(K:KeyLaw P k)(ht:P.underlying t=some (.map k e))(hkey:keyOf P k key=some kl)(hk:∀x∈es.toList,∃l,keyOf P k x.key=some l)(hn:∀x∈es.toList,x.key≠key)(hb:w.heap[b]?=some (cX es clock key z)):
 (Instr.mapEntry t (.map (some b)) key).run P w=.ok (.tuple #[z,goInt clock]) (Go.ChangeMaps.setBlock w b (cX es clock key z)):=by
 unfold cX at hb
 have h1:=wo (clock:=clock) K hkey hk hn z w
 simp only[Array.toList_push] at h1
 have hsame:(es.push ⟨key,z,clock⟩).modify es.size (fun e=>{e with key:=key})=es.push ⟨key,z,clock⟩:=by
  apply Array.ext';rw[Array.toList_modify,Array.toList_push,<-Array.length_toList,Go.WideElems.modify_last]
 simp[Instr.mapEntry,cX,run_underlying ht,MapKept.run_getObj_map hb,K.check w false hkey,h1,hsame,K.stays w hkey,MapKept.run_setObj_map _ hb,Result.andThen,Go.ChangeMaps.setBlock]
theorem Bj{v:Value}(hs1:∀x∈es.toList,x.born<clock)(hs2:(es.toList.map (·.born)).Nodup)(hb:w.heap[b]?=some (cX es clock key z)):
 (Instr.entryStore t (.map (some b)) (goInt clock) v).run P w=.ok () (Go.ChangeMaps.setBlock w b (cX es clock key v)):=by
 unfold cX at hb
 have hidx:(es.push ⟨key,z,clock⟩).findIdx? (fun e=>((e.born:Nat):Int)==((clock:Nat):Int))=some es.size:=by
  rw[Go.WideElems.findIdx_arr];have:=Go.WideElems.findIdx_born (l:=(es.push ⟨key,z,clock⟩).toList) (j:=es.size) (e0:=⟨key,z,clock⟩) (by
   simp only[Array.toList_push,List.map_append,List.map_cons,List.map_nil]
   refine List.nodup_append.2 ⟨hs2,by simp,fun a ha c hc e1=>?_⟩
   simp only[List.mem_singleton] at hc
   obtain⟨x,hx,rfl⟩:=List.mem_map.1 ha
   have:=hs1 x hx
   omega) (by simp)
  exact this
 have hmod:(es.push ⟨key,z,clock⟩).modify es.size (fun e=>{e with val:=v})=es.push ⟨key,v,clock⟩:=by
  apply Array.ext';rw[Array.toList_modify,Array.toList_push,Array.toList_push,<-Array.length_toList,Go.WideElems.modify_last]
 simp[Instr.entryStore,cX,MapKept.run_getObj_map hb,asInt,asIntOf,goInt,hidx,hmod,MapKept.run_setObj_map _ hb,Result.andThen,Go.ChangeMaps.setBlock]
end
end
section
open Go Go.ChangeMaps Go.MapKept Go.ChangeShapes Go.RowKit Go.WideMaps
open Go.WideElems (Fit rd rg pl rd_val elemAt findIdx_arr findIdx_born modify_last set_self)
open Go.Maps (Keyed)
section
variable {H:Type} {P:Program} {w:World} {t k e:TypeId} {R:Value->Option (DataW H×List MemPlace)} {b:Nat} {es:Array MapEntry} {clock:Nat}
theorem nZ(F:Fit P k R es clock){i j:Nat}{x y:MapEntry}(h1:es.toList[i]?=some x)(h2:es.toList[j]?=some y)(hk:x.key=y.key):i=j/\x=y:=by
 have hn:es.toList.Pairwise (fun x y=>x.key≠y.key):=((stamped_iff es clock).1 F.stamped).2.2;obtain⟨hi,e1⟩:=List.getElem?_eq_some_iff.1 h1;obtain⟨hj,e2⟩:=List.getElem?_eq_some_iff.1 h2;rcases Nat.lt_trichotomy i j with h|h|h
 ·exact absurd (by rw[e1,e2];exact hk) (List.pairwise_iff_getElem.1 hn i j hi hj h)
 ·subst h;exact⟨rfl,e1.symm.trans e2⟩
 ·exact absurd (by rw[e1,e2];exact hk.symm) (List.pairwise_iff_getElem.1 hn j i hj hi h)
theorem Ea(K:KeyLaw P k)(ht:P.underlying t=some (.map k e))(F:Fit P k R es clock){key:Value}{kl:Lit}(hkey:keyOf P k key=some kl){val:Value}{es':Array MapEntry}{clock':Nat}(hb:w.heap[b]?=some (.map es clock))
 (h:(Instr.mapUpdate t (.map (some b)) key val).run P w=.ok () (setBlock w b (.map es' clock'))) {w':World} (hb':w'.heap[b]?=some (.map es clock)):(Instr.mapUpdate t (.map (some b)) key val).run P w'=.ok () (setBlock w' b (.map es' clock')):=by
 have hlt:b<w.heap.size:=(Array.getElem?_eq_some_iff.1 hb).1
 have hlt':b<w'.heap.size:=(Array.getElem?_eq_some_iff.1 hb').1
 have inj:∀{x y:Array MapEntry} {c d:Nat},setBlock w b (.map x c)=setBlock w b (.map y d)->x=y/\c=d:=fun {x y c d} h=>by
  have h1:(setBlock w b (.map x c)).heap[b]?=(setBlock w b (.map y d)).heap[b]?:=by rw[h]
  rw[heap_setBlock_same hb,heap_setBlock_same hb] at h1;have h2:=az h1;exact⟨(Obj.map.inj h2).1,(Obj.map.inj h2).2⟩
 rcases K.find w hkey es.toList F.keys with⟨h1,h2⟩|⟨j,e0,h1,h2,h3⟩
 ·rcases K.find w' hkey es.toList F.keys with⟨g1,_⟩|⟨j',e',_,g2,g3⟩
  ·have r1:(Instr.mapUpdate t (.map (some b)) key val).run P w=.ok () (setBlock w b (.map (es.push ⟨key,val,clock⟩) (clock+1))):=by
    simp[Instr.mapUpdate,run_underlying ht,MapKept.run_getObj_map hb,K.check w false hkey,h1,MapKept.run_setObj_map _ hb,Result.andThen,setBlock]
   have r2:(Instr.mapUpdate t (.map (some b)) key val).run P w'=.ok () (setBlock w' b (.map (es.push ⟨key,val,clock⟩) (clock+1))):=by
    simp[Instr.mapUpdate,run_underlying ht,MapKept.run_getObj_map hb',K.check w' false hkey,g1,MapKept.run_setObj_map _ hb',Result.andThen,setBlock]
   rw[r1] at h;obtain⟨rfl,rfl⟩:=inj (by simpa using h);exact r2
  ·exact absurd g3 (h2 e' (List.mem_of_getElem? g2))
 ·rcases K.find w' hkey es.toList F.keys with⟨_,g2⟩|⟨j',e',g1,g2,g3⟩
  ·exact absurd h3 (g2 e0 (List.mem_of_getElem? h2))
  ·obtain⟨rfl,rfl⟩:=nZ F h2 g2 (h3.trans g3.symm);have hj:es[j]?=some e0:=by simpa using h2
   have r1:(Instr.mapUpdate t (.map (some b)) key val).run P w=.ok () (setBlock w b (.map (es.modify j (fun e'=>{e' with key:=key,val:=val})) clock)):=by
    simp[Instr.mapUpdate,run_underlying ht,MapKept.run_getObj_map hb,K.check w false hkey,h1,hj,h3,K.stays w hkey,MapKept.run_setObj_map _ hb,Result.andThen,setBlock]
   have r2:(Instr.mapUpdate t (.map (some b)) key val).run P w'=.ok () (setBlock w' b (.map (es.modify j (fun e'=>{e' with key:=key,val:=val})) clock)):=by
    simp[Instr.mapUpdate,run_underlying ht,MapKept.run_getObj_map hb',K.check w' false hkey,g1,hj,h3,K.stays w' hkey,MapKept.run_setObj_map _ hb',Result.andThen,setBlock]
   rw[r1] at h;obtain⟨rfl,rfl⟩:=inj (by simpa using h);exact r2
theorem td(w:World)(b:Nat)(o p:Obj):setBlock (setBlock w b o) b p=setBlock w b p:=by simp[setBlock]
theorem ez{w:World}{b:Nat}{es:Array MapEntry}{clock:Nat}{o':Obj}(h:w.heap[b]?=some (.map es clock)):w.grownBy (setBlock w b o') (some b):=⟨rfl,rfl,rfl,by simp[setBlock],fun i _ hi=>heap_setBlock_other h _ (fun e1=>hi (by rw[e1]))⟩
variable {E:TypeId} {base n:Nat} {q:IntKind} {D:DataW H}
theorem xU{key:Value}{kl:Lit}(h:w.ownsGroups (H:=H) P k base e q b n D)(K:KeyLaw P k)(ht:P.underlying t=some (.map k E))(hz:∀u:World,(zeroValue E).run P u=.ok (.slice none 0 0) u)(hn:n<maxLen)(hkey:keyOf P k key=some kl):
 ∃v zs st w1,(Instr.mapEntry t (.map (some b)) key).run P w=.ok (.tuple #[v,goInt (st:Nat)]) w1/\w.grownBy w1 (some b)/\v.ownBlock≠some b/\D.atKey kl .nil=rowDatum q v zs/\w.ownsInts base e q v zs/\zs.length<=n/\
  ∀(w2:World) (v':Value) (zs':List Int),w1.grownBy w2 v.ownBlock->w2.ownsInts base e q v' zs'->zs'.length<=n+1->(v'.ownBlock=v.ownBlock\/∃g,v'.ownBlock=some g/\w.heap.size<=g)->
   ∃w3,(Instr.entryStore t (.map (some b)) (goInt st) v').run P w2=.ok () w3/\w3.ownsGroups P k base e q b (n+1) (D.put kl (rowDatum q v' zs'))/\w2.grownBy w3 (some b):=by
 obtain⟨v,zs,hrun,hat,ho,hl,hback⟩:=h.at (Keyed.of_law K) ht (hz w) hn hkey
 obtain⟨es,clock,hb,F,hs,hD,hbb,hlen,hap⟩:=h
 obtain⟨v0,st,es1,clock1,hE,hcase,hS⟩:=WideElems.entry_then_store K ht hz hb F hkey
 have hvb:v.ownBlock≠some b:=fun e1=>by
  have:=(ho.1.lt b e1).1;omega
 have hlt:b<w.heap.size:=(Array.getElem?_eq_some_iff.1 hb).1
 have hv0:v0=v:=by
  rcases Maps.fit_look false (Keyed.of_law K) ht (hz w) hb F hkey with⟨hrun',hne,_⟩|⟨e0,y,hm0,h3,hrun',_,_,_⟩
  ·rw[hrun] at hrun';have hvz:v=.slice none 0 0:=by simpa using hrun'
   rcases hcase with⟨e1,hm1,hk1,rfl⟩|⟨_,rfl⟩
   ·exact absurd hk1 (hne e1 hm1)
   ·exact hvz.symm
  ·rw[hrun] at hrun';have hvz:v=e0.val:=by simpa using hrun'
   rcases hcase with⟨e1,hm1,hk1,rfl⟩|⟨hne,_⟩
   ·obtain⟨i,hi⟩:=List.getElem?_of_mem hm0;obtain⟨j,hj⟩:=List.getElem?_of_mem hm1;rw[hvz,(nZ F hi hj (h3.trans hk1.symm)).2]
   ·exact absurd h3 (hne e0 hm0)
 subst hv0
 refine⟨v0,zs,st,_,hE,ez hb,hvb,hat,ho,hl,fun w2 v' zs' hg hown' hl' hloc=>?_⟩
 have hb2:w2.heap[b]?=some (.map es1 clock1):=by
  rw[hg.block b (by simp[setBlock];exact hlt) (fun e1=>hvb e1.symm),heap_setBlock_same hb]
 obtain⟨es',clock',hst,hup⟩:=hS w2 v' hb2
 have hg':w.grownBy (setBlock w2 b (.map es clock)) v0.ownBlock:=⟨hg.os,hg.tape,hg.output,by simpa[setBlock] using hg.size,fun i hi hne=>by
  by_cases hib:i=b
  ·subst hib
   rw[heap_setBlock_same hb2,hb]
  ·rw[heap_setBlock_other hb2 _ hib,hg.block i (by simpa[setBlock] using hi) hne,heap_setBlock_other hb _ hib]⟩
 have hvb':v'.ownBlock≠some b:=fun e1=>by
  have:=(hown'.1.lt b e1).1;omega
 obtain⟨w3,hrun3,r1,r2⟩:=hback (setBlock w2 b (.map es clock)) v' zs' hg' (hown'.kept (ez hb2) (.inr hvb')) hl' hloc
 have hbW:(setBlock w2 b (.map es clock)).heap[b]?=some (.map es clock):=heap_setBlock_same hb2 _
 rw[Ea K ht F hkey hb hup hbW,td] at hrun3
 obtain rfl:setBlock w2 b (.map es' clock')=w3:=by simpa using hrun3
 exact⟨_,hst,r1,ez hb2⟩
end
end
section
open Go.RowKit Go.Maps Go.WideMaps Go.Sort Go.Shelf
attribute [local go_sem] am aq
theorem KR(p cap:Nat)(u v:Int)(w:World)(c0:w.cell? ⟨p,0,none⟩=some (.int .i64 u))(c1:w.cell? ⟨p,1,none⟩=some (.int .i64 v)):
 Calls Tryz.prog 231 #[.slice (some ⟨p,0,none⟩) 2 cap] w fun e w'=>e=.returned (.int .i64 (if u≠0 then u else v))/\w=w':=by
 by_cases hu:u=0
 ·subst hu;rw[if_neg (by simp)];by_cases hv:v=0
  ·subst hv;go_enter Tryz.func231,Tryz.ntmps231
   go_wp2_with fail
   refine wp_loop_rounds 3 ?_;rw[rounds_succ];go_wp2_with fail
   rw[rounds_succ];go_wp2_with fail
   rw[rounds_succ];go_wp2_with fail
   go_ret;exact⟨rfl,rfl⟩
  ·have f1:(v != 0)=true:=by simpa using hv
   have f2:(v==0)=false:=by simpa using hv
   clear hv;go_enter Tryz.func231,Tryz.ntmps231
   go_wp2_with fail
   refine wp_loop_rounds 3 ?_;rw[rounds_succ];go_wp2_with fail
   rw[rounds_succ];go_wp2_with fail
   go_ret;exact⟨rfl,rfl⟩
 ·rw[if_pos hu];have f1:(u != 0)=true:=by simpa using hu
  have f2:(u==0)=false:=by simpa using hu
  clear hu;go_enter Tryz.func231,Tryz.ntmps231
  go_wp2_with fail
  refine wp_loop_rounds 3 ?_;rw[rounds_succ];go_wp2_with fail
  go_ret;exact⟨rfl,rfl⟩
def uO(a b:World):Prop:=Below a.heap.size a b/\a.drawn<=b.drawn
instance:bE uO:=⟨fun w=>⟨Below.refl _ w,aF _⟩,fun h k=>⟨h.1.trans (k.1.mono h.1.size),aK h.2 k.2⟩,fun w=>⟨(Below.refl _ w).drew,Nat.le_succ _⟩⟩
theorem mU{w:World}{p:Addr}{v:Value}(h:w.cell? p=some v):∀x:RW uO w,x.w.cell? p=some v:=fun x=>(Below.cell (show Below w.heap.size w x.w from x.is.1) (World.block_lt_of_cell? _ _ h)).trans h
theorem uh(k:Nat)(olds:List Value):(DU k olds).keeps uO:=fun _ _ _ ⟨p,h1,h2⟩ hR=>⟨p,h1,fun j u hu=>(Below.cell hR.1 (World.block_lt_of_cell? _ _ (h2 j u hu))).trans (h2 j u hu)⟩
theorem Fa{a b:World}(h:uO a b):∃q os,b=Go.Sort.grow (a.drewN q) os:=by
 obtain⟨⟨h1,h2,h3,h4,h5⟩,h6⟩:=h;refine⟨b.drawn-a.drawn,b.heap.extract a.heap.size b.heap.size,?_⟩;obtain⟨bh,bt,bd,bo,bu⟩:=b;obtain⟨ah,at',ad,ao,au⟩:=a;simp only at h1 h2 h3 h4 h5 h6;subst h1;subst h2;subst h3;simp only[Go.Sort.grow,World.drewN];congr 1
 ·apply Array.ext_getElem?;intro i;rw[Array.getElem?_append];split
  ·rename_i hi;exact h5 i hi
  ·rename_i hi;rw[Array.getElem?_extract];split
   ·congr 1;omega
   ·rw[Array.getElem?_eq_none (by omega)]
 ·omega
theorem Ii(x y:Lb)(w:World):
 Calls Tryz.prog 230 #[.agg #[.string (bs x.1),.string (bs x.2)],.agg #[.string (bs y.1),.string (bs y.2)]] w fun e w'=>e=.returned (.int .i64 (gr x y))/\uO w w':=by
 have k1:=(ag.new w 73 #[.string (bs x.1),.string (bs x.2)]).alloc (.cells #[.string (bs y.1),.string (bs y.2)] 73)
 have k2:=ag.new (w.alloc (.cells #[.string (bs x.1),.string (bs x.2)] 73)) 73 #[.string (bs y.1),.string (bs y.2)]
 rw[aW] at k2
 have b0:uO w ((w.alloc (.cells #[.string (bs x.1),.string (bs x.2)] 73)).alloc (.cells #[.string (bs y.1),.string (bs y.2)] 73)):=⟨((Below.refl _ w).alloc (aF _) _).alloc (by simp) _,aF _⟩
 have c0:=ax k1 0 (.string (bs x.1)) rfl
 have c1:=ax k1 1 (.string (bs x.2)) rfl
 have d0:=ax k2 0 (.string (bs y.1)) rfl
 have d1:=ax k2 1 (.string (bs y.2)) rfl
 have x0:=mU c0
 have x1:=mU c1
 have y0:=mU d0
 have y1:=mU d1
 have q1:=af (fun W=>(Tryz.strings_Compare (bs x.1) (bs y.1) W))
 have q2:=af (fun W=>(Tryz.strings_Compare (bs x.2) (bs y.2) W))
 have HC:=af (show gr x y=if Lib.compareBytes x.1 y.1≠0 then Lib.compareBytes x.1 y.1 else Lib.compareBytes x.2 y.2 from rfl)
 rw[io,io] at q1 q2
 generalize Lib.compareBytes x.1 y.1=u at*
 generalize Lib.compareBytes x.2 y.2=v at*
 generalize gr x y=R at*
 clear k1 k2 c0 c1 d0 d1
 go_enter Tryz.func230,Tryz.ntmps230
 go_wp2_with fail
 refine ou (R:=uO) (by kernel_rfl) (by kernel_rfl) ?_
 iterate 4 (refine bJ fun K hK=>?_;go_big_quiet_step (fail);refine hK _ ?_;clear hK K)
 (refine fS (f:=232) (args:=#[.string (bs x.1),.string (bs y.1)]) (v:=.int .i64 u) (fun W hW=>(q1.out W).mono fun e w' ⟨h1,h2⟩=>⟨h1,h2▸bE.refl _⟩) fun K hK=>?_;go_big_quiet_step (fail);refine hK _ ?_;clear hK K)
 iterate 4 (refine bJ fun K hK=>?_;go_big_quiet_step (fail);refine hK _ ?_;clear hK K)
 (refine fS (f:=232) (args:=#[.string (bs x.2),.string (bs y.2)]) (v:=.int .i64 v) (fun W hW=>(q2.out W).mono fun e w' ⟨h1,h2⟩=>⟨h1,h2▸bE.refl _⟩) fun K hK=>?_;go_big_quiet_step (fail);refine hK _ ?_;clear hK K)
 refine kJ (d:=15) (uh 2 [.int .i64 u,.int .i64 v]) (by kernel_rfl) (fun _ _ h=>by cases h) (by kernel_rfl) rfl (fun W hW=>⟨_,_,(show _=Result.ok (Next.value (.slice (some ⟨W.heap.size,0,none⟩) 2 2)) (W.alloc (.cells [Value.int .i64 u,Value.int .i64 v].toArray 3)) by go_simp),⟨(Below.refl _ W).alloc (aF _) _,aF _⟩,W.heap.size,rfl,fun j z hz=>by rw[kj,World.cell?_alloc_new];simpa using hz⟩) ?_
 refine EZ 15 (r:=DU 2 [.int .i64 u,.int .i64 v]) (v:=.int .i64 R) (by kernel_rfl) (fun _ _ h=>by cases h) rfl (by simp) (by kernel_rfl) (by kernel_rfl) (by kernel_rfl) (by kernel_rfl) (fun x W hW hx=>by
  obtain⟨p,rfl,hc⟩:=hx
  have e0:=hc 0 _ rfl
  have e1:=hc 1 _ rfl
  rw[kj] at e0 e1
  refine⟨231,#[.slice (some ⟨p,0,none⟩) 2 2],by go_simp,?_⟩
  refine(KR p 2 u v W e0 e1).mono ?_
  rintro e w' ⟨rfl,rfl⟩
  exact⟨by rw[HC.out],bE.refl _⟩) (i9 (type:=0) (pos:= "") (fun K hK=>?_));go_big_quiet_step (fail);refine hK _ ?_;clear hK K
 (refine bJ fun K hK=>?_;go_big_quiet_step (fail);refine hK _ ?_;clear hK K)
 refine eR ?_
 intro w2 hb2
 simp only[aB]
 intro z hz
 clear hz
 simp only[Act.put,List.setIfInBounds_toArray,List.set_cons_succ,List.set_cons_zero]
 go_wp2_with fail
 go_ret
 exact⟨rfl,bE.trans b0 hb2⟩
end
end Go.Proofs.YtcdgfajdlaeodaaGreatDoor
namespace Go.Proofs
open Go.Shelf
def Tryz.laysSlF06_f229_ren:Go.Shelf.Ren:=⟨fun|6=>229|15=>276|14=>277|28=>313|29=>314|20=>315|21=>316|22=>317|23=>318|24=>319|25=>320|26=>321|27=>322|46=>346|47=>341|48=>342|49=>347|50=>348|57=>361|n=>n,fun|22=>65|24=>73|25=>306|3=>3|39=>161|0=>0|53=>247|55=>67|4=>4|46=>376|45=>375|50=>298|5=>5|9=>9|66=>412|70=>415|76=>428|77=>429|n=>n,fun|n=>n⟩
theorem Tryz.laysSlF06_f229:Go.Proofs.SlLaysF0.n6 Tryz.prog Tryz.laysSlF06_f229_ren:={
 mixed:=by kernel_rfl
 f6:=⟨Tryz.f229.name,by decide,Tryz.func229.trans (congrArg some (by kernel_rfl))⟩
 f14:=⟨Tryz.f277.name,by decide,Tryz.func277.trans (congrArg some (by kernel_rfl))⟩
 f15:=Tryz.func276.trans (congrArg some (by kernel_rfl))
 f20:=⟨Tryz.f315.name,by decide,Tryz.func315.trans (congrArg some (by kernel_rfl))⟩
 f21:=⟨Tryz.f316.name,by decide,Tryz.func316.trans (congrArg some (by kernel_rfl))⟩
 f22:=⟨Tryz.f317.name,by decide,Tryz.func317.trans (congrArg some (by kernel_rfl))⟩
 f23:=⟨Tryz.f318.name,by decide,Tryz.func318.trans (congrArg some (by kernel_rfl))⟩
 f24:=⟨Tryz.f319.name,by decide,Tryz.func319.trans (congrArg some (by kernel_rfl))⟩
 f25:=⟨Tryz.f320.name,by decide,Tryz.func320.trans (congrArg some (by kernel_rfl))⟩
 f26:=⟨Tryz.f321.name,by decide,Tryz.func321.trans (congrArg some (by kernel_rfl))⟩
 f27:=⟨Tryz.f322.name,by decide,Tryz.func322.trans (congrArg some (by kernel_rfl))⟩
 f28:=Tryz.func313.trans (congrArg some (by kernel_rfl))
 f29:=Tryz.func314.trans (congrArg some (by kernel_rfl))
 f46:=⟨Tryz.f346.name,by decide,Tryz.func346.trans (congrArg some (by kernel_rfl))⟩
 f47:=Tryz.func341.trans (congrArg some (by kernel_rfl))
 f48:=Tryz.func342.trans (congrArg some (by kernel_rfl))
 f49:=⟨Tryz.f347.name,by decide,Tryz.func347.trans (congrArg some (by kernel_rfl))⟩
 f50:=⟨Tryz.f348.name,by decide,Tryz.func348.trans (congrArg some (by kernel_rfl))⟩
 f57:=⟨Tryz.f361.name,by decide,Tryz.func361.trans (congrArg some (by kernel_rfl))⟩
 t0:=Tryz.underlying0
 a0:=Tryz.isAgg0
 z0:=Tryz.sizeOf0
 v0:=Tryz.zeroValue0
 t3:=Tryz.underlying3
 a3:=Tryz.isAgg3
 z3:=Tryz.sizeOf3
 v3:=Tryz.zeroValue3
 t4:=Tryz.underlying4
 a4:=Tryz.isAgg4
 z4:=Tryz.sizeOf4
 v4:=Tryz.zeroValue4
 t5:=Tryz.underlying5
 a5:=Tryz.isAgg5
 z5:=Tryz.sizeOf5
 v5:=Tryz.zeroValue5
 t9:=Tryz.underlying9
 a9:=Tryz.isAgg9
 z9:=Tryz.sizeOf9
 v9:=Tryz.zeroValue9
 t22:=Tryz.underlying65
 a22:=Tryz.isAgg65
 z22:=Tryz.sizeOf65
 v22:=Tryz.zeroValue65
 t25:=Tryz.underlying306
 a25:=Tryz.isAgg306
 z25:=Tryz.sizeOf306
 v25:=Tryz.zeroValue306
 t39:=Tryz.underlying161
 a39:=Tryz.isAgg161
 z39:=Tryz.sizeOf161
 v39:=Tryz.zeroValue161
 t45:=Tryz.underlying375
 a45:=Tryz.isAgg375
 z45:=Tryz.sizeOf375
 v45:=Tryz.zeroValue375
 t46:=Tryz.underlying376
 a46:=Tryz.isAgg376
 z46:=Tryz.sizeOf376
 v46:=Tryz.zeroValue376
 t50:=Tryz.underlying298
 a50:=Tryz.isAgg298
 z50:=Tryz.sizeOf298
 v50:=Tryz.zeroValue298
 t53:=Tryz.underlying247
 a53:=Tryz.isAgg247
 z53:=Tryz.sizeOf247
 v53:=Tryz.zeroValue247
 t55:=Tryz.underlying67
 a55:=Tryz.isAgg67
 z55:=Tryz.sizeOf67
 v55:=Tryz.zeroValue67
 t66:=Tryz.underlying412
 a66:=Tryz.isAgg412
 z66:=Tryz.sizeOf412
 v66:=Tryz.zeroValue412
 t70:=Tryz.underlying415
 a70:=Tryz.isAgg415
 z70:=Tryz.sizeOf415
 v70:=Tryz.zeroValue415
 t76:=Tryz.underlying428
 a76:=Tryz.isAgg428
 z76:=Tryz.sizeOf428
 v76:=Tryz.zeroValue428
 t77:=Tryz.underlying429
 a77:=Tryz.isAgg429
 z77:=Tryz.sizeOf429
 v77:=Tryz.zeroValue429}
open Go.RowKit Go.Lib Go.Sort in
theorem Tryz.slices_SortFunc_none{α:Type}[Inhabited α](p:Option Addr)(cap:Nat)(fv:Value)(w:World):
 Calls Tryz.prog 229 #[.slice p 0 cap,fv] w fun e w'=>e=.returned (.tuple #[])/\w'=w:=AnyF.slices_SortFunc_none Tryz.laysSlF06_f229 p cap fv w
open Go.RowKit Go.Lib Go.Sort in
theorem Tryz.slices_SortFunc_total{α:Type}[Inhabited α](k:Nat)(aE:∀w,(isAgg 73).run Tryz.prog w=.ok true w)(zE:∀w,(Go.sizeOf 73).run Tryz.prog w=.ok k w)(enc:α->List Value)(hk:∀x,(enc x).length=k)(h1:∀x,∀v∈enc x,v.oneCell'=true)(cf:α->α->Int)(hO:SWO (ltOf cf))(g:Nat)(cb:Array Value)(blk off cap:Nat)(d:Array α)(w:World)(eg:∀args w,(callFunc g args).run Tryz.prog w=.ok (.enter g args) w)(hcmp:CmpLays Tryz.prog g cb enc k cf blk off d.size w)(hH:HoldsK enc k w blk off d)(hblk:blk<w.heap.size)(hsz:d.size<4611686018427387904)(hT:∀x y,(ltOf cf) x y=false->(ltOf cf) y x=false->x=y):
 Calls Tryz.prog 229 #[.slice (some ⟨blk,off,none⟩) d.size cap,.func (.func g) #[] cb] w fun e w'=>
  e=.returned (.tuple #[])/\∃n os,w'=sortWorldK enc k w blk off n (d.toList.mergeSort fun x y=> !(ltOf cf) y x).toArray os:=AnyQ.slices_SortFunc_total Tryz.laysSlF06_f229 k aE zE enc hk h1 cf hO g cb blk off cap d w eg hcmp hH hblk hsz hT
end Go.Proofs
namespace Go.Proofs.YtcdgfajdlaeodaaGreatDoor
section
open Go.RowKit Go.Maps Go.WideMaps Go.Sort Go.Shelf
attribute [local go_sem] am aq
theorem yp:∀a:List UInt8,Lib.compareBytes a a=0
 |[]=>rfl
 |a::l=>by
  unfold Lib.compareBytes;rw[if_neg (by simp),if_neg (by simp),yp l]
theorem CG:∀a b:List UInt8,Lib.compareBytes a b= -Lib.compareBytes b a
 |[],[]=>rfl
 |[],_::_=>rfl
 |_::_,[]=>rfl
 |a::l,b::m=>by
  unfold Lib.compareBytes;by_cases h1:a<b
  ·have h2:¬b<a:=by have:a.toNat<b.toNat:=h1;intro h;have:b.toNat<a.toNat:=h;omega
   rw[if_pos h1,if_neg h2,if_pos h1]
  ·by_cases h2:b<a
   ·rw[if_neg h1,if_pos h2,if_pos h2];rfl
   ·rw[if_neg h1,if_neg h2,if_neg h2,if_neg h1,CG l m]
theorem As:∀a b:List UInt8,Lib.compareBytes a b=0->a=b
 |[],[],_=>rfl
 |[],_::_,h=>by cases h
 |_::_,[],h=>by cases h
 |a::l,b::m,h=>by
  unfold Lib.compareBytes at h;split at h
  ·cases h
  ·rename_i h1;split at h
   ·cases h
   ·rename_i h2;have e:a=b:=by
     apply UInt8.toNat_inj.1;have a1:¬a.toNat<b.toNat:=h1;have a2:¬b.toNat<a.toNat:=h2;omega
    rw[e,As l m h]
theorem uB:∀a b c:List UInt8,Lib.compareBytes a b<0->Lib.compareBytes b c<0->Lib.compareBytes a c<0
 |_,[],[],_,h=>by simp[Lib.compareBytes] at h
 |[],_,_::_,_,_=>by simp[Lib.compareBytes]
 |_::_,[],_,h,_=>by simp[Lib.compareBytes] at h
 |[],_::_,[],_,h=>by simp[Lib.compareBytes] at h
 |_::_,_::_,[],_,h=>by simp[Lib.compareBytes] at h
 |a::l,b::m,c::n,h1,h2=>by
  unfold Lib.compareBytes at h1 h2⊢;by_cases ab:a<b
  ·have ab':a.toNat<b.toNat:=ab;by_cases bc:b<c
   ·have bc':b.toNat<c.toNat:=bc;rw[if_pos (show a<c from(by omega:a.toNat<c.toNat))];decide
   ·rw[if_neg bc] at h2;by_cases cb:c<b
    ·rw[if_pos cb] at h2;simp at h2
    ·have bc':¬b.toNat<c.toNat:=bc;have cb':¬c.toNat<b.toNat:=cb;rw[if_pos (show a<c from(by omega:a.toNat<c.toNat))];decide
  ·rw[if_neg ab] at h1;by_cases ba:b<a
   ·rw[if_pos ba] at h1;simp at h1
   ·rw[if_neg ba] at h1;have ab':¬a.toNat<b.toNat:=ab;have ba':¬b.toNat<a.toNat:=ba;have e:a=b:=UInt8.toNat_inj.1 (by omega);subst e;by_cases bc:a<c
    ·rw[if_pos bc];decide
    ·rw[if_neg bc] at h2⊢;by_cases cb:c<a
     ·rw[if_pos cb] at h2;simp at h2
     ·rw[if_neg cb] at h2⊢;exact uB l m n h1 h2
theorem JN(x:Lb):gr x x=0:=by unfold gr;rw[yp,yp];rfl
theorem Il(x y:Lb):gr x y= -gr y x:=by
 unfold gr;have h1:=CG x.1 y.1;have h2:=CG x.2 y.2;by_cases h:Lib.compareBytes x.1 y.1=0
 ·rw[if_neg (by simp[h]),if_neg (by simp;omega)];exact h2
 ·rw[if_pos h,if_pos (by omega)];exact h1
theorem Kc(x y:Lb)(h:gr x y=0):x=y:=by
 unfold gr at h;split at h
 ·contradiction
 ·rename_i h1;exact Prod.ext (As _ _ (by simpa using h1)) (As _ _ h)
theorem An(x y z:Lb)(h1:gr x y<0)(h2:gr y z<0):gr x z<0:=by
 unfold gr at h1 h2⊢;by_cases a:Lib.compareBytes x.1 y.1=0
 ·rw[if_neg (by simp[a])] at h1;rw[As _ _ a];by_cases b:Lib.compareBytes y.1 z.1=0
  ·rw[if_neg (by simp[b])] at h2⊢;exact uB _ _ _ h1 h2
  ·rw[if_pos b] at h2⊢;exact h2
 ·rw[if_pos a] at h1;by_cases b:Lib.compareBytes y.1 z.1=0
  ·rw[<-As _ _ b,if_pos a];exact h1
  ·rw[if_pos b] at h2;have:=uB _ _ _ h1 h2;rw[if_pos (by omega)];exact this
theorem KM:SWO (ltOf gr) where
 irrefl x:=by unfold ltOf;rw[JN];rfl
 trans x y z h1 h2:=by
  unfold ltOf at h1 h2⊢;simp only[decide_eq_true_eq] at h1 h2⊢;exact An x y z h1 h2
 ntrans x y z h1 h2:=by
  unfold ltOf at h1 h2⊢;simp only[decide_eq_false_iff_not] at h1 h2⊢;intro h;by_cases a:gr x y=0
  ·rw[Kc _ _ a] at h;exact h2 h
  ·have h3:gr y x<0:=by have:=Il x y;omega
   exact h2 (An y x z h3 h)
theorem Ik(x y:Lb)(h1:(ltOf gr) x y=false)(h2:(ltOf gr) y x=false):x=y:=by
 unfold ltOf at h1 h2;simp only[decide_eq_false_iff_not] at h1 h2;have:=Il x y;exact Kc x y (by omega)
theorem o9:∀(L:List Lb) (t:Nat),t<L.length*2->(L.flatMap eX)[t]?=some ((eX (L.getD (t/2) default))[t%2]!)
 |[],t,h=>by simp at h
 |x::L,0,_=>rfl
 |x::L,1,_=>rfl
 |x::L,t+2,h=>by
  have h1:=o9 L t (by simp at h;omega);rw[List.flatMap_cons,show eX x=[.string (bs x.1),.string (bs x.2)] from rfl];rw[show (t+2)/2=t/2+1 by omega,show (t+2)%2=t%2 by omega,List.getD_cons_succ,<-h1];rfl
theorem Ae(L:List Lb):(L.flatMap eX).length=L.length*2:=by
 induction L with
 |nil=>rfl
 |cons x L ih=>
  rw[List.flatMap_cons,aG,ih];simp[eX];omega
theorem DC(L:List Lb):flatK eX 2 L.toArray=(L.flatMap eX).toArray:=by
 apply Array.ext
 ·rw[size_flatK];simp only[List.size_toArray];rw[Ae]
 ·intro t h1 h2;have h3:t<L.length*2:=by simpa using h1
  have h4:=o9 L t h3;have h5:=get_flatK eX 2 L.toArray t h3;rw[getElem!_pos _ t h1] at h5;rw[h5];have h6:(L.flatMap eX).toArray[t]?=some ((eX (L.getD (t/2) default))[t%2]!):=by simpa using h4
  rw[Array.getElem?_eq_getElem h2] at h6;rw[az h6];have h7:t/2<L.length:=by omega
  rw[getElem!_pos L.toArray (t/2) (by simpa using h7),List.getD_eq_getElem?_getD,aV h7];rfl
theorem xN{w:World}{base:Nat}{e:TypeId}{g n cap q:Nat}{xs:List Value}(h:w.ownsRow base e 2 (.slice (some ⟨g,0,none⟩) n cap) n xs)(F:List Value)(hF:F.length=n*2):
 (putRow id (Go.Sort.ahead w q) g 0 F.toArray).ownsRow base e 2 (.slice (some ⟨g,0,none⟩) n cap) n F:=by
 rcases h.2 with⟨e0,_⟩|⟨g',cap',cur,e0,hb,hg,hn,hm,hs,ht⟩
 ·cases e0
 ·injection e0 with e1 _ e3;injection e1 with e1;injection e1 with e1;subst e1;subst e3;refine⟨hF,.inr ⟨g,cap,putCells id 0 F.toArray cur,rfl,hb,?_,hn,hm,by simpa[putCells] using hs,?_⟩⟩
  ·simp[putRow,mapBlock,Go.Sort.ahead,Array.getElem?_modify,hg,onCells]
  ·apply List.ext_getElem?;intro j;rw[List.getElem?_take,Array.getElem?_toList];by_cases hj:j<n*2
   ·have hjc:j<cur.size:=by have:=Nat.mul_le_mul_right 2 hn;omega
    simp only[if_pos hj,putCells,Array.getElem?_mapIdx,Array.getElem?_eq_getElem hjc,Option.map_some];rw[if_pos (by simp;omega),aV (by omega)];simp[getElem!_pos,show j<F.length by omega]
   ·rw[if_neg hj,List.getElem?_eq_none (by omega)]
theorem CZ(L:List Lb)(B g n cap:Nat)(w:World)(h:w.ownsRow B 73 2 (.slice (some ⟨g,0,none⟩) n cap) n (L.flatMap eX))(hL:L.length=n)(hn:n<=1000000):
 Calls Tryz.prog 229 #[.slice (some ⟨g,0,none⟩) n cap,.func (.func 230) #[] #[]] w fun e w'=>e=.returned (.tuple #[])/\w'.ownsRow B 73 2 (.slice (some ⟨g,0,none⟩) n cap) n ((jW L).flatMap eX)/\ak w w' (fun k=>k=g):=by
 subst hL
 have hcells:∀j u,(L.flatMap eX)[j]?=some u->w.cell? ((⟨g,0,none⟩:Addr).add j)=some u:=h.cells (g:=g) rfl
 have hgl:=(h.lt g rfl).2
 have hfz:∀o,w.frozen? ⟨g,o,none⟩=false:=fun o=>by
  rcases h.2 with⟨e0,_⟩|⟨g',cap',cur,e0,_,hg,_⟩
  ·cases e0
  ·injection e0 with e1 _ e3;injection e1 with e1;injection e1 with e1;subst e1;simp[World.frozen?,hg]
 have hH:HoldsK eX 2 w g 0 L.toArray:=by
  unfold HoldsK;rw[DC];intro j hj;have hj':j<(L.flatMap eX).length:=by simpa using hj
  refine⟨?_,hfz _⟩;have:=hcells j _ (aV hj');rw[kj] at this;rw[Nat.zero_add,this,getElem!_pos _ j hj];simp
 refine(Tryz.slices_SortFunc_total 2 Tryz.isAgg73 Tryz.sizeOf73 eX (fun _=>rfl) (fun x v hv=>by simp[eX] at hv;rcases hv with rfl|rfl<;>rfl) gr KM 230 #[] g 0 cap L.toArray w (fun _ _=>by kernel_rfl) (fun m os dk hs x y=>(Ii x y _).mono fun e w' ⟨h1,h2⟩=>⟨h1,Fa h2⟩) hH hgl (by simp;omega) Ik).mono ?_
 rintro e w' ⟨rfl,q,os,rfl⟩
 refine⟨rfl,?_,?_⟩
 ·unfold sortWorldK putRowK;rw[DC];have h1:=xN (q:=q) h ((jW L).flatMap eX) (by rw[Ae];unfold jW;rw[List.length_mergeSort]);exact aw h1 (mR _ _ (fun _=>False)) (fun _ _ e=>e)
 ·unfold sortWorldK putRowK;exact(ro _ _ _ _ _).trans (mR _ _ _)
end
section
open Go.RowKit Go.Maps Go.WideMaps
attribute [local go_sem] am aq
theorem zQ:KeyLaw Tryz.prog 73:=deep_law (m:=2) (by omega) (by kernel_rfl) (by kernel_rfl) (by kernel_rfl)
def Lj (y:Lb):Lit:=.string (keyBytes [.string y.1,.string y.2])
def kG (y:Lb):Prop:=y.1.length<=1048576/\y.2.length<=1048576
theorem pQ(y:Lb)(h:kG y):keyOf Tryz.prog 73 (.agg #[.string (bs y.1),.string (bs y.2)])=some (Lj y):=by
 have hu:=Tryz.underlying73;have hs:=Tryz.underlying9;have hk:Tryz.prog.keyType 73=true:=by kernel_rfl
 have hc:Tryz.prog.cellsOf 73=2:=by kernel_rfl
 have hc1:Tryz.prog.cellsOf 9=1:=by kernel_rfl
 have h1:(bs y.1).size<=maxLen:=by rw[aq];unfold maxLen;have:=h.1;omega
 have h2:(bs y.2).size<=maxLen:=by rw[aq];unfold maxLen;have:=h.2;omega
 obtain⟨N,hN⟩:∃N,Tryz.prog.types.size=N+1:=⟨Tryz.prog.types.size-1,by kernel_rfl⟩
 unfold keyOf;rw[hN];have e1:∀s:ByteArray,s.size<=maxLen->Tryz.prog.keyLits (N+1) 9 [.string s]=some [.string s.data.toList]:=fun s hl=>by
  unfold Program.keyLits;rw[hs];simp[hl]
 have e2:Tryz.prog.keyLits (N+1+1) 73 [.string (bs y.1),.string (bs y.2)]=some [.string y.1,.string y.2]:=by
  have a1:=e1 _ h1;have a2:=e1 _ h2;rw[io] at a1 a2;unfold Program.keyLits;rw[hu];simp[hc,hc1,a1,a2]
 rw[hu];simp only[hk,Bool.true_and];rw[show Value.formed Tryz.prog 73 (.agg #[.string (bs y.1),.string (bs y.2)])=true by simp[Value.formed,hu,hc]];rw[if_pos rfl];rw[show (Value.agg #[.string (bs y.1),.string (bs y.2)]).cells.toList=[.string (bs y.1),.string (bs y.2)] from rfl,e2];rfl
theorem JE{y z:Lb}(h1:kG y)(h2:kG z)(h:Lj y=Lj z):y=z:=by
 have a:=pQ y h1;have b:=pQ z h2;rw[h] at a;have c:=zQ.inj a b;injection c with c;have c1:bs y.1=bs z.1/\bs y.2=bs z.2:=by simpa using c
 exact Prod.ext (yq c1.1) (yq c1.2)
def pj(L:List Nat):DataW Unit:=if L=[] then .nil else .slice (Go.ChangeShapes.lits .i64 (jO L)) []
def C7(D:DataW Unit)(S:List (Lb×Nat)):Prop:=∀y,kG y->D.atKey (Lj y) .nil=pj (cC S y)
theorem A5(S:List (Lb×Nat))(y:Lb)(i:Nat)(z:Lb):cC (S++[(y,i)]) z=cC S z++if y=z then[i] else[]:=by
 unfold cC;rw[List.filter_append,List.map_append,List.filter_cons,List.filter_nil];by_cases h:y=z<;>simp[h]
theorem GZ{a b:List Int}(h:(Go.ChangeShapes.lits .i64 a:List (DataW Unit))=Go.ChangeShapes.lits .i64 b):a=b:=by
 unfold Go.ChangeShapes.lits at h;exact(List.map_inj_right (fun x y e=>by simpa using e)).1 h
theorem ur{w:World}{base:Nat}{e:TypeId}{v:Value}{zs:List Int}{L:List Nat}(h:w.ownsInts base e .i64 v zs)(hd:rowDatum (H:=Unit) .i64 v zs=pj L):zs=jO L:=by
 unfold pj at hd;split at hd
 ·rename_i hL;subst hL;rcases h.datum (H:=Unit) with⟨_,h0⟩|h1
  ·exact h0
  ·rw[h1] at hd;cases hd
 ·rcases h.datum (H:=Unit) with⟨h1,_⟩|h1
  ·rw[h1] at hd;cases hd
  ·rw[h1] at hd;injection hd with hd;exact GZ hd
theorem Ig{D:DataW Unit}{S:List (Lb×Nat)}(hD:IsMap D)(h:C7 D S){y:Lb}(hy:kG y)(i:Nat){w:World}{base:Nat}{e:TypeId}{v:Value}(ho:w.ownsInts base e .i64 v (jO (cC S y)++[(i:Int)])):C7 (D.put (Lj y) (rowDatum .i64 v (jO (cC S y)++[(i:Int)]))) (S++[(y,i)]):=fun z hz=>by
 rw[A5];by_cases e1:y=z
 ·subst e1;rw[atKey_put_same hD (by trivial),ho.datum_pos (by simp),if_pos rfl];unfold pj;rw[if_neg (by simp)];congr 2;unfold jO;simp
 ·rw[atKey_put_other (fun e=>e1 (JE hy hz e.symm)),h z hz,if_neg e1,List.append_nil]
theorem jP{P:Program}{k e:TypeId}{w w':World}{base b n:Nat}{q:IntKind}{D:DataW Unit}{S:Nat->Prop}(h:w.ownsGroups P k base e q b n D)(hk:ak w w' S)(hb':¬S b)(hS:∀g,S g->g<w.heap.size->ng w g≠some (some e)):w'.ownsGroups P k base e q b n D:=by
 obtain⟨es,clock,hb,F,hs,rfl,hbb,hlen,hap⟩:=h;have hblt:b<w.heap.size:=(Array.getElem?_eq_some_iff.1 hb).1;have keep:∀{v:Value} {zs:List Int},w.ownsInts base e q v zs->w'.ownsInts base e q v zs:=fun {v zs} ho=>⟨aw ho.1 hk (fun g hg hSg=>hS g hSg (ho.1.lt g hg).2 (bg ho.1 hg)),ho.2⟩
 have hst:∀x∈es.toList,∀z,rowElem (H:=Unit) w base e q x.val=some z->rowElem w' base e q x.val=some z:=fun x _ z hz=>by
  obtain⟨zs,ho,rfl⟩:=rowElem_inv hz;exact rowElem_mk (keep ho)
 obtain⟨F1,hmap,_⟩:=F.stay hst;refine⟨es,clock,(hk.block b hblt hb').trans hb,F1,hs,by rw[hmap],hbb,fun x hx zs ho=>?_,hap⟩;obtain⟨y,hy⟩:=F.reads x hx;obtain⟨z,hz,_⟩:=WideElems.rd_val hy;obtain⟨zs0,ho0,_⟩:=rowElem_inv hz;rw[ho.unique (keep ho0)];exact hlen x hx zs0 ho0
theorem tZ{P:Program}{k e:TypeId}{w:World}{base b n:Nat}{q:IntKind}{D:DataW Unit}(h:w.ownsGroups P k base e q b n D):IsMap D/\b<w.heap.size/\ng w b=some none:=by
 obtain⟨es,clock,hb,F,hs,rfl,hbb,hlen,hap⟩:=h;exact⟨⟨_,rfl⟩,(Array.getElem?_eq_some_iff.1 hb).1,by unfold ng;rw[hb];rfl⟩
def rT (E:List En)(i:Nat):List (Lb×Nat):=(List.range i).flatMap fun i=>(E.getD i aR).labels.map fun z=>(z,i)
theorem tF(E:List En):cJ E=rT E E.length:=rfl
theorem oJ(E:List En){i:Nat}(h:i<E.length):rT E (i+1)=rT E i++E[i].labels.map fun z=>(z,i):=by
 unfold rT;rw[List.range_succ,List.flatMap_append,List.flatMap_cons,List.flatMap_nil,List.append_nil,show E.getD i aR=E[i] by rw[List.getD_eq_getElem?_getD,aV h];rfl]
theorem Jr(E:List En){i:Nat}(h:i<E.length)(k:Nat):(rT E i++(E[i].labels.take k).map fun z=>(z,i)).length<=(cJ E).length:=by
 have h1:∀j,i+1+j<=E.length->(rT E (i+1)).length<=(rT E (i+1+j)).length:=fun j=>by
  induction j with
  |zero=>exact fun _=>aF _
  |succ j ih=>
   intro hj;rw[<-Nat.add_assoc,oJ E (show i+1+j<E.length by omega),aG];have:=ih (by omega);omega
 have h2:=h1 (E.length-(i+1)) (by omega);rw[show i+1+(E.length-(i+1))=E.length by omega,oJ E h] at h2;rw[tF];refine aK ?_ h2;rw[aG,aG,List.length_map,List.length_map,dp];omega
theorem Fs(L:List Lb)(y:Lb):eG (L++[y])=if y∈eG L then eG L else eG L++[y]:=by
 unfold eG;rw[List.foldl_append];rfl
theorem wB(y:Lb):∀L a:List Lb,y∈L.foldl (fun a y=>if y∈a then a else a++[y]) a↔y∈a\/y∈L
 |[],a=>by simp
 |x::L,a=>by
  rw[List.foldl_cons,wB y L];split
  ·rename_i h;rw[List.mem_cons];constructor
   ·rintro(h1|h1)
    ·exact .inl h1
    ·exact .inr (.inr h1)
   ·rintro(h1|rfl|h1)
    ·exact .inl h1
    ·exact .inl h
    ·exact .inr h1
  ·rw[List.mem_append,List.mem_singleton,List.mem_cons,or_assoc]
theorem Ak(L:List Lb)(y:Lb):y∈eG L↔y∈L:=by
 unfold eG;rw[wB];simp
theorem F3(S:List (Lb×Nat))(y:Lb):cC S y=[]↔y∉eG (S.map fun p=>p.1):=by
 rw[Ak];unfold cC;rw[List.map_eq_nil_iff,List.filter_eq_nil_iff,List.mem_map];constructor
 ·rintro h ⟨p,hp,e⟩;exact h p hp (by simpa using e)
 ·intro h p hp e;exact h ⟨p,hp,by simpa using e⟩
theorem Dt:KeyLaw Tryz.prog 140:=deep_law (m:=3) (by omega) (by kernel_rfl) (by kernel_rfl) (by kernel_rfl)
def m9 (M:List Lb):Value:=.agg (aQ M).toArray
def L9 (M:List Lb):Lit:=.string (keyBytes (M.flatMap fun y=>[.string y.1,.string y.2]))
theorem GO(M:List Lb)(h6:M.length=6)(h:∀y∈M,kG y):keyOf Tryz.prog 140 (m9 M)=some (L9 M):=by
 match M,h6 with
 |[a,b,c,d,e,f],_=>
 have hu:=Tryz.underlying140;have hl:=Tryz.underlying73;have hs:=Tryz.underlying9;have hk:Tryz.prog.keyType 140=true:=by kernel_rfl
 have hc:Tryz.prog.cellsOf 140=12:=by kernel_rfl
 have hc2:Tryz.prog.cellsOf 73=2:=by kernel_rfl
 have hc1:Tryz.prog.cellsOf 9=1:=by kernel_rfl
 obtain⟨N,hN⟩:∃N,Tryz.prog.types.size=N+1+1:=⟨Tryz.prog.types.size-2,by kernel_rfl⟩
 have e1:∀n,∀s:List UInt8,s.length<=1048576->Tryz.prog.keyLits (n+1) 9 [.string (bs s)]=some [.string s]:=fun n s hl=>by
  have h1:(bs s).size<=maxLen:=by rw[aq];unfold maxLen;omega
  unfold Program.keyLits;rw[hs];simp[h1,io]
 have e2:∀n,∀y:Lb,kG y->Tryz.prog.keyLits (n+1+1) 73 [.string (bs y.1),.string (bs y.2)]=some [.string y.1,.string y.2]:=fun n y hy=>by
  have a1:=e1 n _ hy.1;have a2:=e1 n _ hy.2;unfold Program.keyLits;rw[hl];simp[hc2,hc1,a1,a2]
 have e3:Tryz.prog.keyLits (N+1+1+1) 140 (aQ [a,b,c,d,e,f])=some ([a,b,c,d,e,f].flatMap fun y=>[.string y.1,.string y.2]):=by
  have ka:=e2 N a (h a (by simp));have kb:=e2 N b (h b (by simp));have kc:=e2 N c (h c (by simp));have kd:=e2 N d (h d (by simp));have ke:=e2 N e (h e (by simp));have kf:=e2 N f (h f (by simp));unfold Program.keyLits;rw[hu];simp[hc,hc2,aQ,List.range,List.range.loop,ka,kb,kc,kd,ke,kf]
 unfold keyOf;rw[hN,hu];simp only[hk,Bool.true_and];rw[show Value.formed Tryz.prog 140 (m9 [a,b,c,d,e,f])=true by simp[Value.formed,hu,hc,m9,aQ]];rw[if_pos rfl];rw[show (m9 [a,b,c,d,e,f]).cells.toList=aQ [a,b,c,d,e,f] from rfl,e3];rfl
theorem rm:∀L M:List Lb,aQ L=aQ M->L=M
 |[],[],_=>rfl
 |[],y::M,h=>by simp[aQ] at h
 |x::L,[],h=>by simp[aQ] at h
 |x::L,y::M,h=>by
  unfold aQ at h;simp only[List.flatMap_cons,List.cons_append,List.nil_append,List.cons.injEq,Value.string.injEq] at h;rw[rm L M h.2.2,Prod.ext (yq h.1) (yq h.2.1)]
theorem wH:∀(L:List Lb) (p:List UInt8),fq p L=true->∀y∈L,y.1≠[]
 |[],_,_=>by simp
 |x::L,p,h=>by
  unfold fq at h;simp only[Bool.and_eq_true] at h;intro y hy;rcases List.mem_cons.1 hy with rfl|hy
  ·intro e;rw[e,DB] at h;exact Bool.noConfusion h.1
  ·exact wH L x.1 h.2.2.2.2 y hy
theorem jS{L:List Lb}(h:bD L=0):(∀y∈L,y.1≠[])/\L.length<=6:=by
 unfold bD at h;split at h
 ·rename_i h1;simp only[Bool.and_eq_true,decide_eq_true_eq] at h1;exact⟨wH L [] h1.1,h1.2.2⟩
 ·cases h
theorem tG{L:List Lb}(h:∀y∈L,y.1≠[]):(dD L).filter (fun y=> !y.1.isEmpty)=L:=by
 unfold dD;rw[List.filter_append,List.filter_replicate,if_neg (by simp),List.append_nil,List.filter_eq_self];intro y hy;have:=h y hy;cases hy1:y.1 with
 |nil=>exact absurd hy1 this
 |cons a b=>rfl
theorem GK{L M:List Lb}(hL:bD L=0)(hM:bD M=0)(h:dD L=dD M):L=M:=by
 rw[<-tG (jS hL).1,<-tG (jS hM).1,h]
theorem Jw{L M:List Lb}(hL:bD L=0)(hM:bD M=0)(h:m9 (dD L)=m9 (dD M)):L=M:=by
 unfold m9 at h;have h1:=Value.agg.inj h;exact GK hL hM (rm _ _ (by simpa using congrArg Array.toList h1))
theorem Dp{L:List Lb}(h:∀y∈L,kG y):∀y∈dD L,kG y:=fun y hy=>by
 unfold dD at hy;rcases List.mem_append.1 hy with hy|hy
 ·exact h y hy
 ·obtain⟨_,rfl⟩:=List.mem_replicate.1 hy;exact⟨Nat.zero_le _,Nat.zero_le _⟩
def uJ(w:World)(B:Nat)(K:List (List Lb)):Prop:=∃es clock,w.heap[B]?=some (.map es clock)/\es.toList.map (·.key)=K.map (fun l=>m9 (dD l))/\(∀x∈es.toList,x.born<clock)/\(es.toList.map (·.born)).Nodup/\∀l∈K,bD l=0/\∀y∈l,kG y
theorem Ei{es:Array MapEntry}{K:List (List Lb)}(h:es.toList.map (·.key)=K.map (fun l=>m9 (dD l)))(hK:∀l∈K,bD l=0/\∀y∈l,kG y):∀x∈es.toList,∃l,keyOf Tryz.prog 140 x.key=some l:=fun x hx=>by
 have:x.key∈K.map (fun l=>m9 (dD l)):=h▸List.mem_map_of_mem hx;obtain⟨l,hl,e⟩:=List.mem_map.1 this;rw[<-e];exact⟨_,GO _ (mo l (jS (hK l hl).1).2) (Dp (hK l hl).2)⟩
theorem Gm{es:Array MapEntry}{K:List (List Lb)}(h:es.toList.map (·.key)=K.map (fun l=>m9 (dD l)))(hK:∀l∈K,bD l=0/\∀y∈l,kG y){L:List Lb}(hL:bD L=0)(hn:L∉K):∀x∈es.toList,x.key≠m9 (dD L):=fun x hx e=>by
 have:x.key∈K.map (fun l=>m9 (dD l)):=h▸List.mem_map_of_mem hx;obtain⟨l,hl,e2⟩:=List.mem_map.1 this;exact hn (Jw (hK l hl).1 hL (e2.trans e)▸hl)
theorem Eh{w':World}{B clock:Nat}{es:Array MapEntry}{K:List (List Lb)}{L:List Lb}{v:Value}(h:es.toList.map (·.key)=K.map (fun l=>m9 (dD l)))(hK:∀l∈K,bD l=0/\∀y∈l,kG y)(hs1:∀x∈es.toList,x.born<clock)(hs2:(es.toList.map (·.born)).Nodup)
 (hL:bD L=0) (hok:∀y∈L,kG y) (hb:w'.heap[B]?=some (cX es clock (m9 (dD L)) v)):uJ w' B (K++[L]):=by
 refine⟨_,_,hb,?_,fun x hx=>?_,?_,fun l hl=>?_⟩
 ·rw[Array.toList_push,List.map_append,List.map_append,h];rfl
 ·rw[Array.toList_push] at hx;rcases List.mem_append.1 hx with hx|hx
  ·have:=hs1 x hx;omega
  ·obtain rfl:=List.mem_singleton.1 hx;exact Nat.lt_succ_self _
 ·rw[Array.toList_push,List.map_append];refine List.nodup_append.2 ⟨hs2,by simp,fun a ha c hc e1=>?_⟩;simp only[List.map_cons,List.map_nil,List.mem_singleton] at hc;obtain⟨x,hx,rfl⟩:=List.mem_map.1 ha;have:=hs1 x hx;omega
 ·rcases List.mem_append.1 hl with hl|hl
  ·exact hK l hl
  ·obtain rfl:=List.mem_singleton.1 hl;exact⟨hL,hok⟩
theorem Eg{es:Array MapEntry}{K:List (List Lb)}(h:es.toList.map (·.key)=K.map (fun l=>m9 (dD l))):es.size=K.length:=by
 have:=congrArg List.length h;simpa using this
section
variable {R:World->World->Prop} {P:Program} {ops:Array Oper} {w0:World} {n:Nat} {ds:List Deferred} {F:Act->World->Prop} {rest:List Oper} {H:List (Tmp×bn)} {a:Act} {o:Oper}
theorem JA[bE R](d:Tmp){r:bn}(hk:r.keeps R)(hw:Region.wanted o (yielded ops a.tmps)=true)(hns:∀cs b,o.op≠.select cs b)(hl:bi ops H o=true)(hd:o.dst=some d)
 (hr:∀w,R w0 w->∃v w',(execOp a.eval o).run P w=.ok (.value v) w'/\R w w'/\r v w') (h:bQ R P ops w0 n ds F rest ((d,r)::H) a):bQ R P ops w0 n ds F (o::rest) H a:=by
 refine oU hk (fun c w hR hf=>.inr ?_) hd h
 have he:=cr hl hf
 refine⟨by rw[bz fun g b t hg ht=>he t (cx hg ht)];exact hw,fun K Q' hK=>?_⟩
 obtain⟨v,w',h1,h2,h3⟩:=hr w hR
 unfold Oper.wp
 rw[bO hns he,h1]
 exact hK _ _ h2 h3
end
def FU (B:Nat)(M0 M1:Obj)(a b:World):Prop:=ak a b (fun k=>k=B)/\(a.heap[B]?=some M0->b.heap[B]?=some M0\/b.heap[B]?=some M1)/\(a.heap[B]?=some M1->b.heap[B]?=some M1)
instance {B:Nat}{M0 M1:Obj}:bE (FU B M0 M1) where
 refl _:=⟨ak.refl _ _,.inl,id⟩
 trans h k:=⟨h.1.trans k.1,fun e=>(h.2.1 e).elim k.2.1 fun e2=>.inr (k.2.2 e2),fun e=>k.2.2 (h.2.2 e)⟩
 drew _:=⟨⟨rfl,rfl,rfl,aF _,fun _ _ _=>rfl⟩,.inl,id⟩
theorem lX{P:Program}(w:World){Q:Exit->Act->World->Prop}{ops:Array Oper}{rest:List Oper}{o:Oper}{a:Act}(hgd:o.guard=none)(t:TypeId)(m s x:Operand)
 (ho:o.op=.entryStore t m s x) {mv sv xv:Value} (hm:a.eval m=mv) (hs:a.eval s=sv) (hx:a.eval x=xv) {w':World}
 (hr:(Instr.entryStore t mv sv xv).run P w=.ok () w') (h:wpList P ops Q rest (a.put o.dst undef) w'):wpList P ops Q (o::rest) a w:=
 wpList_plain hgd fun K hK=>by
  unfold Oper.wp execOp;simp only[ho,hm,hs,hx,Sem.run_bind,hr,Sem.run_pure,Result.andThen_ok];exact hK _ _ h
theorem uW{f:Int}{S:List aO}{j:Nat}(hj:j<S.length)(h:dJ S[j] f=false):dS f none S=false:=by
 cases hs:dS f none S with
 |false=>rfl
 |true=>
  rw[gZ] at hs;rw[hs.2 _ (dK hj)] at h;cases h
theorem xA{f:Int}{S:List aO}{j:Nat}(hj:j+1<S.length)(h:dN S[j].labels S[j+1].labels=false):dS f none S=false:=by
 cases hs:dS f none S with
 |false=>rfl
 |true=>
  rw[gZ] at hs;have:=List.pairwise_iff_getElem.1 hs.1 j (j+1) (by omega) hj (by omega);rw[this] at h;cases h
theorem xz{f:Int}{S:List aO}{j:Nat}(hj:j<S.length)(h:dS f none (S.take j)=true)(hr:dJ S[j] f=true)(hl:∀(i:Nat) (hi:i+1=j),dN (S[i]'(by omega)).labels S[j].labels=true):dS f none (S.take (j+1))=true/\S[j].labels∉(S.take j).map (·.labels):=by
 rw[gZ] at h;have hall:∀x∈S.take j,dN x.labels S[j].labels=true:=fun x hx=>by
  obtain⟨i,hi,rfl⟩:=List.getElem_of_mem hx;rw[dp] at hi;rw[List.getElem_take];cases j with
  |zero=>omega
  |succ k=>
   by_cases hik:i=k
   ·subst hik;exact hl i rfl
   ·have h1:=List.pairwise_iff_getElem.1 h.1 i k (by rw[dp];omega) (by rw[dp];omega) (by omega);rw[List.getElem_take,List.getElem_take] at h1;exact rj h1 (hl k rfl)
 refine⟨?_,fun hm=>?_⟩
 ·rw[gZ,eM hj];refine⟨?_,fun x hx=>?_⟩
  ·unfold oB;rw[List.pairwise_append];refine⟨h.1,List.pairwise_singleton _ _,fun x hx y hy=>?_⟩;obtain rfl:=List.mem_singleton.1 hy;exact hall x hx
  ·rcases List.mem_append.1 hx with hx|hx
   ·exact h.2 x hx
   ·obtain rfl:=List.mem_singleton.1 hx;exact hr
 ·obtain⟨x,hx,e⟩:=List.mem_map.1 hm;have:=hall x hx;rw[e,xS] at this;cases this
theorem zh{x:aO}{f:Int}(h:dJ x f=true):bD x.labels=0:=by
 unfold dJ at h;simp only[Bool.and_eq_true,decide_eq_true_eq] at h;exact h.1.1
end
section
open Go.RowKit Go.Maps Go.WideMaps Go.ChangeMaps
attribute [local go_sem] am aq
theorem JD{w:World}{v:Value}{L:List Lb}(h:aC w v L):∀y∈L,kG y:=fun y hy=>by
 obtain⟨i,hi⟩:=List.getElem?_of_mem hy;obtain⟨_,_,_,_,h3⟩:=h;exact⟨(h3 i y hi).1,(h3 i y hi).2.1⟩
theorem lf{w w':World}{B:Nat}{K:List (List Lb)}(h:uJ w B K)(hb:Below w.heap.size w w'):uJ w' B K:=by
 obtain⟨es,clock,h1,h2⟩:=h;exact⟨es,clock,(hb.block B (Array.getElem?_eq_some_iff.1 h1).1).trans h1,h2⟩
theorem ol(v:Value)(S:List aO)(f:Int)(w:World)(h:aM w v S):
 Calls Tryz.prog 24 #[.agg #[v,.int .i64 f]] w fun e w'=>e=.returned (.bool (fx ⟨S,f⟩))/\Below w.heap.size w w':=by
 have HV:=af (show fx ⟨S,f⟩=(aX f&&(decide (S.length<=20)&&dS f none S)) from rfl)
 have hlen:=h.len
 have H:=af h
 obtain⟨sa,sc,rfl,_⟩:=id h
 obtain⟨N,hN⟩:∃N,S.length=N:=⟨_,rfl⟩
 have HN:=af hN
 rw[hN] at H hlen HV⊢
 have b1:=ai w (.cells #[.slice sa N sc,.int .i64 f] 49)
 have k1:=ag.new w 49 #[.slice sa N sc,.int .i64 f]
 have y0:=ax k1 0 (.slice sa N sc) rfl
 have y1:=ax k1 1 (.int .i64 f) rfl
 have q1:=af (fun W=>i3 f W)
 clear h hN
 go_enter Tryz.func24,Tryz.ntmps24
 go_upto_region 1 with fail
 generalize hW0:w.alloc _=W0 at*
 clear hW0
 go_wp2_with fail
 refine(q1.out _).mono ?_
 rintro e _ ⟨rfl,rfl⟩
 clear q1
 cases hti:aX f with
 |false=>
  have HZ:=af (show fx ⟨S,f⟩=false by rw[HV.out,hti];rfl);clear HV hti;go_wp2_with fail
  go_ret;exact⟨by rw[HZ.out];rfl,b1⟩
 |true=>
 by_cases h20:N<=20
 case neg=>
  have HZ:=af (show fx ⟨S,f⟩=false by rw[HV.out,hti,decide_eq_false h20];rfl);have h20i:(20:Int)<(N:Int):=by omega
  clear HV hti;go_wp2_with fail
  go_ret;exact⟨by rw[HZ.out];rfl,b1⟩
 have HZ:=af (show fx ⟨S,f⟩=dS f none S by rw[HV.out,hti,decide_eq_true h20];rfl)
 have h20i:¬((20:Int)<(N:Int)):=by omega
 clear HV hti
 have hm0:(W0.alloc (.map #[] 0)).heap[W0.heap.size]?=some (.map #[] 0):=heap_alloc_new _ _
 have b2:=b1.alloc b1.size (.map #[] 0)
 have k2:=ag.alloc k1 (.map #[] 0)
 have hsn:uJ (W0.alloc (.map #[] 0)) W0.heap.size []:=⟨#[],0,hm0,rfl,by simp,by simp,by simp⟩
 have hBw:w.heap.size<W0.heap.size:=k1.lt
 have hmm:=@run_makeMap Tryz.prog
 obtain⟨B,hB⟩:∃B,W0.heap.size=B:=⟨_,rfl⟩
 rw[hB] at hsn hBw
 clear k1 hm0 y1 b1
 have z0:=ax k2 0 (.slice sa N sc) rfl
 go_upto_region 4 with fail
 clear y0
 generalize hW2:W0.alloc _=W2 at*
 clear hW2 hB
 go_wp2_with fail
 clear z0 hmm
 go_loopw [21] (fun vi wr=>∃j:Nat,j<=N/\vi=.int .i64 (j:Int)/\Below w.heap.size w wr/\ag wr w.heap.size 49 #[.slice sa N sc,.int .i64 f]/\uJ wr B ((S.take j).map (·.labels))/\Hid (dS f none (S.take j)=true)) (fun vi _=>N-(intOf vi).toNat)
 case atStart=>exact⟨0,Nat.zero_le _,rfl,b2,k2,hsn,af rfl⟩
 clear b2 k2 hsn
 obtain⟨j,hj,rfl,hb,kr,hsn,HJ⟩:=hrel
 rcases(show j<N\/j=N by omega) with hjn|rfl
 ·have hjl:j<S.length:=by rw[HN.out];exact hjn
  have H':=H.out;obtain⟨gg,o,sl,sv,rfl,hVj,d0,d1,d2⟩:=cq H' hjl hb;have hlab:aC wr sl S[j].labels:=hVj.2.1;have hsm:aI wr sv S[j].samples:=hVj.2.2;obtain⟨ya,yc,rfl,_⟩:=id hlab;obtain⟨za,zc,rfl,_⟩:=id hsm;have b3:=ai wr (.cells #[.slice ya S[j].labels.length yc,.slice za S[j].samples.length zc,.int .i64 S[j].last] 88);have k3:=ag.new wr 88 #[.slice ya S[j].labels.length yc,.slice za S[j].samples.length zc,.int .i64 S[j].last];have B3:=ay hb b3;have kr3:=ag.below kr b3 kr.lt;have hlab3:=hlab.below b3;have q:=af (fun W (hW:Below wr.heap.size wr W)=>Bs _ _ _ _ S[j].last f W (hlab.below hW) (hsm.below hW));rw[show (⟨S[j].labels,S[j].samples,S[j].last⟩:aO)=S[j] from rfl] at q;have hsn3:=lf hsn b3;have hw9:IntKind.i64.wrap ((j:Int)+1)=(j:Int)+1:=ct _ (by omega);clear hVj hsn;go_upto_region 7 with fail
  generalize hW3:wr.alloc _=W3 at*;clear hW3;have g0:=aj (ax k3 0 (.slice ya S[j].labels.length yc) rfl);have g1:=aj (ax k3 1 (.slice za S[j].samples.length zc) rfl);have g2:=aj (ax k3 2 (.int .i64 S[j].last) rfl);have g3:=aj (ax kr3 0 (.slice (some ⟨gg,o,none⟩) N sc) rfl);have g4:=aj (ax kr3 1 (.int .i64 f) rfl);go_cut [47] (fun s47 wx=>∃ok:Bool,s47=.bool (!ok)/\Below W3.heap.size W3 wx/\(ok=false->dS f none S=false)/\(ok=true->dJ S[j] f=true/\∀(i:Nat) (hi:i+1=j),dN (S[i]'(by omega)).labels S[j].labels=true))
  case first=>
   cases hr:dJ S[j] f with
   |false=>
    rw[hr] at q;refine dY ?_;iterate 3 (refine bJ fun K hK=>?_;go_big_quiet_step (fail);refine hK _ ?_;clear hK K)
    (refine fS (f:=82) (args:=#[.agg #[.slice ya S[j].labels.length yc,.slice za S[j].samples.length zc,.int .i64 S[j].last],.int .i64 f]) (v:=.bool false) (fun W hW=>q.out W (b3.trans (Below.mono hW b3.size))) fun K hK=>?_;go_big_quiet_step (fail);refine hK _ ?_;clear hK K);iterate 2 (refine bJ fun K hK=>?_;go_big_quiet_step (fail);refine hK _ ?_;clear hK K)
    iterate 15 (refine Du fun K hK=>?_;go_big_quiet_step (fail);refine hK _ ?_;clear hK K)
    (refine bJ fun K hK=>?_;go_big_quiet_step (fail);refine hK _ ?_;clear hK K);refine eR ?_;intro w5 hb5;simp only[aB];go_wp2_with fail
    go_meet;exact⟨false,rfl,hb5,fun _=>uW hjl hr,fun e=>Bool.noConfusion e⟩
   |true=>
    rw[hr] at q;cases j with
    |zero=>
     refine dY ?_;iterate 3 (refine bJ fun K hK=>?_;go_big_quiet_step (fail);refine hK _ ?_;clear hK K)
     (refine fS (f:=82) (args:=#[.agg #[.slice ya S[0].labels.length yc,.slice za S[0].samples.length zc,.int .i64 S[0].last],.int .i64 f]) (v:=.bool true) (fun W hW=>q.out W (b3.trans (Below.mono hW b3.size))) fun K hK=>?_;go_big_quiet_step (fail);refine hK _ ?_;clear hK K);iterate 2 (refine bJ fun K hK=>?_;go_big_quiet_step (fail);refine hK _ ?_;clear hK K)
     iterate 3 (refine bJ fun K hK=>?_;go_big_quiet_step (fail);refine hK _ ?_;clear hK K)
     iterate 11 (refine Du fun K hK=>?_;go_big_quiet_step (fail);refine hK _ ?_;clear hK K)
     iterate 2 (refine bJ fun K hK=>?_;go_big_quiet_step (fail);refine hK _ ?_;clear hK K)
     refine eR ?_;intro w5 hb5;simp only[aB];go_wp2_with fail
     go_meet;exact⟨true,rfl,hb5,fun e=>Bool.noConfusion e,fun _=>⟨hr,fun i hi=>by omega⟩⟩
    |succ j=>
     have hjp:j<S.length:=by omega
     obtain⟨gg',o',pl,pv,e,hVp,p0,_⟩:=cq H' hjp hb;cases e;have hlabp:aC wr pl S[j].labels:=hVp.2.1;obtain⟨pa,pc,rfl,_⟩:=id hlabp;have q2:=af (fun W (hW:Below wr.heap.size wr W)=>kQ _ _ _ _ W (hlabp.below hW) (hlab.below hW));have g5:=aj (cu b3 p0);have hwr:IntKind.i64.wrap (((j+1:Nat):Int)-1)=(j:Int):=by rw[ct _ (by omega)];omega
     have hwr2:IntKind.i64.wrap ((j:Int)+1-1)=(j:Int):=by rw[ct _ (by omega)];omega
     have hps:(0:Int)<((j+1:Nat):Int):=by omega
     have hps2:(0:Int)<(j:Int)+1:=by omega
     have hjpi:(j:Int)<(N:Int):=by omega
     clear hVp;cases hle:dN S[j].labels S[j+1].labels with
     |true=>
      rw[hle] at q2;refine dY ?_;iterate 3 (refine bJ fun K hK=>?_;go_big_quiet_step (fail);refine hK _ ?_;clear hK K)
      (refine fS (f:=82) (args:=#[.agg #[.slice ya S[j+1].labels.length yc,.slice za S[j+1].samples.length zc,.int .i64 S[j+1].last],.int .i64 f]) (v:=.bool true) (fun W hW=>q.out W (b3.trans (Below.mono hW b3.size))) fun K hK=>?_;go_big_quiet_step (fail);refine hK _ ?_;clear hK K);iterate 2 (refine bJ fun K hK=>?_;go_big_quiet_step (fail);refine hK _ ?_;clear hK K)
      iterate 3 (refine bJ fun K hK=>?_;go_big_quiet_step (fail);refine hK _ ?_;clear hK K)
      iterate 9 (refine bJ fun K hK=>?_;go_big_quiet_step (fail);refine hK _ ?_;clear hK K)
      (refine fS (f:=66) (args:=#[.slice pa S[j].labels.length pc,.slice ya S[j+1].labels.length yc]) (v:=.bool true) (fun W hW=>q2.out W (b3.trans (Below.mono hW b3.size))) fun K hK=>?_;go_big_quiet_step (fail);refine hK _ ?_;clear hK K);iterate 3 (refine bJ fun K hK=>?_;go_big_quiet_step (fail);refine hK _ ?_;clear hK K)
      refine eR ?_;intro w5 hb5;simp only[aB];go_wp2_with fail
      go_meet
      exact⟨true,rfl,hb5,fun e=>Bool.noConfusion e,fun _=>⟨hr,fun i hi=>by obtain rfl:i=j:=by omega
                                                                           exact hle⟩⟩
     |false=>
      rw[hle] at q2;refine dY ?_;iterate 3 (refine bJ fun K hK=>?_;go_big_quiet_step (fail);refine hK _ ?_;clear hK K)
      (refine fS (f:=82) (args:=#[.agg #[.slice ya S[j+1].labels.length yc,.slice za S[j+1].samples.length zc,.int .i64 S[j+1].last],.int .i64 f]) (v:=.bool true) (fun W hW=>q.out W (b3.trans (Below.mono hW b3.size))) fun K hK=>?_;go_big_quiet_step (fail);refine hK _ ?_;clear hK K);iterate 2 (refine bJ fun K hK=>?_;go_big_quiet_step (fail);refine hK _ ?_;clear hK K)
      iterate 3 (refine bJ fun K hK=>?_;go_big_quiet_step (fail);refine hK _ ?_;clear hK K)
      iterate 9 (refine bJ fun K hK=>?_;go_big_quiet_step (fail);refine hK _ ?_;clear hK K)
      (refine fS (f:=66) (args:=#[.slice pa S[j].labels.length pc,.slice ya S[j+1].labels.length yc]) (v:=.bool false) (fun W hW=>q2.out W (b3.trans (Below.mono hW b3.size))) fun K hK=>?_;go_big_quiet_step (fail);refine hK _ ?_;clear hK K);iterate 3 (refine bJ fun K hK=>?_;go_big_quiet_step (fail);refine hK _ ?_;clear hK K)
      refine eR ?_;intro w5 hb5;simp only[aB];go_wp2_with fail
      go_meet;exact⟨false,rfl,hb5,fun _=>xA hjl hle,fun e=>Bool.noConfusion e⟩
  case rest=>
   obtain⟨ok,rfl,hb5,h1,h2⟩:=hcut;have B5:=ay b3 hb5;have BW:=ay hb B5;cases ok with
   |false=>
    have HQ:=af (show fx ⟨S,f⟩=false by rw[HZ.out];exact h1 rfl);clear h1 h2 g0 g1 g2 g3 g4 q;go_wp2_with fail
    go_ret;exact⟨by rw[HQ.out];rfl,BW⟩
   |true=>
    obtain⟨hr,hless⟩:=h2 rfl;obtain⟨hj1,hnew⟩:=xz hjl HJ.out hr hless;have HJ1:=af hj1;have hce:=zh hr;have hoks:=JD hlab;have h6:=(jS hce).2;have kr5:=ag.below kr3 hb5 kr3.lt;have k5:=ag.below k3 hb5 k3.lt;have hsn5:=lf hsn3 hb5;have hlab5:=hlab3.below hb5;have b6:=ai wc (.cells (List.replicate 12 (.string ⟨#[]⟩)).toArray 140);have k6:=ag.new wc 140 (List.replicate 12 (.string ⟨#[]⟩)).toArray;have kr6:=ag.below kr5 b6 kr5.lt;have kx6:=ag.below k5 b6 k5.lt;have hsn6:=lf hsn5 b6;have hlab6:=hlab5.below b6;have BW6:=ay BW b6;obtain⟨W6,hW6⟩:∃W6,wc.alloc (.cells (List.replicate 12 (.string ⟨#[]⟩)).toArray 140)=W6:=⟨_,rfl⟩
    rw[hW6] at k6 kr6 kx6 hsn6 hlab6 BW6 b6;clear h1 h2 g0 g1 g2 g3 g4 q hj1 hr hless k5 hlab5 hb5 B5;go_upto_region 10 with fail
    generalize hX:wc.alloc _=WX;obtain rfl:W6=WX:=by rw[<-hW6,<-hX];rfl
    clear hW6 hX;have g0:=aj (ax kx6 0 (.slice ya S[j].labels.length yc) rfl);refine cB (R:=co) 3 100 (by kernel_rfl) (by kernel_rfl) (by kernel_rfl) ?_;simp only[List.take_succ_cons,List.take_zero,List.drop_succ_cons,List.drop_zero]
    (refine nw (v:=.slice (some ⟨wc.heap.size,0,none⟩) 6 6) (fun _ _=>by go_simp) fun K hK=>?_;go_big_quiet_step (fail);refine hK _ ?_;clear hK K);iterate 2 (refine bJ fun K hK=>?_;go_big_quiet_step (fail);refine hK _ ?_;clear hK K)
    refine eR ?_;intro w7 hb7;simp only[aB];unfold bF;obtain⟨n,w8,hcp,hB8,hbel⟩:=yk (ag.below k6 hb7 k6.lt) (hlab6.below hb7) h6;have b8:=hbel _ wc (ay b6 hb7) (aF _);have kr8:=ag.below kr5 b8 kr5.lt;have BW8:=ay BW b8;obtain⟨es,clock,hes,hks,hs1,hs2,hK⟩:=lf hsn5 b8;have hkey:=GO (dD S[j].labels) (mo _ h6) (Dp hoks);have hkk:=Ei hks hK;have hnn:=Gm hks hK hce hnew;have ht:=Tryz.underlying137;have hz:∀u:World,(zeroValue 3).run Tryz.prog u=.ok (.int .i64 0) u:=fun u=>by go_simp
    have HP:=af (fun (W':World) (h:W'.heap[B]?=some (cX es clock (m9 (dD S[j].labels)) (.int .i64 1)))=>(Eh hks hK hs1 hs2 hce hoks h));have hgB:wc.heap.size≠B:=by
     obtain⟨_,_,h1,_⟩:=hsn5;have:=(Array.getElem?_eq_some_iff.1 h1).1;omega
    clear hbel b8 g0 k6 kr6 kx6 hsn6 hlab6 BW6 hb7 b6 kr5 hsn5 BW hks hK;refine dW _ rfl _ _ _ _ rfl _ _ rfl rfl hcp ?_;clear hcp;go_upto_region 11 with fail
    simp only[Act.put,goInt,List.setIfInBounds_toArray,List.set_cons_succ,List.set_cons_zero];have hL1:=af (show ∀W,FU B (.map es clock) (cX es clock (m9 (dD S[j].labels)) (.int .i64 0)) w8 W->((do pure (Next.value (<-Instr.loadAt 140 (.pointer (some ⟨wc.heap.size,0,none⟩)))):Sem Next)).run Tryz.prog W=.ok (.value (m9 (dD S[j].labels))) W from fun W hW=>by
     have hBW:=ag.keptK hB8 hW.1 hgB
     have hr:=run_loadVar_row (P:=Tryz.prog) W wc.heap.size 140 140 _ (0,0) _ hBW Tryz.underlying140 rfl (by rw[List.size_toArray,ef,mo _ h6];kernel_rfl)
     simp only[Instr.loadAt,Instr.sureAddr,Sem.run_bind,Sem.run_pure,Result.andThen_ok,hr]
     rfl)
    have hL2:=af (show ∀W,FU B (.map es clock) (cX es clock (m9 (dD S[j].labels)) (.int .i64 0)) w8 W->((do pure (Next.value (<-Instr.lookup 137 (.map (some B)) (m9 (dD S[j].labels)) false)):Sem Next)).run Tryz.prog W=.ok (.value (.int .i64 0)) W from fun W hW=>by
     have hr:(Instr.lookup 137 (.map (some B)) (m9 (dD S[j].labels)) false).run Tryz.prog W=.ok (.int .i64 0) W:=by
      rcases hW.2.1 hes with e|e
      ·exact GW Dt ht hz hkey hkk hnn e
      ·exact EQ Dt ht hkey hkk hnn e
     simp only[Sem.run_bind,Sem.run_pure,Result.andThen_ok,hr])
    have hL3:=af (show ∀W,FU B (.map es clock) (cX es clock (m9 (dD S[j].labels)) (.int .i64 0)) w8 W->∃v W',((do pure (Next.value (<-Instr.mapEntry 137 (.map (some B)) (m9 (dD S[j].labels)))):Sem Next)).run Tryz.prog W=.ok (.value v) W'/\FU B (.map es clock) (cX es clock (m9 (dD S[j].labels)) (.int .i64 0)) W W'/\(v=.tuple #[.int .i64 0,.int .i64 (clock:Int)]/\W'.heap[B]?=some (cX es clock (m9 (dD S[j].labels)) (.int .i64 0))) from fun W hW=>by
     rcases hW.2.1 hes with e|e
     ·have hr:=Fp Dt ht hz hkey hkk hnn e
      refine⟨_,setBlock W B (cX es clock (m9 (dD S[j].labels)) (.int .i64 0)),by simp only[Sem.run_bind,Sem.run_pure,Result.andThen_ok,hr];rfl,⟨ak.of_grown (ez e) fun k e=>(az e).symm,fun _=>.inr (heap_setBlock_same e _),fun _=>heap_setBlock_same e _⟩,rfl,heap_setBlock_same e _⟩
     ·have hr:=Cu Dt ht hkey hkk hnn e
      refine⟨_,setBlock W B (cX es clock (m9 (dD S[j].labels)) (.int .i64 0)),by simp only[Sem.run_bind,Sem.run_pure,Result.andThen_ok,hr];rfl,⟨ak.of_grown (ez e) fun k e=>(az e).symm,fun _=>.inr (heap_setBlock_same e _),fun _=>heap_setBlock_same e _⟩,rfl,heap_setBlock_same e _⟩)
    refine cB (R:=FU B (.map es clock) (cX es clock (m9 (dD S[j].labels)) (.int .i64 0))) 6 100 (by kernel_rfl) (by kernel_rfl) (by kernel_rfl) ?_;simp only[List.take_succ_cons,List.take_zero,List.drop_succ_cons,List.drop_zero]
    (refine bJ fun K hK=>?_;go_big_quiet_step (fail);refine hK _ ?_;clear hK K);refine xR (v:=m9 (dD S[j].labels)) (by kernel_rfl) (fun _ _ h=>by cases h) (by kernel_rfl) (by kernel_rfl) (fun W hW=>hL1.out W hW) (i9 (type:=0) (pos:= "") (fun K hK=>?_));go_big_quiet_step (fail);refine hK _ ?_;clear hK K;refine xR (v:=.int .i64 0) (by kernel_rfl) (fun _ _ h=>by cases h) (by kernel_rfl) (by kernel_rfl) (fun W hW=>hL2.out W hW) (i9 (type:=0) (pos:= "") (fun K hK=>?_));go_big_quiet_step (fail);refine hK _ ?_;clear hK K
    (refine bJ fun K hK=>?_;go_big_quiet_step (fail);refine hK _ ?_;clear hK K);refine JA 56 (r:=fun x W=>x=.tuple #[.int .i64 0,.int .i64 (clock:Int)]/\W.heap[B]?=some (cX es clock (m9 (dD S[j].labels)) (.int .i64 0))) (fun x w w' ⟨h1,h2⟩ hR=>⟨h1,hR.2.2 h2⟩) (by kernel_rfl) (fun _ _ h=>by cases h) (by kernel_rfl) rfl (fun W hW=>hL3.out W hW) ?_;refine Dv 56 (.int .i64 (clock:Int)) 1 rfl rfl rfl (by kernel_rfl) (fun x w ⟨h1,_⟩=>⟨_,h1,rfl⟩) (i9 (type:=0) (pos:= "") (fun K hK=>?_));go_big_quiet_step (fail);refine hK _ ?_;clear hK K;refine eR ?_;intro w9 hR9;simp only[aB];rintro x ⟨rfl,hM1⟩;unfold bF;refine lX w9 rfl _ _ _ _ rfl rfl rfl rfl (Bj (v:=.int .i64 1) hs1 hs2 hM1) ?_;have kA:ak w9 (setBlock w9 B (cX es clock (m9 (dD S[j].labels)) (.int .i64 1))) (fun k=>k=B):=ak.of_grown (ez hM1) fun k e=>(az e).symm;have K8:=hR9.1.trans kA;have krA:=ag.keptK kr8 K8 (show ¬(w.heap.size=B) by omega);have hsA:=HP.out _ (heap_setBlock_same hM1 _:(setBlock w9 B (cX es clock (m9 (dD S[j].labels)) (.int .i64 1))).heap[B]?=_);have BA:=BW8.trans (K8.below BW8.size fun k e=>by omega);clear hL1 hL2 hL3 HP hkey hkk hnn hs1 hs2 hM1 hR9 kA K8 hB8 hes BW8 kr8;go_wp2_with fail
    go_roundw
    case rel=>
     refine⟨j+1,hjn,by go_num,BA,krA,?_,HJ1⟩;rw[eM hjl,List.map_append];exact hsA
    case measure=>simp[intOf];omega
 ·have HQ:=af (show fx ⟨S,f⟩=true by rw[HZ.out,<-HJ.out,List.take_of_length_le (by rw[HN.out];exact aF _)]);obtain⟨es,clock,hes,hks,_⟩:=hsn;have hsz:=Eg hks;rw[List.length_map,dp,HN.out,Nat.min_self] at hsz;have y0:=ax kr 0 (.slice sa j sc) rfl;clear hks;have hgo:∀ty,(Builtin.len_ #[137] ty #[.map (some B)]).run Tryz.prog wr=.ok (.int .i64 (es.size:Int)) wr:=fun ty=>by simp[Builtin.len_,run_underlying Tryz.underlying137,MapKept.run_getObj_map hes,goInt,Result.andThen]
  subst hsz;go_wp2_with fail
  go_ret;exact⟨by rw[HQ.out];rfl,hb⟩
end
section
open Go.RowKit
attribute [local go_sem] am aq
def rf(n:Nat)(R:List Rc):Nat:=R.foldl (fun n x=>max n (a8 x.labels)) n
def tO(n:Nat)(S:List aO):Nat:=S.foldl (fun n x=>max n (a8 x.labels)) n
theorem BT(n:Nat)(R:List Rc){j:Nat}(h:j<R.length):rf n (R.take (j+1))=max (rf n (R.take j)) (a8 R[j].labels):=by
 unfold rf;rw[eM h,List.foldl_append];rfl
theorem BS(n:Nat)(S:List aO){j:Nat}(h:j<S.length):tO n (S.take (j+1))=max (tO n (S.take j)) (a8 S[j].labels):=by
 unfold tO;rw[eM h,List.foldl_append];rfl
theorem pA(gv sv:Value)(R:List Rc)(S:List aO)(f:Int)(w:World)(hR:dw w gv R)(h:aM w sv S):
 Calls Tryz.prog 17 #[.agg #[.int .i64 f,gv,sv]] w fun e w'=>e=.returned (.int .i64 (ey ⟨f,R,S⟩:Int))/\Below w.heap.size w w':=by
 have HL:=af (show ey ⟨f,R,S⟩=tO (rf 0 (R.take R.length)) (S.take S.length) by rw[List.take_length,List.take_length];rfl)
 have hlenS:=h.len
 have H:=af h
 obtain⟨ga,gc,rfl,hlenR,hx⟩:=hR
 have HX:=af hx
 obtain⟨sa,sc,rfl,_⟩:=id h
 obtain⟨N,hN⟩:∃N,S.length=N:=⟨_,rfl⟩
 obtain⟨M,hM⟩:∃M,R.length=M:=⟨_,rfl⟩
 have HN:=af hN
 have HM:=af hM
 rw[hN] at H hlenS HL⊢
 rw[hM] at hlenR HL⊢
 have b1:=ai w (.cells #[.int .i64 f,.slice ga M gc,.slice sa N sc] 25)
 have k1:=ag.new w 25 #[.int .i64 f,.slice ga M gc,.slice sa N sc]
 have y1:=ax k1 1 (.slice ga M gc) rfl
 clear h hx hN hM
 go_enter Tryz.func17,Tryz.ntmps17
 go_upto_region 2 with fail
 generalize hW0:w.alloc _=W0 at*
 clear hW0
 go_wp2_with fail
 clear y1
 go_loopw [3,11] (fun vn vi wr=>∃j:Nat,j<=M/\vi=.int .i64 (j:Int)/\vn=.int .i64 (rf 0 (R.take j):Int)/\Below w.heap.size w wr/\ag wr w.heap.size 25 #[.int .i64 f,.slice ga M gc,.slice sa N sc]) (fun _ vi _=>M-(intOf vi).toNat)
 case atStart=>exact⟨0,Nat.zero_le _,rfl,rfl,b1,k1⟩
 clear b1 k1
 obtain⟨j,hj,rfl,rfl,hb,kr⟩:=hrel
 rcases(show j<M\/j=M by omega) with hjn|rfl
 ·have hjl:j<R.length:=by rw[HM.out];exact hjn
  obtain⟨b,o,rfl,hrec⟩:=HX.out j R[j] (aV hjl);obtain⟨_,sl,d0,d1,hlab,d2,d3,d4⟩:=rM.below hrec hb;have HS:=af (BT 0 R hjl);clear hrec;generalize R[j]=x at*;generalize rf 0 (R.take j)=dn at*;obtain⟨ya,yc,rfl,_⟩:=id hlab;have b3:=ai wr (.cells #[.int .i64 x.kind,.slice ya x.labels.length yc,.int .i64 x.t,.int .i64 x.u,.int .u64 (x.v:Int)] 108);have k3:=ag.new wr 108 #[.int .i64 x.kind,.slice ya x.labels.length yc,.int .i64 x.t,.int .i64 x.u,.int .u64 (x.v:Int)];have e1:=ax k3 1 (.slice ya x.labels.length yc) rfl;have B3:=ay hb b3;have q:=af (iS _ _ _ (hlab.below b3));have kr3:=ag.below kr b3 kr.lt;have hw9:IntKind.i64.wrap ((j:Int)+1)=(j:Int)+1:=ct _ (by omega);clear hlab k3 b3 kr;go_wp2_with fail
  refine bL q.out fun w2 hb2=>?_;have B4:=ay B3 hb2;have kr4:=ag.below kr3 hb2 kr3.lt;clear q kr3 e1;go_wp2_with fail
  go_roundw
  case rel=>
   refine⟨j+1,hjn,by go_num,?_,B4,kr4⟩;rw[HS.out];congr 1;omega
  case measure=>simp[intOf];omega
 ·have HL2:=af (show ey ⟨f,R,S⟩=tO (rf 0 (R.take j)) (S.take N) from HL.out);generalize rf 0 (R.take j)=d0 at*;have y2:=ax kr 2 (.slice sa N sc) rfl;clear HL;go_wp2_with fail
  clear y2;go_loopw [3,24] (fun vn vi wr=>∃i:Nat,i<=N/\vi=.int .i64 (i:Int)/\vn=.int .i64 (tO d0 (S.take i):Int)/\Below w.heap.size w wr) (fun _ vi _=>N-(intOf vi).toNat)
  case atStart=>exact⟨0,Nat.zero_le _,rfl,rfl,hb⟩
  clear hb kr;obtain⟨i,hi,rfl,rfl,hb⟩:=hrel;rcases(show i<N\/i=N by omega) with hin|rfl
  ·have hil:i<S.length:=by rw[HN.out];exact hin
   obtain⟨gg,o,sl,sv,rfl,hV,c0,c1,c2⟩:=cq H.out hil hb;have HS:=af (BS d0 S hil);generalize S[i]=x at*;generalize tO d0 (S.take i)=dn at*;have hlab:aC _ sl x.labels:=hV.2.1;obtain⟨za,zc,hsv,_⟩:=id hV.2.2;simp only at hsv;subst hsv;obtain⟨ya,yc,rfl,_⟩:=id hlab;have b3:=ai wr (.cells #[.slice ya x.labels.length yc,.slice za x.samples.length zc,.int .i64 x.last] 88);have k3:=ag.new wr 88 #[.slice ya x.labels.length yc,.slice za x.samples.length zc,.int .i64 x.last];have e1:=ax k3 0 (.slice ya x.labels.length yc) rfl;have B3:=ay hb b3;have q:=af (iS _ _ _ (hlab.below b3));have hw9:IntKind.i64.wrap ((i:Int)+1)=(i:Int)+1:=ct _ (by omega);clear hlab k3 b3 hV;go_wp2_with fail
   refine bL q.out fun w2 hb2=>?_;have B4:=ay B3 hb2;clear q e1;go_wp2_with fail
   go_roundw
   case rel=>
    refine⟨i+1,hin,by go_num,?_,B4⟩;rw[HS.out];congr 1;omega
   case measure=>simp[intOf];omega
  ·go_wp2_with fail
   go_ret;exact⟨by rw[HL2.out];rfl,hb⟩
theorem Au(w0:World):jT 60 #[] gD w0:=by
 intro x sl sv w _ hS;have hl:aC w sl x.labels:=hS.2.1;have hs:aI w sv x.samples:=hS.2.2;obtain⟨l,L,b⟩:=x;simp only at hl hs;show Calls Tryz.prog 60 #[.agg #[sl,sv,.int .i64 b]] w fun e W'=>e=.returned (.bool (gD ⟨l,L,b⟩))/\Below w.heap.size w W';have HO:=af (show gD ⟨l,L,b⟩=(!decide (bD l=0)||(!dh L||(decide (200<L.length)|| !aX b))) from rfl);have b1:=ai w (.cells #[sl,sv,.int .i64 b] 88);have k1:=ag.new w 88 #[sl,sv,.int .i64 b];have q1:=af (jj l sl _ (hl.below b1));have q2:=af (fun W (hb:Below w.heap.size w W)=>lF sv L W (hs.below hb));have q3:=af (fun W=>pm b W);obtain⟨ra,rc,rfl,_⟩:=id hl;obtain⟨sa,sc,rfl,_⟩:=id hs;have hln:=hs.len;obtain⟨c0,c1,c2⟩:=iV k1;clear hl hs hS;go_enter Tryz.func60,Tryz.ntmps60
 go_wp2_with fail
 generalize hW0:w.alloc _=W0 at*;clear hW0;refine bL q1.out fun w1 hb1=>?_;have B1:=ay b1 hb1;have m1:=ag.below k1 hb1 k1.lt;obtain⟨c0,c1,c2⟩:=iV m1;clear q1 hb1 k1 b1;rcases oh l with hc|hc
 case inr=>
  have HZ:=af (show gD ⟨l,L,b⟩=true by rw[HO.out,hc];rfl);rw[hc];clear HO hc q2 q3;go_wp2_with fail
  go_ret;exact⟨by rw[HZ.out];rfl,B1⟩
 rw[hc] at HO⊢;clear hc;go_wp2_with fail
 refine(q2.out _ B1).mono ?_;rintro e w2 ⟨rfl,hb2⟩;have B2:=ay B1 hb2;have m2:=ag.below m1 hb2 m1.lt;obtain⟨c0,c1,c2⟩:=iV m2;clear q2 hb2 m1;cases hso:dh L with
 |false=>
  have HZ:=af (show gD ⟨l,L,b⟩=true by rw[HO.out,hso];rfl);clear HO q3 hso;go_wp2_with fail
  go_ret;exact⟨by rw[HZ.out];rfl,B2⟩
 |true=>
  rw[hso] at HO;clear hso;by_cases h2:200<L.length
  ·have HZ:=af (show gD ⟨l,L,b⟩=true by rw[HO.out,decide_eq_true h2];rfl);have h2i:((200:Int)<(L.length:Int)):=by omega
   clear HO q3;go_wp2_with fail
   go_ret;exact⟨by rw[HZ.out];rfl,B2⟩
  ·have h2i:¬((200:Int)<(L.length:Int)):=by omega
   have HZ:=af (show gD ⟨l,L,b⟩=(decide ((200:Int)<(L.length:Int))|| !aX b) by rw[HO.out,decide_eq_false h2,decide_eq_false h2i];rfl);clear HO;go_wp2_with fail
   refine(q3.out _).mono ?_;rintro e _ ⟨rfl,rfl⟩;clear q3;go_wp2_with fail
   go_ret;exact⟨by rw[HZ.out];rfl,B2⟩
theorem Av(g:Int)(b:Nat)(w0:World)(hb:w0.cell? ⟨b,0,none⟩=some (.int .i64 g))(hg1: -9223372036854775808<=g)(hg2:g<=9223372036854775807):yB 58 #[.pointer (some ⟨b,0,none⟩)] (lu g) w0:=by
 intro x sl w hW hV;have hl:aC w sl x.labels:=hV.2;obtain⟨xk,xl,xt,xu,xv⟩:=x;simp only at hl⊢;have HO:=af (show lu g ⟨xk,xl,xt,xu,xv⟩=(!decide (xk=1)||decide (dI ⟨xk,xl,xt,xu,xv⟩ g=1)) from rfl);have b1:=ai w (.cells #[.int .i64 xk,sl,.int .i64 xt,.int .i64 xu,.int .u64 (xv:Int)] 108);have k1:=ag.new w 108 #[.int .i64 xk,sl,.int .i64 xt,.int .i64 xu,.int .u64 (xv:Int)];have q:=af (qj ⟨xk,xl,xt,xu,xv⟩ sl g _ hV.1 (hl.below b1) hg1 hg2);have B:=ay hW b1;have gc:=cu B hb;rw[show rS ⟨xk,xl,xt,xu,xv⟩ sl=.agg #[.int .i64 xk,sl,.int .i64 xt,.int .i64 xu,.int .u64 (xv:Int)] from rfl] at q;obtain⟨ra,rc,rfl,_⟩:=id hl;have c0:=ax k1 0 (.int .i64 xk) rfl;have c1:=ax k1 1 (.slice ra xl.length rc) rfl;have c2:=ax k1 2 (.int .i64 xt) rfl;have c3:=ax k1 3 (.int .i64 xu) rfl;have c4:=ax k1 4 (.int .u64 (xv:Int)) rfl;clear hl hV k1 hb hW B;go_enter Tryz.func58,Tryz.ntmps58
 by_cases hk:xk=1
 ·subst hk;have HZ:=af (show lu g ⟨1,xl,xt,xu,xv⟩=decide (dI ⟨1,xl,xt,xu,xv⟩ g=1) by rw[HO.out];rfl);clear HO;go_wp2_with fail
  refine bL q.out fun w1 hb1=>?_;clear q;go_wp2_with fail
  go_ret;exact⟨by rw[HZ.out];rfl,ay b1 hb1⟩
 ·have hkb:(xk==1)=false:=by simpa using hk
  have hkb2:decide (xk=1)=false:=decide_eq_false hk;have HZ:=af (show lu g ⟨xk,xl,xt,xu,xv⟩=true by rw[HO.out,hkb2];rfl);clear HO q;go_wp2_with fail
  go_ret;exact⟨by rw[HZ.out];rfl,b1⟩
def Lg (b:nd)(g:Int):Prop:=g<1\/3<g\/aX b.floor=false\/400<b.gone.length\/20<b.ser.length\/b.gone.any (lu g)=true\/b.ser.any gD=true
theorem A4{b:nd}{g:Int}(h:Lg b g):dB b g=1:=if_pos h
theorem yJ{b:nd}{g:Int}(h:¬Lg b g):dB b g=if gC none b.ser=false then 1 else if cZ g<(ey b:Int) then 3 else 0:=if_neg h
def J9(p:Option (List Lb))(l:List Lb):Bool:=match p with|none=>true|some q=>dN q l
theorem Br(S:List aO)(p:Option (List Lb)){j:Nat}(h:j<S.length):gC p (S.drop j)=(J9 p S[j].labels&&gC (some S[j].labels) (S.drop (j+1))):=by
 rw[List.drop_eq_getElem_cons h];rfl
theorem uK(gv sv:Value)(R:List Rc)(S:List aO)(f g:Int)(w:World)(hR:dw w gv R)(h:aM w sv S)(hg1: -9223372036854775808<=g)(hg2:g<=9223372036854775807):
 Calls Tryz.prog 16 #[.agg #[.int .i64 f,gv,sv],.int .i64 g] w fun e w'=>e=.returned (.int .i64 (dB ⟨f,R,S⟩ g))/\Below w.heap.size w w':=by
 have b1:=ai w (.cells #[.int .i64 f,gv,sv] 25)
 have b2:=b1.alloc b1.size (.cells #[.int .i64 g] 3)
 have k1:=ag.alloc (ag.new w 25 #[.int .i64 f,gv,sv]) (.cells #[.int .i64 g] 3)
 have k2:=ag.new (w.alloc (.cells #[.int .i64 f,gv,sv] 25)) 3 #[.int .i64 g]
 rw[aW] at k2
 have HO:=af (fun h=>A4 (b:=⟨f,R,S⟩) (g:=g) h)
 have HE:=af (fun h=>yJ (b:=⟨f,R,S⟩) (g:=g) h)
 have cg:((w.alloc (.cells #[.int .i64 f,gv,sv] 25)).alloc (.cells #[.int .i64 g] 3)).cell? ⟨w.heap.size+1,0,none⟩=some (.int .i64 g):=(ag.cell k2 0).trans rfl
 have q1:=af (fun W=>pm f W)
 have q2:=af (fun W (hb:Below w.heap.size w W) (hc:W.cell? ⟨w.heap.size+1,0,none⟩=some (.int .i64 g))=>Fy 58 #[.pointer (some ⟨w.heap.size+1,0,none⟩)] (lu g) gv R W (hR.below hb) (Av g (w.heap.size+1) W hc hg1 hg2) (fun args W=>by go_simp))
 have q3:=af (fun W (hb:Below w.heap.size w W)=>Fz 60 #[] gD sv S W (h.below hb) (Au W) (fun args W=>by go_simp))
 have q4:=af (fun W (hb:Below w.heap.size w W)=>pA gv sv R S f W (hR.below hb) (h.below hb))
 have q5:=af (fun W=>mZ g W hg1 hg2)
 obtain⟨ga,gc,rfl,hlR,_⟩:=id hR
 obtain⟨sa,sc,rfl,_⟩:=id h
 have hlS:=h.len
 have H:=af h
 have y0:=ax k1 0 (.int .i64 f) rfl
 have y1:=ax k1 1 (.slice ga R.length gc) rfl
 have y2:=ax k1 2 (.slice sa S.length sc) rfl
 clear h hR
 go_enter Tryz.func16,Tryz.ntmps16
 go_upto_region 3 with fail
 generalize hW0:(w.alloc _).alloc _=W0 at*
 clear hW0
 by_cases t1:g<1
 ·have HZ:=af (HO.out (.inl t1));clear HO HE q1 q2 q3 q4 q5;go_wp2_with fail
  go_ret;exact⟨by rw[HZ.out];rfl,b2⟩
 by_cases t2:3<g
 ·have HZ:=af (HO.out (.inr (.inl t2)));clear HO HE q1 q2 q3 q4 q5;go_wp2_with fail
  go_ret;exact⟨by rw[HZ.out];rfl,b2⟩
 go_wp2_with fail
 refine(q1.out _).mono ?_
 rintro e _ ⟨rfl,rfl⟩
 clear q1
 cases t3:aX f with
 |false=>
  have HZ:=af (HO.out (.inr (.inr (.inl t3))));clear HO HE q2 q3 q4 q5 t3;go_wp2_with fail
  go_ret;exact⟨by rw[HZ.out];rfl,b2⟩
 |true=>
 by_cases t4:400<R.length
 ·have HZ:=af (HO.out (.inr (.inr (.inr (.inl t4)))));have t4i:(400:Int)<(R.length:Int):=by omega
  clear HO HE q2 q3 q4 q5 t3;go_wp2_with fail
  go_ret;exact⟨by rw[HZ.out];rfl,b2⟩
 by_cases t5:20<S.length
 ·have HZ:=af (HO.out (.inr (.inr (.inr (.inr (.inl t5))))));have t4i:¬((400:Int)<(R.length:Int)):=by omega
  have t5i:(20:Int)<(S.length:Int):=by omega
  clear HO HE q2 q3 q4 q5 t3;go_wp2_with fail
  go_ret;exact⟨by rw[HZ.out];rfl,b2⟩
 have t4i:¬((400:Int)<(R.length:Int)):=by omega
 have t5i:¬((20:Int)<(S.length:Int)):=by omega
 have T3:=af t3
 clear t3
 go_wp2_with fail
 refine(q2.out _ b2 cg).mono ?_
 rintro e w1 ⟨rfl,hb1⟩
 have B1:=ay b2 hb1
 have m1:=ag.below k1 hb1 k1.lt
 have cg1:=cu hb1 cg
 have y2:=ax m1 2 (.slice sa S.length sc) rfl
 clear q2
 cases t6:R.any (lu g) with
 |true=>
  have HZ:=af (HO.out (.inr (.inr (.inr (.inr (.inr (.inl t6)))))));clear HO HE q3 q4 q5 t6;go_wp2_with fail
  go_ret;exact⟨by rw[HZ.out];rfl,B1⟩
 |false=>
 have T6:=af t6
 clear t6
 go_wp2_with fail
 refine(q3.out _ B1).mono ?_
 rintro e w2 ⟨rfl,hb2⟩
 have B2:=ay B1 hb2
 have m2:=ag.below m1 hb2 m1.lt
 have cg2:=cu hb2 cg1
 clear q3
 cases t7:S.any gD with
 |true=>
  have HZ:=af (HO.out (.inr (.inr (.inr (.inr (.inr (.inr t7)))))));clear HO HE q4 q5 t7;go_wp2_with fail
  go_ret;exact⟨by rw[HZ.out];rfl,B2⟩
 |false=>
 have HE:=af (HE.out (by
  rintro(h|h|h|h|h|h|h)
  ·omega
  ·omega
  ·rw[T3.out] at h;cases h
  ·have h:400<R.length:=h
   omega
  ·have h:20<S.length:=h
   omega
  ·rw[T6.out] at h;cases h
  ·rw[t7] at h;cases h))
 have y2:=ax m2 2 (.slice sa S.length sc) rfl
 obtain⟨N,hN⟩:∃N,S.length=N:=⟨_,rfl⟩
 have HN:=af hN
 clear HO t7
 go_upto_region 5 with fail
 rw[hN] at H hlS y2 m2
 go_wp2_with fail
 clear y2
 go_loopw [49] (fun vi wr=>∃(j:Nat) (p:Option (List Lb)),j<=N/\vi=.int .i64 (j:Int)/\Below w.heap.size w wr/\ag wr w.heap.size 25 #[.int .i64 f,.slice ga R.length gc,.slice sa N sc]/\wr.cell? ⟨w.heap.size+1,0,none⟩=some (.int .i64 g)/\Hid (gC none S=gC p (S.drop j))/\(j=0->p=none)/\∀(i:Nat) (hi:i+1=j),∃x,S[i]?=some x/\p=some x.labels) (fun vi _=>N-(intOf vi).toNat)
 case atStart=>exact⟨0,none,Nat.zero_le _,rfl,B2,m2,cg2,af (by rw[List.drop_zero]),fun _=>rfl,fun i hi=>by omega⟩
 clear B2 m2 cg2
 obtain⟨j,p,hj,rfl,hb,kr,cgr,HJ,hp0,hps⟩:=hrel
 rcases(show j<N\/j=N by omega) with hjn|rfl
 ·have hjl:j<S.length:=by rw[HN.out];exact hjn
  have H':=H.out;obtain⟨gg,o,sl,sv,rfl,hVj,d0,d1,d2⟩:=cq H' hjl hb;have hlab:aC wr sl S[j].labels:=hVj.2.1;have hsm:aI wr sv S[j].samples:=hVj.2.2;obtain⟨ya,yc,rfl,_⟩:=id hlab;obtain⟨za,zc,rfl,_⟩:=id hsm;have b3:=ai wr (.cells #[.slice ya S[j].labels.length yc,.slice za S[j].samples.length zc,.int .i64 S[j].last] 88);have k3:=ag.new wr 88 #[.slice ya S[j].labels.length yc,.slice za S[j].samples.length zc,.int .i64 S[j].last];have B3:=ay hb b3;have kr3:=ag.below kr b3 kr.lt;have cg3:=cu b3 cgr;have hw9:IntKind.i64.wrap ((j:Int)+1)=(j:Int)+1:=ct _ (by omega);clear hVj hsm;go_upto_region 8 with fail
  generalize hW3:wr.alloc _=W3 at*;clear hW3;have g0:=aj (ax k3 0 (.slice ya S[j].labels.length yc) rfl);have g3:=aj (ax kr3 2 (.slice (some ⟨gg,o,none⟩) N sc) rfl);go_cut [68] (fun s68 wx=>∃ok:Bool,s68=.bool (!ok)/\Below W3.heap.size W3 wx/\ok=J9 p S[j].labels)
  case first=>
   cases j with
   |zero=>
    obtain rfl:=hp0 rfl;refine dY ?_;iterate 3 (refine bJ fun K hK=>?_;go_big_quiet_step (fail);refine hK _ ?_;clear hK K)
    iterate 11 (refine Du fun K hK=>?_;go_big_quiet_step (fail);refine hK _ ?_;clear hK K)
    (refine bJ fun K hK=>?_;go_big_quiet_step (fail);refine hK _ ?_;clear hK K);refine eR ?_;intro w5 hb5;simp only[aB];go_wp2_with fail
    go_meet;exact⟨true,rfl,hb5,rfl⟩
   |succ j=>
    have hjp:j<S.length:=by omega
    obtain⟨x,hx,rfl⟩:=hps j rfl;obtain rfl:S[j]=x:=by rw[aV hjp] at hx;exact az hx
    obtain⟨gg',o',pl,pv,e,hVp,p0,_⟩:=cq H' hjp hb;cases e;have hlabp:aC wr pl S[j].labels:=hVp.2.1;obtain⟨pa,pc,rfl,_⟩:=id hlabp;have q2:=af (fun W (hW:Below wr.heap.size wr W)=>kQ _ _ _ _ W (hlabp.below hW) (hlab.below hW));have g5:=aj (cu b3 p0);have hwr:IntKind.i64.wrap (((j+1:Nat):Int)-1)=(j:Int):=by rw[ct _ (by omega)];omega
    have hwr2:IntKind.i64.wrap ((j:Int)+1-1)=(j:Int):=by rw[ct _ (by omega)];omega
    have hps:(0:Int)<((j+1:Nat):Int):=by omega
    have hps2:(0:Int)<(j:Int)+1:=by omega
    have hjpi:(j:Int)<(N:Int):=by omega
    clear hVp hx;cases hle:dN S[j].labels S[j+1].labels with
    |true=>
     rw[hle] at q2;refine dY ?_;iterate 12 (refine bJ fun K hK=>?_;go_big_quiet_step (fail);refine hK _ ?_;clear hK K)
     (refine fS (f:=66) (args:=#[.slice pa S[j].labels.length pc,.slice ya S[j+1].labels.length yc]) (v:=.bool true) (fun W hW=>q2.out W (b3.trans (Below.mono hW b3.size))) fun K hK=>?_;go_big_quiet_step (fail);refine hK _ ?_;clear hK K);iterate 2 (refine bJ fun K hK=>?_;go_big_quiet_step (fail);refine hK _ ?_;clear hK K)
     refine eR ?_;intro w5 hb5;simp only[aB];go_wp2_with fail
     go_meet;exact⟨true,rfl,hb5,hle.symm⟩
    |false=>
     rw[hle] at q2;refine dY ?_;iterate 12 (refine bJ fun K hK=>?_;go_big_quiet_step (fail);refine hK _ ?_;clear hK K)
     (refine fS (f:=66) (args:=#[.slice pa S[j].labels.length pc,.slice ya S[j+1].labels.length yc]) (v:=.bool false) (fun W hW=>q2.out W (b3.trans (Below.mono hW b3.size))) fun K hK=>?_;go_big_quiet_step (fail);refine hK _ ?_;clear hK K);iterate 2 (refine bJ fun K hK=>?_;go_big_quiet_step (fail);refine hK _ ?_;clear hK K)
     refine eR ?_;intro w5 hb5;simp only[aB];go_wp2_with fail
     go_meet;exact⟨false,rfl,hb5,hle.symm⟩
  case rest=>
   obtain⟨ok,rfl,hb5,hok⟩:=hcut;have BW5:=ay B3 hb5;have kr5:=ag.below kr3 hb5 kr3.lt;have cg5:=cu hb5 cg3;have HJ2:=af (HJ.out.trans (Br S p hjl));cases ok with
   |false=>
    have HQ:=af (show dB ⟨f,R,S⟩ g=1 by rw[HE.out,if_pos (by show gC none S=false;rw[HJ2.out,<-hok];rfl)]);clear HE hok q4 q5 g0 g3;go_wp2_with fail
    go_ret;exact⟨by rw[HQ.out];rfl,BW5⟩
   |true=>
    have HJ3:=af (show gC none S=gC (some S[j].labels) (S.drop (j+1)) by rw[HJ2.out,<-hok];rfl);clear hok g0 g3 k3 b3 hb5 kr3 cg3;go_wp2_with fail
    go_roundw
    case rel=>exact⟨j+1,some S[j].labels,hjn,by go_num,BW5,kr5,cg5,HJ3,fun e=>by omega,fun i hi=>⟨S[j],(by obtain rfl:i=j:=(by omega);exact aV hjl),rfl⟩⟩
    case measure=>simp[intOf];omega
 ·have hr:gC none S=true:=by
   rw[HJ.out,List.drop_of_length_le (by rw[HN.out];exact aF _)];cases p<;>rfl
  have HQ:=af (show dB ⟨f,R,S⟩ g=if cZ g<(ey ⟨f,R,S⟩:Int) then 3 else 0 by rw[HE.out,if_neg (by show ¬(gC none S=false);rw[hr];decide)]);rw[HN.out] at q4;have g0:=aj (ax kr 0 (.int .i64 f) rfl);have g1:=aj (ax kr 1 (.slice ga R.length gc) rfl);have g2:=aj (ax kr 2 (.slice sa j sc) rfl);have g3:=aj cgr;clear hr HE;generalize ey ⟨f,R,S⟩=lk at*;go_wp2_with fail
  refine dY ?_
  (refine bJ fun K hK=>?_;go_big_quiet_step (fail);refine hK _ ?_;clear hK K)
  (refine fS (f:=17) (args:=#[.agg #[.int .i64 f,.slice ga R.length gc,.slice sa j sc]]) (v:=.int .i64 (lk:Int)) (fun W hW=>q4.out W (hb.trans (Below.mono hW hb.size))) fun K hK=>?_;go_big_quiet_step (fail);refine hK _ ?_;clear hK K)
  (refine bJ fun K hK=>?_;go_big_quiet_step (fail);refine hK _ ?_;clear hK K)
  (refine fS (f:=67) (args:=#[.int .i64 g]) (v:=.int .i64 (cZ g)) (fun W hW=>(q5.out W).mono fun e w' ⟨h1,h2⟩=>⟨h1,h2▸bR⟩) fun K hK=>?_;go_big_quiet_step (fail);refine hK _ ?_;clear hK K)
  (refine bJ fun K hK=>?_;go_big_quiet_step (fail);refine hK _ ?_;clear hK K);refine eR ?_;intro w5 hb5;simp only[aB];by_cases hlim:cZ g<(lk:Int)
  ·have HZ:=af (show dB ⟨f,R,S⟩ g=3 by rw[HQ.out,if_pos hlim]);go_wp2_with fail
   go_ret;exact⟨by rw[HZ.out];rfl,ay hb hb5⟩
  ·have HZ:=af (show dB ⟨f,R,S⟩ g=0 by rw[HQ.out,if_neg hlim]);go_wp2_with fail
   go_ret;exact⟨by rw[HZ.out];rfl,ay hb hb5⟩
theorem FG(l:List Lb)(lv:Value)(g:Nat)(w:World)(hl:aC w lv l)(hg:w.cell? ⟨g,0,none⟩=some lv):jT 155 #[.pointer (some ⟨g,0,none⟩)] (fun x=> !dN x.labels l) w:=by
 intro x sl sv W hW hS;have bA:=ai W (.cells #[sl,sv,.int .i64 x.last] 88);have B:=ay hW bA;have g1:=cu B hg;have z0:=ax (ag.new W 88 #[sl,sv,.int .i64 x.last]) 0 sl rfl;have q:=af (kQ x.labels l sl lv _ (hS.2.1.below bA) (hl.below B));clear hW hS hg hl B;go_enter Tryz.func155,Tryz.ntmps155
 go_wp2_with fail
 refine bL q.out fun w1 hb=>?_;go_wp2_with fail
 go_ret;exact⟨rfl,ay bA hb⟩
theorem Jp(S:List aO)(x:aO):(∃i,cP S x.labels=some i/\i<S.length/\mj S x=S.set i x)\/(cP S x.labels=none/\mj S x=S.take (fU S x.labels)++x::S.drop (fU S x.labels)):=by
 unfold mj;cases h:cP S x.labels with
 |none=>exact .inr ⟨rfl,rfl⟩
 |some i=>exact .inl ⟨i,rfl,fG _ _ h,rfl⟩
theorem AM(v sl sv:Value)(S:List aO)(x:aO)(w:World)(h:aM w v S)(hx:jf w (x,sl,sv))(hS:S.length<=1000):
 Calls Tryz.prog 85 #[v,.agg #[sl,sv,.int .i64 x.last]] w fun e w'=>∃v',e=.returned v'/\aM w' v' (mj S x)/\Below w.heap.size w w':=by
 obtain⟨l,L,b⟩:=x
 have hok:(⟨l,L,b⟩:aO).ok:=hx.1
 have hl:aC w sl l:=hx.2.1
 have hs:aI w sv L:=hx.2.2
 obtain⟨la,lc,rfl,_⟩:=id hl
 obtain⟨sa,sc,rfl,_⟩:=id hs
 show Calls Tryz.prog 85 #[v,.agg #[.slice la l.length lc,.slice sa L.length sc,.int .i64 b]] w _
 have b1:=ai w (.cells #[.slice la l.length lc,.slice sa L.length sc,.int .i64 b] 88)
 have k1:=ag.new w 88 #[.slice la l.length lc,.slice sa L.length sc,.int .i64 b]
 have q1:=af (fQ v S w _ h b1)
 have HL:=af hl
 have HX:=af (And.intro hok hs)
 have HP:=af (Jp S ⟨l,L,b⟩)
 clear h hl hs hx hok
 go_enter Tryz.func85,Tryz.ntmps85
 go_wp2_with fail
 generalize hW0:w.alloc _=W0 at*
 clear hW0
 refine q1.out.mono ?_
 rintro e w1 ⟨v1,Z,rfl,hZ,hV,hrow,hb1⟩
 obtain⟨za,zc,rfl⟩:=aH hrow
 have B1:=ay b1 hb1
 have m1:=ag.below k1 hb1 k1.lt
 have hw0:w.heap.size<W0.heap.size:=k1.lt
 have hs01:W0.heap.size<=w1.heap.size:=hb1.size
 have hZl:=af (show Z.length=S.length by rw[<-hZ,List.length_map])
 have HZ:=af hZ
 have HV:=af hV
 have hser:aM w1 (.slice za Z.length zc) S:=by
  have:=cV hrow rfl (by rw[hZl.out];omega) (fun z hz=>(hV z hz).below B1);rwa[hZ] at this
 have H1:=af hser
 have q2:=af (jD _ _ S l 0 w1 hser (HL.out.below B1))
 have c0:=ax m1 0 (.slice la l.length lc) rfl
 clear q1 hb1 k1 b1 hser hV hZ
 go_wp2_with fail
 refine bL q2.out fun w2 hb2=>?_
 have B2:=ay B1 hb2
 have m2:=ag.below m1 hb2 m1.lt
 have row2:=aw hrow (ak.of_below (S:=fun _=>False) hb2) (fun _ _ e=>e)
 have H2:=af (H1.out.below hb2)
 have hs12:W0.heap.size<=w2.heap.size:=aK hs01 hb2.size
 clear q2 hrow m1 c0 H1
 rcases HP.out with⟨i,hf,hi,hP⟩|⟨hf,hP⟩
 ·have HPE:=af hP;clear hP;rw[hf];have hlt:(0:Int)<=(i:Int):=by omega
  have hiZ:i<Z.length:=by rw[hZl.out];exact hi
  have hiZi:(i:Int)<(Z.length:Int):=by omega
  obtain⟨z,hz⟩:∃z,Z[i]?=some z:=⟨_,aV hiZ⟩
  rcases row2.2 with⟨_,h0⟩|⟨g,gcc,cur,e9,_⟩
  ·omega
  obtain⟨rfl,e10,e11⟩:=Value.slice.inj e9;clear e9 e10 e11;have hgl:=row2.lt g rfl;obtain⟨zs,zl,zv⟩:=z;have hzm:=HV.out _ (List.mem_of_getElem? hz);have hzl:aC w zl zs.labels:=hzm.2.1;have hzv:aI w zv zs.samples:=hzm.2.2;obtain⟨zla,zlc,rfl,_⟩:=id hzl;obtain⟨zva,zvc,rfl,_⟩:=id hzv;obtain⟨e0,e1,e2⟩:=d9 row2 hz;simp only at e0 e1 e2;have fA:=bq (j:=i*3) row2 rfl;have fB:=bq (j:=i*3+1) row2 rfl;have fC:=bq (j:=i*3+2) row2 rfl;have x0:=ax m2 0 (.slice la l.length lc) rfl;have x1:=ax m2 1 (.slice sa L.length sc) rfl;have x2:=ax m2 2 (.int .i64 b) rfl;simp only[dU];have rA:=cF (j:=i*3) (u:=.slice la l.length lc) row2 rfl;have eA:=db (sz:=3) (enc:=eT) (fun _=>rfl) Z i 0 _ (zs,.slice la l.length lc,.slice zva zs.samples.length zvc) (.slice la l.length lc) hz (by decide) rfl;rw[Nat.add_zero] at eA;rw[eA] at rA;have hzA:(Z.set i (zs,.slice la l.length lc,.slice zva zs.samples.length zvc))[i]?=some (zs,.slice la l.length lc,.slice zva zs.samples.length zvc):=List.getElem?_set_self hiZ;have rB:=cF (j:=i*3+1) (u:=.slice sa L.length sc) rA rfl;rw[db (sz:=3) (fun _=>rfl) _ i 1 _ (zs,.slice la l.length lc,.slice sa L.length sc) _ hzA (by decide) rfl,List.set_set] at rB;have hzB:(Z.set i (zs,.slice la l.length lc,.slice sa L.length sc))[i]?=some (zs,.slice la l.length lc,.slice sa L.length sc):=List.getElem?_set_self hiZ;have rC:=cF (j:=i*3+2) (u:=.int .i64 b) rB rfl;rw[db (sz:=3) (fun _=>rfl) _ i 2 _ (⟨l,L,b⟩,.slice la l.length lc,.slice sa L.length sc) _ hzB (by decide) rfl,List.set_set] at rC;have hkk:ak w2 (((w2.setCell ⟨g,i*3,none⟩ (.slice la l.length lc)).setCell ⟨g,i*3+1,none⟩ (.slice sa L.length sc)).setCell ⟨g,i*3+2,none⟩ (.int .i64 b)) (fun k=>k=g):=((ak.of_grown (ap _ _ _ _) fun k e=>(az e).symm).trans (ak.of_grown (ap _ _ _ _) fun k e=>(az e).symm)).trans (ak.of_grown (ap _ _ _ _) fun k e=>(az e).symm);have BF:=B2.trans (hkk.below B2.size fun k e=>by have:=hgl.1;omega);have hat:=cV rC (by rw[List.length_set]) (by rw[List.length_set,hZl.out];omega) fun y hy=>by
   rcases List.mem_or_eq_of_mem_set hy with hy|rfl
   ·exact(HV.out y hy).below BF
   ·exact⟨HX.out.1,HL.out.below BF,HX.out.2.below BF⟩
  rw[List.map_set,HZ.out] at hat;have HAT:=af (show aM _ _ (mj S ⟨l,L,b⟩) from HPE.out▸hat);clear rA eA hzA rB hzB rC hkk hat row2 hzl hzv hzm;go_wp2_with fail
  go_ret;exact⟨.slice (some ⟨g,0,none⟩) Z.length zc,rfl,HAT.out,BF⟩
 ·have HPE:=af hP;clear hP;rw[hf];have g2:=ax m2 0 (.slice la l.length lc) rfl;have q3:=af (mt 155 #[.pointer (some ⟨w.heap.size,0,none⟩)] _ _ S w2 H2.out (FG l _ w.heap.size w2 (HL.out.below B2) g2) (fun args W=>by go_simp));simp only[dU];go_wp2_with fail
  refine bL q3.out fun w3 hb3=>?_;have B3:=ay B2 hb3;have m3:=ag.below m2 hb3 m2.lt;have row3:=aw row2 (ak.of_below (S:=fun _=>False) hb3) (fun _ _ e=>e);have hs3:=aK hs12 hb3.size;clear q3 m2 row2 hb3 g2 H2 hb2;go_upto_if 25 with fail
  go_cut [6] (fun s7 wx=>s7=.int .i64 (fU S l:Int)/\w3=wx)
  case first=>
   cases hfi:S.findIdx? (fun x=> !dN x.labels l) with
   |none=>
    have HI:=af (show fU S l=Z.length by unfold fU;rw[hfi,hZl.out];rfl);simp only[dU];clear hfi;go_wp2_with fail
    go_meet;exact⟨by rw[HI.out],rfl⟩
   |some j=>
    have HI:=af (show fU S l=j by unfold fU;rw[hfi];rfl);have hlt:¬((j:Int)<0):=by omega
    simp only[dU];clear hfi;go_wp2_with fail
    go_meet;exact⟨by rw[HI.out],rfl⟩
  case rest=>
   obtain⟨rfl,rfl⟩:=hcut;have hk:=zW S l;generalize fU S l=k at*;have hkZ:k<=Z.length:=by rw[hZl.out];exact hk
   have r9:=World.ownsRow.alloc row3 (.cells #[.slice la l.length lc,.slice sa L.length sc,.int .i64 b] 88);have k9:=ag.new w3 88 #[.slice la l.length lc,.slice sa L.length sc,.int .i64 b];have hlt3:=row3.lt;have q4:=af (tV r9 (xr HV.out) hkZ (by rw[hZl.out];omega) w3.heap.size _ _ _ k9 (fun e=>by have:=(hlt3 _ e).2;omega) (by simp[Value.oneCell']) (aK hs3 (ai w3 _).size));have B9:=B3.alloc B3.size (.cells #[.slice la l.length lc,.slice sa L.length sc,.int .i64 b] 88);have x0:=ax m3 0 (.slice la l.length lc) rfl;have x1:=ax m3 1 (.slice sa L.length sc) rfl;have x2:=ax m3 2 (.int .i64 b) rfl;clear r9 k9 row3 m3;go_wp2_with fail
   refine q4.out.mono ?_;rintro e w10 ⟨v2,rfl,row10,hk10,hloc⟩;have B10:=B9.trans (hk10.below B9.size fun j e=>by have:=(hlt3 j e).1;omega);rw[(gF (sz:=3) (fun _=>rfl) Z k).1,(gF (sz:=3) (fun _=>rfl) Z k).2,show aL eT (Z.take k)++[.slice la l.length lc,.slice sa L.length sc,.int .i64 b]++aL eT (Z.drop k)=aL eT (Z.take k++(⟨l,L,b⟩,.slice la l.length lc,.slice sa L.length sc)::Z.drop k) by unfold aL;rw[List.flatMap_append,List.flatMap_cons,List.append_assoc];rfl] at row10;have hln:(Z.take k++((⟨l,L,b⟩:aO),Value.slice la l.length lc,Value.slice sa L.length sc)::Z.drop k).length=Z.length+1:=by rw[aG,cY,dp,List.length_drop];omega
   have hat:=cV row10 hln (by rw[hln,hZl.out];omega) fun z hz=>by
    rcases List.mem_append.1 hz with hz|hz
    ·exact(HV.out z (List.mem_of_mem_take hz)).below B10
    ·rcases List.mem_cons.1 hz with rfl|hz
     ·exact⟨HX.out.1,HL.out.below B10,HX.out.2.below B10⟩
     ·exact(HV.out z (List.mem_of_mem_drop hz)).below B10
   rw[List.map_append,List.map_cons,List.map_take,List.map_drop,HZ.out] at hat;have HAT:=af (show aM _ _ (mj S ⟨l,L,b⟩) from HPE.out▸hat);clear q4 hat row10 hk10 hloc B9 hlt3;go_wp2_with fail
   go_ret;exact⟨_,rfl,HAT.out,B10⟩
theorem nm{P:Program}{w:World}{t e:TypeId}{z:Value}(ht:P.underlying t=some (.slice e))(hv:∀w,(zeroValue e).run P w=.ok z w){sz:Nat}(hz:z.cells.size=sz)(h1:∀u∈z.cells.toList,u.oneCell'=true){B n g c i:Nat}{xs:List Value}(h:w.ownsRow B e sz (.slice (some ⟨g,0,none⟩) n c) n xs)(hi:i<n):
 ∃w',(∀ty c',(Builtin.clear_ #[t] ty #[.slice (some ⟨g,i*sz,none⟩) (n-i) c']).run P w=.ok (.tuple #[]) w')/\ak w w' (fun k=>k=g)/\w'.ownsRow B e sz (.slice (some ⟨g,0,none⟩) i c) i (xs.take (i*sz)):=by
 have hxl:=h.1
 rcases h.2 with⟨e9,_⟩|⟨g',cap,cur,e9,hB,hcur,hnc,hcm,hcs,hct⟩
 ·cases e9
 obtain⟨hgg,_,rfl⟩:=Value.slice.inj e9
 clear e9
 obtain rfl:g=g':=congrArg Addr.block (az hgg)
 have hnl:(Builtin.zeroCells z.cells (n-i)).toList.length=(n-i)*sz:=by simp[Builtin.zeroCells,hz]
 have hon:∀u∈(Builtin.zeroCells z.cells (n-i)).toList,u.oneCell'=true:=fun u hu=>by
  simp only[Builtin.zeroCells,Array.toList_map,List.mem_map] at hu;obtain⟨j,hj,rfl⟩:=hu;have hj:=Array.mem_toList_iff.1 hj;rw[Array.mem_range] at hj;have hp:0<z.cells.size:=by
   rcases Nat.eq_zero_or_pos z.cells.size with h0|h0
   ·rw[h0] at hj;omega
   ·exact h0
  rw[getElem!_pos z.cells (j%z.cells.size) (Nat.mod_lt _ hp)];exact h1 _ (Array.mem_toList_iff.2 (Array.getElem_mem _))
 have hle:i*sz+(n-i)*sz=n*sz:=by rw[<-Nat.add_mul];congr 1;omega
 have hlt:n*sz<=c*sz:=Nat.mul_le_mul_right _ hnc
 have hst:=iW P g (i*sz) e (0,0) (Builtin.zeroCells z.cells (n-i)).toList 0 cur w hcur (.inl (aF _)) (by rw[hnl];omega) hon
 have hcl0:∀ty c',(Builtin.clear_ #[t] ty #[.slice (some ⟨g,i*sz,none⟩) (n-i) c']).run P w=.ok (.tuple #[]) (w.setRow g (cur.toList.take (i*sz+0)++(Builtin.zeroCells z.cells (n-i)).toList++cur.toList.drop (i*sz+0+(Builtin.zeroCells z.cells (n-i)).toList.length)).toArray):=fun ty c'=>by
  obtain⟨m,hm⟩:∃m,n-i=m+1:=⟨n-i-1,by omega⟩
  rw[hm] at hst⊢;simp only[Builtin.clear_];simp[run_underlying ht,hv,hst]
 clear hst
 generalize (Builtin.zeroCells z.cells (n-i)).toList=zs at*
 have hcl:cur.toList.length=c*sz:=by rw[Array.length_toList];exact hcs
 refine⟨_,hcl0,⟨rfl,rfl,rfl,by rw[setRow_size];exact aF _,fun k _ hg=>setRow_other _ _ _ _ hg⟩,by rw[dp];omega,.inr ⟨g,c,_,rfl,hB,setRow_heap _ _ _ _ _ _ hcur,by omega,hcm,?_,?_⟩⟩
 ·simp only[List.size_toArray,aG,dp,List.length_drop,hcl,hnl];omega
 ·rw[List.append_assoc,Nat.add_zero,List.take_append_of_le_length (by rw[dp];omega),List.take_take,<-hct,List.take_take];congr 1;omega
structure iY{α:Type}(p:α->Bool)(Z:List α)(i j:Nat)(Y:List α):Prop where
 len:Y.length=Z.length
 lt:i<j
 le:j<=Z.length
 low:Y.take i=(Z.take j).filter fun x=> !p x
 high:Y.drop j=Z.drop j
 mem:∀y∈Y,y∈Z
theorem iY.start{α:Type}{p:α->Bool}{Z:List α}{k:Nat}(h:Z.findIdx? p=some k):iY p Z k (k+1) Z:=by
 rw[List.findIdx?_eq_some_iff_getElem] at h;obtain⟨hk,h1,h2⟩:=h;refine⟨rfl,Nat.lt_succ_self k,hk,?_,rfl,fun y hy=>hy⟩;rw[eM hk,List.filter_append,List.filter_cons_of_neg (by simp[h1]),List.filter_nil,List.append_nil];refine(List.filter_eq_self.2 fun x hx=>?_).symm;obtain⟨j,hj,rfl⟩:=List.mem_iff_getElem.1 hx;rw[dp] at hj;rw[List.getElem_take];have:=h2 j (by omega);simpa using this
theorem iY.at{α:Type}{p:α->Bool}{Z Y:List α}{i j:Nat}(h:iY p Z i j Y)(hj:j<Z.length):Y[j]?=some Z[j]:=by
 have:=congrArg (fun l=>l[0]?) h.high;simp only[List.getElem?_drop,Nat.add_zero] at this;rw[this];exact aV hj
theorem iY.skip{α:Type}{p:α->Bool}{Z Y:List α}{i j:Nat}(h:iY p Z i j Y)(hj:j<Z.length)(hp:p Z[j]=true):iY p Z i (j+1) Y:=by
 refine⟨h.len,Nat.lt_succ_of_lt h.lt,hj,?_,?_,h.mem⟩
 ·rw[eM hj,List.filter_append,List.filter_cons_of_neg (by simp[hp]),List.filter_nil,List.append_nil];exact h.low
 ·rw[<-List.drop_drop,<-List.drop_drop,h.high]
theorem iY.keep{α:Type}{p:α->Bool}{Z Y:List α}{i j:Nat}(h:iY p Z i j Y)(hj:j<Z.length)(hp:p Z[j]=false):iY p Z (i+1) (j+1) (Y.set i Z[j]):=by
 have hij:=h.lt;have hl:=h.len;refine⟨by rw[List.length_set];exact h.len,by omega,hj,?_,?_,fun y hy=>?_⟩
 ·rw[eM (by rw[List.length_set];omega),List.getElem_set_self,List.take_set_of_le (aF _),h.low,eM hj,List.filter_append,List.filter_cons_of_pos (by simp[hp]),List.filter_nil]
 ·rw[List.drop_set_of_lt (by omega),<-List.drop_drop,<-List.drop_drop,h.high]
 ·rcases List.mem_or_eq_of_mem_set hy with hy|rfl
  ·exact h.mem y hy
  ·exact dK hj
theorem iY.done{α:Type}{p:α->Bool}{Z Y:List α}{i:Nat}(h:iY p Z i Z.length Y):Y.take i=Z.filter fun x=> !p x:=by
 rw[h.low,List.take_length]
theorem rr{α β:Type}(g:α->β)(p:β->Bool):∀Z:List α,(Z.map g).findIdx? p=Z.findIdx? fun z=>p (g z)
 |[]=>rfl
 |z::Z=>by rw[List.map_cons,List.findIdx?_cons,List.findIdx?_cons,rr g p Z]
theorem mz{α β:Type}(g:α->β)(p:β->Bool):∀Z:List α,(Z.map g).filter p=(Z.filter fun z=>p (g z)).map g
 |[]=>rfl
 |z::Z=>by
  rw[List.map_cons,List.filter_cons,List.filter_cons,mz g p Z];cases p (g z)<;>rfl
theorem CA(f:Nat)(capt:Array Value)(p:aO->Bool)(v:Value)(Z:List (aO×Value×Value))(w0 w:World)(B:Nat)(hrow:w.ownsRow B 88 3 v Z.length (aL eT Z))(hV:∀z∈Z,jf w0 z)(hbw:Below w0.heap.size w0 w)(hB:w0.heap.size<=B)(hn:Z.length<=100000)(hp:jT f capt p w0)(hcf:∀args W,(callFunc f args).run Tryz.prog W=.ok (.enter f args) W):
 Calls Tryz.prog 158 #[v,.func (.func f) #[] capt] w fun e w'=>∃v',e=.returned v'/\aM w' v' ((Z.map fun z=>z.1).filter fun x=> !p x)/\Below w0.heap.size w0 w'/\∀k,v'.ownBlock=some k->B<=k:=by
 obtain⟨za,zc,rfl⟩:=aH hrow
 have hser:aM w (.slice za Z.length zc) (Z.map fun z=>z.1):=cV hrow rfl hn (fun z hz=>(hV z hz).below hbw)
 have q:=af (mt f capt p _ _ w hser (fun x sl sv W hW hS=>hp x sl sv W (ay hbw hW) hS) hcf)
 have HP:=af hp
 have HV:=af hV
 have hrl:=hrow.lt
 clear hp hV
 rw[rr] at q
 cases hfi:Z.findIdx? fun z=>p z.1 with
 |none=>
  rw[hfi] at q;have HF:=af (show ((Z.map fun z=>z.1).filter fun x=> !p x)=Z.map fun z=>z.1 from List.filter_eq_self.2 fun x hx=>by
   obtain⟨z,hz,rfl⟩:=List.mem_map.1 hx
   rw[List.findIdx?_eq_none_iff] at hfi
   simpa using hfi z hz)
  have H:=af hser;clear hfi hser hrow;simp only[dU] at q;go_enter Tryz.func158,Tryz.ntmps158
  go_wp2_with fail
  refine bL q.out fun w1 hb1=>?_;clear q;go_wp2_with fail
  go_ret;exact⟨_,rfl,by rw[HF.out];exact H.out.below hb1,ay hbw hb1,fun k e=>(hrl k e).1⟩
 |some k0=>
  rw[hfi] at q;have HS:=af (iY.start hfi);have hk0:=fG _ _ hfi;rcases hrow.2 with⟨_,h0⟩|⟨g,gcc,cur,e9,_⟩
  ·omega
  obtain⟨rfl,e10,e11⟩:=Value.slice.inj e9;clear e9 e10 e11 hfi hser;have hgl:=hrl g rfl;have HR:=af hrow;obtain⟨N,hN⟩:∃N,Z.length=N:=⟨_,rfl⟩
  have HN:=af hN;rw[hN] at hn hk0 HR hrl q⊢;have hne1:((k0:Int)== -1)=false:=beq_eq_false_iff_ne.2 (by omega);clear hN hrow;simp only[dU] at q;go_enter Tryz.func158,Tryz.ntmps158
  go_wp2_with fail
  refine bL q.out fun w1 hb1=>?_;clear q;have B1:=ay hbw hb1;have row1:=aw HR.out (ak.of_below (S:=fun _=>False) hb1) (fun _ _ e=>e);have hw0:IntKind.i64.wrap ((k0:Int)+1)=(k0:Int)+1:=ct _ (by omega);go_wp2_with fail
  go_loopw [5,6] (fun si sj wr=>∃(i j:Nat) (Y:List (aO×Value×Value)),si=.int .i64 (i:Int)/\sj=.int .i64 (j:Int)/\Below w0.heap.size w0 wr/\wr.ownsRow B 88 3 (.slice (some ⟨g,0,none⟩) N zc) N (aL eT Y)/\Hid (iY (fun z=>p z.1) Z i j Y)) (fun _ sj _=>N-(intOf sj).toNat)
  case atStart=>exact⟨k0,k0+1,Z,rfl,by go_num,B1,row1,HS⟩
  clear B1 row1 HS hw0 hne1 hb1 HR;obtain⟨i,j,Y,rfl,rfl,hb,row,HD⟩:=hrel;have hij:=HD.out.lt;have hjN:j<=N:=by rw[<-HN.out];exact HD.out.le
  have hYl:Y.length=N:=by rw[<-HN.out];exact HD.out.len
  have HYL:=af hYl;rcases(show j<N\/j=N by omega) with hjn|rfl
  ·have hjZ:j<Z.length:=by rw[HN.out];exact hjn
   have hzj:=HD.out.at hjZ;have HK:=af (HD.out.keep hjZ);have HSK:=af (HD.out.skip hjZ);have hzm:=(HV.out _ (dK hjZ)).below hb;generalize Z[j]=z at*;clear hjZ;obtain⟨zs,zl,zv⟩:=z;obtain⟨e0,e1,e2⟩:=d9 row hzj;obtain⟨zla,zlc,rfl,_⟩:=id (show aC wr zl zs.labels from hzm.2.1);obtain⟨zva,zvc,rfl,_⟩:=id (show aI wr zv zs.samples from hzm.2.2);simp only at e0 e1 e2;have b3:=ai wr (.cells #[.slice zla zs.labels.length zlc,.slice zva zs.samples.length zvc,.int .i64 zs.last] 88);have B3:=ay hb b3;have k3:=ag.new wr 88 #[.slice zla zs.labels.length zlc,.slice zva zs.samples.length zvc,.int .i64 zs.last];have z0:=ax k3 0 (.slice zla zs.labels.length zlc) rfl;have z1:=ax k3 1 (.slice zva zs.samples.length zvc) rfl;have z2:=ax k3 2 (.int .i64 zs.last) rfl;have q:=af (HP.out zs _ _ _ B3 (hzm.below b3));have hw9:IntKind.i64.wrap ((j:Int)+1)=(j:Int)+1:=ct _ (by omega);have hw8:IntKind.i64.wrap ((i:Int)+1)=(i:Int)+1:=ct _ (by omega);have HR:=af (World.ownsRow.alloc row (.cells #[.slice zla zs.labels.length zlc,.slice zva zs.samples.length zvc,.int .i64 zs.last] 88));have hiY:i<Y.length:=by rw[HYL.out];omega
   obtain⟨⟨ys,yl,yv⟩,hy⟩:∃y,Y[i]?=some y:=⟨_,aV hiY⟩
   clear hzm row hYl;cases hpz:p zs with
   |true=>
    rw[hpz] at q;have HD2:=af (HSK.out hpz);clear HSK HK hy hpz;go_wp2_with fail
    refine bL q.out fun w2 hb2=>?_;have B2:=ay B3 hb2;have row2:=aw HR.out (ak.of_below (S:=fun _=>False) hb2) (fun _ _ e=>e);clear q e0 e1 e2 hb b3 B3 k3 z0 z1 z2;go_wp2_with fail
    go_roundw
    case rel=>exact⟨i,j+1,Y,rfl,by go_num,B2,row2,HD2⟩
    case measure=>simp[intOf];omega
   |false=>
    rw[hpz] at q;have HD2:=af (HK.out hpz);clear HSK HK hpz;go_wp2_with fail
    refine bL q.out fun w2 hb2=>?_;have B2:=ay B3 hb2;have row2:=aw HR.out (ak.of_below (S:=fun _=>False) hb2) (fun _ _ e=>e);obtain⟨c0,c1,c2⟩:=d9 row2 hy;simp only at c0 c1 c2;have k4:=ag.below k3 hb2 k3.lt;have z0:=ax k4 0 (.slice zla zs.labels.length zlc) rfl;have z1:=ax k4 1 (.slice zva zs.samples.length zvc) rfl;have z2:=ax k4 2 (.int .i64 zs.last) rfl;have fA:=bq (j:=i*3) row2 rfl;have fB:=bq (j:=i*3+1) row2 rfl;have fC:=bq (j:=i*3+2) row2 rfl;have rA:=cF (j:=i*3) (u:=.slice zla zs.labels.length zlc) row2 rfl;have eA:=db (sz:=3) (enc:=eT) (fun _=>rfl) Y i 0 _ (ys,.slice zla zs.labels.length zlc,yv) (.slice zla zs.labels.length zlc) hy (by decide) rfl;rw[Nat.add_zero] at eA;rw[eA] at rA;have hzA:(Y.set i (ys,.slice zla zs.labels.length zlc,yv))[i]?=some (ys,.slice zla zs.labels.length zlc,yv):=List.getElem?_set_self hiY;have rB:=cF (j:=i*3+1) (u:=.slice zva zs.samples.length zvc) rA rfl;rw[db (sz:=3) (fun _=>rfl) _ i 1 _ (ys,.slice zla zs.labels.length zlc,.slice zva zs.samples.length zvc) _ hzA (by decide) rfl,List.set_set] at rB;have hzB:(Y.set i (ys,.slice zla zs.labels.length zlc,.slice zva zs.samples.length zvc))[i]?=some (ys,.slice zla zs.labels.length zlc,.slice zva zs.samples.length zvc):=List.getElem?_set_self hiY;have rC:=cF (j:=i*3+2) (u:=.int .i64 zs.last) rB rfl;rw[db (sz:=3) (fun _=>rfl) _ i 2 _ (zs,.slice zla zs.labels.length zlc,.slice zva zs.samples.length zvc) _ hzB (by decide) rfl,List.set_set] at rC;have hkk:ak w2 (((w2.setCell ⟨g,i*3,none⟩ (.slice zla zs.labels.length zlc)).setCell ⟨g,i*3+1,none⟩ (.slice zva zs.samples.length zvc)).setCell ⟨g,i*3+2,none⟩ (.int .i64 zs.last)) (fun k=>k=g):=((ak.of_grown (ap _ _ _ _) fun k e=>(az e).symm).trans (ak.of_grown (ap _ _ _ _) fun k e=>(az e).symm)).trans (ak.of_grown (ap _ _ _ _) fun k e=>(az e).symm);have BF:=B2.trans (hkk.below B2.size fun k e=>by have:=hgl.1;omega);have HRC:=af rC;clear q e0 e1 e2 hb rA eA hzA rB hzB rC hkk row2 hy B2 HR b3 B3 k3 k4;go_wp2_with fail
    go_roundw
    case rel=>exact⟨i+1,j+1,_,by go_num,by go_num,BF,HRC.out,HD2⟩
    case measure=>simp[intOf];omega
  ·obtain⟨w5,hcl,hk5,row5⟩:=nm (sz:=3) (z:=.agg #[.slice none 0 0,.slice none 0 0,.int .i64 0]) ii.und (fun W=>by go_simp) rfl (by simp[Value.oneCell',Value.cells]) row hij;rw[(gF (sz:=3) (fun _=>rfl) Y i).1,show Y.take i=Z.filter fun z=> !p z.1 from by have:=HD.out;rw[<-HN.out] at this;exact this.done] at row5;have hB5:=hb.trans (hk5.below hb.size fun k e=>by have:=hgl.1;omega);have hfl:(Z.filter fun z=> !p z.1).length=i:=by
    have:=HD.out;rw[<-HN.out] at this;rw[<-this.done,dp,HYL.out];omega
   have hat:=cV row5 hfl (by rw[hfl];omega) fun z hz=>(HV.out z ((List.mem_filter.1 hz).1)).below hB5;rw[<-mz (fun z:aO×Value×Value=>z.1) (fun x=> !p x)] at hat;have HAT:=af hat;rcases row.2 with⟨e9,_⟩|⟨g9,c9,cur9,e9,_,_,hnc,_⟩
   ·cases e9
   obtain⟨hgg,hjj,rfl⟩:=Value.slice.inj e9;clear hgg hjj;have hGi:¬(zc=i):=by omega
   have hi0:(0:Int)<=(i:Int):=by omega
   have hij2:(i:Int)<=(j:Int):=by omega
   have hjc:(j:Int)<=(zc:Int):=by omega
   clear row hat hYl HYL HD row5 hk5 e9;go_wp2;go_ret;exact⟨_,rfl,HAT.out,hB5,fun k e=>by cases e;exact hgl.1⟩
theorem BC(f:Int)(g:Nat)(w:World)(hg:w.cell? ⟨g,1,none⟩=some (.int .i64 f)):jT 159 #[.pointer (some ⟨g,0,none⟩)] (fun x=>x.samples.isEmpty&&decide (x.last<f)) w:=by
 rintro⟨l,L,b⟩ sl sv W hW hS;obtain⟨va,vc,hsv,_⟩:=id hS.2.2;simp only at hsv;subst hsv;show Calls Tryz.prog _ #[.agg #[sl,.slice va L.length vc,.int .i64 b],.pointer (some ⟨g,0,none⟩)] W _;have bA:=ai W (.cells #[sl,.slice va L.length vc,.int .i64 b] 88);have B:=ay hW bA;have g1:=cu B hg;have k:=ag.new W 88 #[sl,.slice va L.length vc,.int .i64 b];have z1:=ax k 1 (.slice va L.length vc) rfl;have z2:=ax k 2 (.int .i64 b) rfl;clear hW hS hg B k;have hE:=af (show (List.isEmpty L&&decide (b<f))=(decide (L.length=0)&&decide (b<f)) by cases L<;>simp);show Calls Tryz.prog _ _ W fun e W'=>e=.returned (.bool (List.isEmpty L&&decide (b<f)))/\_;generalize (List.isEmpty L&&decide (b<f))=be at*;generalize L.length=N at*;by_cases h0:N=0
 ·subst h0;have HZ:=af (show be=decide (b<f) by rw[hE.out];simp);clear hE;go_enter Tryz.func159,Tryz.ntmps159
  go_wp2_with fail
  go_ret;exact⟨by rw[HZ.out];rfl,bA⟩
 ·have HZ:=af (show be=false by rw[hE.out,decide_eq_false h0];rfl);have h0i:¬((N:Int)=0):=by omega
  clear hE;go_enter Tryz.func159,Tryz.ntmps159
  go_wp2_with fail
  go_ret;exact⟨by rw[HZ.out];rfl,bA⟩
theorem Et(S:List aO)(f:Int):(S.filter fun x=> !(x.samples.isEmpty&&decide (x.last<f)))=el S f:=rfl
theorem uL(v:Value)(S:List aO)(f:Int)(w:World)(h:aM w v S):
 Calls Tryz.prog 88 #[.agg #[v,.int .i64 f]] w fun e w'=>∃v',e=.returned (.agg #[v',.int .i64 f])/\aM w' v' (el S f)/\Below w.heap.size w w':=by
 have hlen:=h.len
 obtain⟨sa,sc,rfl,_⟩:=id h
 have b1:=ai w (.cells #[.slice sa S.length sc,.int .i64 f] 49)
 have b2:=b1.alloc b1.size (.cells #[.slice none 0 0,.int .i64 0] 49)
 have k1:=ag.alloc (ag.new w 49 #[.slice sa S.length sc,.int .i64 f]) (.cells #[.slice none 0 0,.int .i64 0] 49)
 have k2:=ag.new (w.alloc (.cells #[.slice sa S.length sc,.int .i64 f] 49)) 49 #[.slice none 0 0,.int .i64 0]
 rw[aW] at k2
 have y0:=ax k1 0 (.slice sa S.length sc) rfl
 have y1:=ax k1 1 (.int .i64 f) rfl
 have hs2:w.heap.size+2<=((w.alloc (.cells #[.slice sa S.length sc,.int .i64 f] 49)).alloc (.cells #[.slice none 0 0,.int .i64 0] 49)).heap.size:=by rw[aW,aW];exact aF _
 have q1:=af (fQ _ S w _ h b2)
 have H:=af h
 clear h b1
 go_enter Tryz.func88,Tryz.ntmps88
 go_wp2_with fail
 generalize hW0:(w.alloc _).alloc _=W0 at*
 clear hW0
 refine q1.out.mono ?_
 rintro e w1 ⟨v1,Z,rfl,hZ,hV,hrow,hb1⟩
 have hZn:Z.length=S.length:=by rw[<-hZ,List.length_map]
 have q2:=af (CA 159 #[.pointer (some ⟨w.heap.size,0,none⟩)] _ v1 Z W0 w1 W0.heap.size hrow (fun z hz=>(hV z hz).below b2) hb1 (aF _) (by omega) (BC f w.heap.size W0 y1) (fun args W=>by go_simp))
 rw[hZ,Et] at q2
 obtain⟨za,zc,rfl⟩:=aH hrow
 clear q1 hrow hV hZ hb1 y0 hZn
 go_wp2_with fail
 refine q2.out.mono ?_
 rintro e w2 ⟨v2,rfl,hS2,hb2,_⟩
 obtain⟨ta,tc,rfl,_⟩:=id hS2
 have m1:=ag.below k1 hb2 k1.lt
 have m2:=ag.below k2 hb2 k2.lt
 have B2:=ay b2 hb2
 have hkk:ak w2 (w2.setCell ⟨w.heap.size,0,none⟩ (.slice ta (el S f).length tc)) (fun k=>k=w.heap.size):=ak.of_grown (ap _ _ _ _) fun k e=>(az e).symm
 have hS3:=hS2.st m1 hkk
 have B3:=B2.trans (hkk.below B2.size fun k e=>by omega)
 have n1:ag (w2.setCell ⟨w.heap.size,0,none⟩ (.slice ta (el S f).length tc)) w.heap.size 49 #[.slice ta (el S f).length tc,.int .i64 f]:=ag.set_ m1 0 _
 have n2:=ag.far (u:=.slice ta (el S f).length tc) (p:=⟨w.heap.size,0,none⟩) m2 (by simp)
 have fz:=ag.frozen m1 0
 have c0:=ax m1 0 (.slice sa S.length sc) rfl
 have hf0:=ag.frozen n2 0
 have hf1:=ag.frozen n2 1
 have z0:=ax n2 0 (.slice none 0 0) rfl
 have z1:=ax n2 1 (.int .i64 0) rfl
 have y0:=ax n1 0 (.slice ta (el S f).length tc) rfl
 have y1:=ax n1 1 (.int .i64 f) rfl
 obtain⟨r1,r2,r3⟩:=iB B3 (Nat.le_succ w.heap.size) n2 (.slice ta (el S f).length tc) f
 have hS4:=af (r3 _ _ hS3)
 clear q2 hS2 hS3 hkk m1 m2 B2 B3 k1 k2 hb2
 go_wp2_with fail
 refine bodyPost_ret (results_cell_row rfl _ _ (w.heap.size+1) 49 #[.slice ta (el S f).length tc,.int .i64 f] (0,0) _ rfl r1 Tryz.underlying49 rfl (by kernel_rfl)) rfl ?_
 exact⟨_,rfl,hS4.out,r2⟩
def oq (S:List aO)(l:List Lb):aO×Bool:=match cP S l with
 |none=>(cy,false)
 |some i=>(S.getD i cy,true)
theorem AW(w:World):jf w (cy,.slice none 0 0,.slice none 0 0):=⟨⟨by simp[cy],by simp[cy],by simp[cy]⟩,⟨_,_,rfl,by simp[cy]⟩,iu.nil _⟩
theorem qN{w:World}{B g n c k:Nat}{Z:List cH}(h:w.ownsRow B 127 2 (.slice (some ⟨g,0,none⟩) n c) k (aL gA Z)){i:Nat}{z:cH}(hz:Z[i]?=some z):w.cell? ⟨g,i*2,none⟩=some (.int .i64 z.1)/\w.cell? ⟨g,i*2+1,none⟩=some (.int .u64 (z.2:Int)):=by
 have hc:=h.cells (g:=g) rfl;have q:∀j u,(gA z)[j]?=some u->w.cell? ⟨g,i*2+j,none⟩=some u:=fun j u hj=>by
  have:=hc (i*2+j) u (jz (sz:=2) (fun _=>rfl) Z i z hz j u hj);rwa[du,Nat.zero_add] at this
 exact⟨q 0 _ rfl,q 1 _ rfl⟩
theorem E9(f:Nat)(capt:Array Value)(p:cH->Bool)(v:Value)(S:List cH)(w:World)(h:aI w v S)(hp:wO f capt p w)(hcf:∀args W,(callFunc f args).run Tryz.prog W=.ok (.enter f args) W):
 Calls Tryz.prog 163 #[v,.func (.func f) #[] capt] w fun e w'=>e=.returned (.int .i64 (dU (S.findIdx? p)))/\Below w.heap.size w w':=by
 have hlen:=h.len
 obtain⟨a,c,rfl,_⟩:=id h
 have H:=af h
 have HP:=af hp
 clear h hp
 obtain⟨N,hN⟩:∃N,S.length=N:=⟨_,rfl⟩
 have HN:=af hN
 rw[hN] at hlen H⊢
 clear hN
 go_enter Tryz.func163,Tryz.ntmps163
 go_wp2_with fail
 go_loopw [5,8] (fun _ vi wr=>∃(i:Nat),i<=N/\vi=.int .i64 (i:Int)/\Below w.heap.size w wr/\Hid (S.findIdx? p=((S.drop i).findIdx? p).map (·+i))) (fun _ vi _=>N-(intOf vi).toNat)
 case atStart=>exact⟨0,Nat.zero_le _,rfl,bR,af (by rw[List.drop_zero];cases S.findIdx? p<;>rfl)⟩
 obtain⟨i,hi',rfl,hb,HJ⟩:=hrel
 rcases(show i<N\/i=N by omega) with hil|rfl
 ·have hiL:i<S.length:=by rw[HN.out];exact hil
  obtain⟨b,o,rfl,hok,d0,d1⟩:=fO H.out hiL hb;have q:=af (HP.out S[i] wr hok hb);rw[jd p S i hiL] at HJ;clear hok;generalize S[i]=y at*;clear hiL;obtain⟨bo,hbo⟩:∃bo,p y=bo:=⟨_,rfl⟩
  rw[hbo] at HJ q;clear hbo;have hw9:IntKind.i64.wrap ((i:Int)+1)=(i:Int)+1:=ct _ (by omega);go_wp2_with fail
  refine bL q.out fun w2 hb2=>?_;have B2:=ay hb hb2;clear q d0 d1 hb hb2;cases bo with
  |true=>
   have HZ:=af (show dU (S.findIdx? p)=(i:Int) by rw[HJ.out];simp[dU]);clear HJ;go_wp2_with fail
   go_ret;exact⟨by rw[HZ.out];rfl,B2⟩
  |false=>
   have HZ:=af (show S.findIdx? p=((S.drop (i+1)).findIdx? p).map (·+(i+1)) by rw[HJ.out,if_neg (by decide)];cases (S.drop (i+1)).findIdx? p<;>simp[Nat.add_assoc,Nat.add_comm 1]);clear HJ;go_wp2_with fail
   go_roundw
   case rel=>exact⟨i+1,hil,by go_num,B2,HZ⟩
   case measure=>simp[intOf];omega
 ·have HZ:=af (show dU (S.findIdx? p)= -1 by rw[HJ.out,List.drop_of_length_le (by rw[HN.out];exact aF _)];rfl);clear HJ;go_wp2_with fail
  go_ret;exact⟨by rw[HZ.out];rfl,hb⟩
theorem Cz(f:Nat)(capt:Array Value)(p:cH->Bool)(v:Value)(Z:List cH)(w0 w:World)(B:Nat)(hrow:w.ownsRow B 127 2 v Z.length (aL gA Z))(hok:∀z∈Z,ew z)(hbw:Below w0.heap.size w0 w)(hB:w0.heap.size<=B)(hn:Z.length<=100000)(hp:wO f capt p w0)(hcf:∀args W,(callFunc f args).run Tryz.prog W=.ok (.enter f args) W):
 Calls Tryz.prog 95 #[v,.func (.func f) #[] capt] w fun e w'=>∃v',e=.returned v'/\aI w' v' (Z.filter fun x=> !p x)/\Below w0.heap.size w0 w'/\∀k,v'.ownBlock=some k->B<=k:=by
 obtain⟨za,zc,rfl⟩:=aH hrow
 have hser:aI w (.slice za Z.length zc) Z:=iC hrow rfl hn hok
 have q:=af (E9 f capt p _ _ w hser (fun x W hx hW=>hp x W hx (ay hbw hW)) hcf)
 have HP:=af hp
 have HV:=af hok
 have hrl:=hrow.lt
 clear hp hok
 cases hfi:Z.findIdx? p with
 |none=>
  rw[hfi] at q;have HF:=af (show (Z.filter fun x=> !p x)=Z from List.filter_eq_self.2 fun x hx=>by
   rw[List.findIdx?_eq_none_iff] at hfi
   simpa using hfi x hx)
  have H:=af hser;clear hfi hser hrow;simp only[dU] at q;go_enter Tryz.func95,Tryz.ntmps95
  go_wp2_with fail
  refine bL q.out fun w1 hb1=>?_;clear q;go_wp2_with fail
  go_ret;exact⟨_,rfl,by rw[HF.out];exact H.out.below hb1,ay hbw hb1,fun k e=>(hrl k e).1⟩
 |some k0=>
  rw[hfi] at q;have HS:=af (iY.start hfi);have hk0:=fG _ _ hfi;rcases hrow.2 with⟨_,h0⟩|⟨g,gcc,cur,e9,_⟩
  ·omega
  obtain⟨rfl,e10,e11⟩:=Value.slice.inj e9;clear e9 e10 e11 hfi hser;have hgl:=hrl g rfl;have HR:=af hrow;obtain⟨N,hN⟩:∃N,Z.length=N:=⟨_,rfl⟩
  have HN:=af hN;rw[hN] at hn hk0 HR hrl q⊢;have hne1:((k0:Int)== -1)=false:=beq_eq_false_iff_ne.2 (by omega);clear hN hrow;simp only[dU] at q;go_enter Tryz.func95,Tryz.ntmps95
  go_wp2_with fail
  refine bL q.out fun w1 hb1=>?_;clear q;have B1:=ay hbw hb1;have row1:=aw HR.out (ak.of_below (S:=fun _=>False) hb1) (fun _ _ e=>e);have hw0:IntKind.i64.wrap ((k0:Int)+1)=(k0:Int)+1:=ct _ (by omega);go_wp2_with fail
  go_loopw [5,6] (fun si sj wr=>∃(i j:Nat) (Y:List cH),si=.int .i64 (i:Int)/\sj=.int .i64 (j:Int)/\Below w0.heap.size w0 wr/\wr.ownsRow B 127 2 (.slice (some ⟨g,0,none⟩) N zc) N (aL gA Y)/\Hid (iY p Z i j Y)) (fun _ sj _=>N-(intOf sj).toNat)
  case atStart=>exact⟨k0,k0+1,Z,rfl,by go_num,B1,row1,HS⟩
  clear B1 row1 HS hw0 hne1 hb1 HR;obtain⟨i,j,Y,rfl,rfl,hb,row,HD⟩:=hrel;have hij:=HD.out.lt;have hjN:j<=N:=by rw[<-HN.out];exact HD.out.le
  have HYL:=af (show Y.length=N by rw[<-HN.out];exact HD.out.len);rcases(show j<N\/j=N by omega) with hjn|rfl
  ·have hjZ:j<Z.length:=by rw[HN.out];exact hjn
   have hzj:=HD.out.at hjZ;have HK:=af (HD.out.keep hjZ);have HSK:=af (HD.out.skip hjZ);have hzm:=HV.out _ (dK hjZ);generalize Z[j]=z at*;clear hjZ;obtain⟨t,u⟩:=z;obtain⟨e0,e1⟩:=qN row hzj;simp only at e0 e1;have b3:=ai wr (.cells #[.int .i64 t,.int .u64 (u:Int)] 127);have B3:=ay hb b3;have k3:=ag.new wr 127 #[.int .i64 t,.int .u64 (u:Int)];have z0:=ax k3 0 (.int .i64 t) rfl;have z1:=ax k3 1 (.int .u64 (u:Int)) rfl;have q:=af (HP.out (t,u) _ hzm B3);simp only at q;have hw9:IntKind.i64.wrap ((j:Int)+1)=(j:Int)+1:=ct _ (by omega);have hw8:IntKind.i64.wrap ((i:Int)+1)=(i:Int)+1:=ct _ (by omega);have HR:=af (World.ownsRow.alloc row (.cells #[.int .i64 t,.int .u64 (u:Int)] 127));have hiY:i<Y.length:=by rw[HYL.out];omega
   obtain⟨⟨yt,yu⟩,hy⟩:∃y,Y[i]?=some y:=⟨_,aV hiY⟩
   clear hzm row hzj;cases hpz:p (t,u) with
   |true=>
    rw[hpz] at q;have HD2:=af (HSK.out hpz);clear HSK HK hy hpz;go_wp2_with fail
    refine bL q.out fun w2 hb2=>?_;have B2:=ay B3 hb2;have row2:=aw HR.out (ak.of_below (S:=fun _=>False) hb2) (fun _ _ e=>e);clear q e0 e1 hb b3 B3 k3 z0 z1;go_wp2_with fail
    go_roundw
    case rel=>exact⟨i,j+1,Y,rfl,by go_num,B2,row2,HD2⟩
    case measure=>simp[intOf];omega
   |false=>
    rw[hpz] at q;have HD2:=af (HK.out hpz);clear HSK HK hpz;go_wp2_with fail
    refine bL q.out fun w2 hb2=>?_;have B2:=ay B3 hb2;have row2:=aw HR.out (ak.of_below (S:=fun _=>False) hb2) (fun _ _ e=>e);obtain⟨c0,c1⟩:=qN row2 hy;simp only at c0 c1;have k4:=ag.below k3 hb2 k3.lt;have z0:=ax k4 0 (.int .i64 t) rfl;have z1:=ax k4 1 (.int .u64 (u:Int)) rfl;have fA:=bq (j:=i*2) row2 rfl;have fB:=bq (j:=i*2+1) row2 rfl;have rA:=cF (j:=i*2) (u:=.int .i64 t) row2 rfl;have eA:=db (sz:=2) (enc:=gA) (fun _=>rfl) Y i 0 _ (t,yu) (.int .i64 t) hy (by decide) rfl;rw[Nat.add_zero] at eA;rw[eA] at rA;have hzA:(Y.set i (t,yu))[i]?=some (t,yu):=List.getElem?_set_self hiY;have rB:=cF (j:=i*2+1) (u:=.int .u64 (u:Int)) rA rfl;rw[db (sz:=2) (fun _=>rfl) _ i 1 _ (t,u) _ hzA (by decide) rfl,List.set_set] at rB;have hkk:ak w2 ((w2.setCell ⟨g,i*2,none⟩ (.int .i64 t)).setCell ⟨g,i*2+1,none⟩ (.int .u64 (u:Int))) (fun k=>k=g):=(ak.of_grown (ap _ _ _ _) fun k e=>(az e).symm).trans (ak.of_grown (ap _ _ _ _) fun k e=>(az e).symm);have BF:=B2.trans (hkk.below B2.size fun k e=>by have:=hgl.1;omega);have HRC:=af rB;clear q e0 e1 hb rA eA hzA rB hkk row2 hy B2 HR b3 B3 k3 k4;go_wp2_with fail
    go_roundw
    case rel=>exact⟨i+1,j+1,_,by go_num,by go_num,BF,HRC.out,HD2⟩
    case measure=>simp[intOf];omega
  ·obtain⟨w5,hcl,hk5,row5⟩:=nm (sz:=2) (z:=.agg #[.int .i64 0,.int .u64 0]) kO.und (fun W=>by go_simp) rfl (by simp[Value.oneCell',Value.cells]) row hij;rw[(gF (sz:=2) (fun _=>rfl) Y i).1,show Y.take i=Z.filter fun z=> !p z from by have:=HD.out;rw[<-HN.out] at this;exact this.done] at row5;have hB5:=hb.trans (hk5.below hb.size fun k e=>by have:=hgl.1;omega);have hfl:(Z.filter fun z=> !p z).length=i:=by
    have:=HD.out;rw[<-HN.out] at this;rw[<-this.done,dp,HYL.out];omega
   have HAT:=af (iC row5 hfl (by rw[hfl];omega) fun z hz=>HV.out z ((List.mem_filter.1 hz).1));have HFL:=af hfl;rcases row.2 with⟨e9,_⟩|⟨g9,c9,cur9,e9,_,_,hnc,_⟩
   ·cases e9
   obtain⟨hgg,hjj,rfl⟩:=Value.slice.inj e9;clear hgg hjj;have hGi:¬(zc=i):=by omega
   have hi0:(0:Int)<=(i:Int):=by omega
   have hij2:(i:Int)<=(j:Int):=by omega
   have hjc:(j:Int)<=(zc:Int):=by omega
   clear row HYL HD row5 hk5 hfl e9;go_wp2;go_ret;exact⟨_,rfl,HAT.out,hB5,fun k e=>by cases e;exact hgl.1⟩
def en(p:cH->Bool)(L:List cH)(i:Nat):List (Int×Int):=iy none ((L.drop i).map fun y=>(y,p y))
def lK(p:cH->Bool)(L:List cH)(a b:Int)(k:Nat):List (Int×Int):=iy (some (a,b)) ((L.drop k).map fun y=>(y,p y))
theorem vI(p:cH->Bool)(L:List cH){i:Nat}(h:L.length<=i):en p L i=[]:=by
 unfold en;rw[List.drop_of_length_le h];rfl
theorem yZ{p:cH->Bool}{L:List cH}{i:Nat}(h:i<L.length)(hp:p L[i]=false):en p L i=en p L (i+1):=by
 unfold en;rw[List.drop_eq_getElem_cons h,List.map_cons,hp];rfl
theorem Gs{p:cH->Bool}{L:List cH}{i:Nat}(h:i<L.length)(hp:p L[i]=true):en p L i=lK p L L[i].1 L[i].1 (i+1):=by
 unfold en lK;rw[List.drop_eq_getElem_cons h,List.map_cons,hp];rfl
theorem Gt{p:cH->Bool}{L:List cH}{a b:Int}{k:Nat}(h:k<L.length)(hp:p L[k]=true):lK p L a b k=lK p L a L[k].1 (k+1):=by
 unfold lK;rw[List.drop_eq_getElem_cons h,List.map_cons,hp];rfl
theorem Ek{p:cH->Bool}{L:List cH}{a b:Int}{k:Nat}(h:k<L.length)(hp:p L[k]=false):lK p L a b k=(a,b)::en p L k:=by
 rw[yZ h hp];unfold lK en;rw[List.drop_eq_getElem_cons h,List.map_cons,hp];rfl
theorem El{p:cH->Bool}{L:List cH}{a b:Int}{k:Nat}(h:L.length<=k):lK p L a b k=(a,b)::en p L k:=by
 rw[vI p L h];unfold lK;rw[List.drop_of_length_le h];rfl
theorem Fu(M:List cH)(mv:Value)(g:Nat)(w:World)(hM:aI w mv M)(hg:w.cell? ⟨g,1,none⟩=some mv):wO 97 #[.pointer (some ⟨g,0,none⟩)] (fun y=>decide (y∈M)) w:=by
 intro x W hx hW;have bA:=ai W (.cells #[.int .i64 x.1,.int .u64 (x.2:Int)] 127);have kA:=ag.new W 127 #[.int .i64 x.1,.int .u64 (x.2:Int)];have g1:=((ay hW bA).cell (World.block_lt_of_cell? _ _ hg)).trans hg;have z0:=ax kA 0 (.int .i64 x.1) rfl;have z1:=ax kA 1 (.int .u64 (x.2:Int)) rfl;have q:=af (nS _ M x _ ((hM.below hW).below bA));obtain⟨ma,mc,rfl,_⟩:=id hM;clear hM hg hW kA;go_enter Tryz.func97,Tryz.ntmps97
 go_wp2_with fail
 refine bL q.out fun w1 hb=>?_;have B:=ay bA hb;clear q;go_wp2_with fail
 go_ret;exact⟨rfl,B⟩
theorem Fv(f:Int)(M:List cH)(mv:Value)(gb gl:Nat)(x:cH)(W:World)(hM:aI W mv M)(hf:W.cell? ⟨gb,0,none⟩=some (.int .i64 f))(hg:W.cell? ⟨gl,1,none⟩=some mv):
 Calls Tryz.prog 92 #[.agg #[.int .i64 x.1,.int .u64 (x.2:Int)],.pointer (some ⟨gb,0,none⟩),.pointer (some ⟨gl,0,none⟩)] W fun e W'=>e=.returned (.bool (decide (f<=x.1)&& !decide (x∈M)))/\Below W.heap.size W W':=by
 have bA:=ai W (.cells #[.int .i64 x.1,.int .u64 (x.2:Int)] 127)
 have kA:=ag.new W 127 #[.int .i64 x.1,.int .u64 (x.2:Int)]
 have f1:=cu bA hf
 have g1:=cu bA hg
 have z0:=ax kA 0 (.int .i64 x.1) rfl
 have z1:=ax kA 1 (.int .u64 (x.2:Int)) rfl
 have q:=af (nS _ M x _ (hM.below bA))
 obtain⟨ma,mc,rfl,_⟩:=id hM
 clear hM hf hg kA
 by_cases h1:f<=x.1
 ·have hE:=af (show (decide (f<=x.1)&& !decide (x∈M))= !decide (x∈M) by rw[decide_eq_true h1];rfl);go_enter Tryz.func92,Tryz.ntmps92
  go_wp2_with fail
  refine bL q.out fun w1 hb=>?_;have B:=ay bA hb;clear q;go_wp2_with fail
  go_ret;exact⟨by rw[hE.out];rfl,B⟩
 ·have hE:=af (show (decide (f<=x.1)&& !decide (x∈M))=false by rw[decide_eq_false h1];rfl);clear q;go_enter Tryz.func92,Tryz.ntmps92
  go_wp2_with fail
  go_ret;exact⟨by rw[hE.out];rfl,bA⟩
theorem uk{S:List aO}{l:List Lb}{i:Nat}(h:cP S l=some i):i<S.length:=fG _ _ h
theorem DT(v lv:Value)(S:List aO)(l:List Lb)(f:Int)(w0 w:World)(h:aM w0 v S)(hbw:Below w0.heap.size w0 w)(hl:aC w lv l):
 Calls Tryz.prog 91 #[.agg #[v,.int .i64 f],lv] w fun e w'=>∃sl sv,e=.returned (.tuple #[.agg #[sl,sv,.int .i64 (oq S l).1.last],.bool (oq S l).2])/\jf w0 ((oq S l).1,sl,sv)/\Below w.heap.size w w':=by
 obtain⟨sa,sc,rfl,_⟩:=id h
 have b1:=ai w (.cells #[.slice sa S.length sc,.int .i64 f] 49)
 have b2:=b1.alloc b1.size (.cells #[.slice none 0 0,.slice none 0 0,.int .i64 0] 88)
 have k1:=ag.alloc (ag.new w 49 #[.slice sa S.length sc,.int .i64 f]) (.cells #[.slice none 0 0,.slice none 0 0,.int .i64 0] 88)
 have y0:=ax k1 0 (.slice sa S.length sc) rfl
 have y1:=ax k1 1 (.int .i64 f) rfl
 have q:=af (jD _ lv S l f _ ((h.below hbw).below b2) (hl.below b2))
 have H:=af h
 clear h hl b1 k1
 have k2:=ag.new (w.alloc (.cells #[.slice sa S.length sc,.int .i64 f] 49)) 88 #[.slice none 0 0,.slice none 0 0,.int .i64 0]
 rw[aW] at k2
 have k1:=ag.alloc (ag.new w 49 #[.slice sa S.length sc,.int .i64 f]) (.cells #[.slice none 0 0,.slice none 0 0,.int .i64 0] 88)
 go_enter Tryz.func91,Tryz.ntmps91
 go_wp2_with fail
 generalize hW0:(w.alloc _).alloc _=W0 at*
 clear hW0 y0 y1
 refine bL q.out fun w1 hb1=>?_
 have B1:=ay b2 hb1
 have m2:=ag.below k2 hb1 k2.lt
 have m1:=ag.below k1 hb1 k1.lt
 have f0:=ag.frozen m2 0
 have f1:=ag.frozen m2 1
 have f2:=ag.frozen m2 2
 have c0:=ax m2 0 (.slice none 0 0) rfl
 have c1:=ax m2 1 (.slice none 0 0) rfl
 have c2:=ax m2 2 (.int .i64 0) rfl
 have y0:=ax m1 0 (.slice sa S.length sc) rfl
 clear q k1 k2 hb1 m1
 cases hf:cP S l with
 |none=>
  have HO:=af (show oq S l=(cy,false) by unfold oq;rw[hf]);have n9:=((ag.set_ m2 0 (.slice none 0 0)).set_ 1 (.slice none 0 0)).set_ 2 (.int .i64 0);have hkk:=((ak.of_grown (S:=fun k=>k=w.heap.size+1) (ap w1 (w.heap.size+1) 0 (.slice none 0 0)) fun k e=>(az e).symm).trans (ak.of_grown (ap _ (w.heap.size+1) 1 (.slice none 0 0)) fun k e=>(az e).symm)).trans (ak.of_grown (ap _ (w.heap.size+1) 2 (.int .i64 0)) fun k e=>(az e).symm);have B9:=B1.trans (hkk.below B1.size fun k e=>by omega);simp only[dU];clear hf hkk;go_wp2_with fail
  refine i6 n9 Tryz.underlying88 ?_;rw[HO.out];exact⟨_,_,rfl,AW _,B9⟩
 |some i=>
  have hi:=uk hf;obtain⟨gg,o,sl,sv,rfl,hV,d0,d1,d2⟩:=cq H.out hi (Below.refl _ w0);have B0:=ay hbw B1;have d0:=cu B0 d0;have d1:=cu B0 d1;have d2:=cu B0 d2;have HO:=af (show oq S l=(S[i],true) by unfold oq;rw[hf];simp only[];rw[o8 hi]);generalize S[i]=x at*;obtain⟨xl,xs,xb⟩:=x;have hl:aC w0 sl xl:=hV.2.1;have hs:aI w0 sv xs:=hV.2.2;obtain⟨ya,yc,rfl,_⟩:=id hl;obtain⟨za,zc,rfl,_⟩:=id hs;simp only at d0 d1 d2;have hlt:¬((i:Int)<0):=by omega
  have hil:(i:Int)<(S.length:Int):=by omega
  have HV:=af hV;have n9:=((ag.set_ m2 0 (.slice ya xl.length yc)).set_ 1 (.slice za xs.length zc)).set_ 2 (.int .i64 xb);have hkk:=((ak.of_grown (S:=fun k=>k=w.heap.size+1) (ap w1 (w.heap.size+1) 0 (.slice ya xl.length yc)) fun k e=>(az e).symm).trans (ak.of_grown (ap _ (w.heap.size+1) 1 (.slice za xs.length zc)) fun k e=>(az e).symm)).trans (ak.of_grown (ap _ (w.heap.size+1) 2 (.int .i64 xb)) fun k e=>(az e).symm);have B9:=B1.trans (hkk.below B1.size fun k e=>by omega);simp only[dU];clear hf hV hl hs hkk;go_wp2_with fail
  refine i6 n9 Tryz.underlying88 ?_;rw[HO.out];exact⟨_,_,rfl,HV.out,B9⟩
theorem zY(n:Nat)(w:World)(hn:n<=1000000):Calls Tryz.prog 160 #[.slice none 0 0,.int .i64 (n:Int)] w fun e w'=>∃v',e=.returned v'/\w'.ownsRow w.heap.size 127 2 v' 0 []/\Below w.heap.size w w':=by
 by_cases h0:n=0
 ·subst h0;go_enter Tryz.func160,Tryz.ntmps160
  go_wp2_with fail
  go_ret;exact⟨_,rfl,eE,bR⟩
 ·obtain⟨i0,z0,hin,hz0,hz1,hz2,hz3⟩:=kO.info;have hold:(Builtin.firstCells i0.size 0 (.slice none 0 0)).run Tryz.prog w.drew=.ok #[] w.drew:=rfl;obtain⟨G,hG⟩:∃G,G=grownCap w n 0 127:=⟨_,rfl⟩
  have h:=Lib.run_append_grow_zeros w 86 3 86 127 i0 z0 .i64 .i64 kO.und Tryz.underlying3 hin hz0 none 0 0 [] hold n (by omega) (by omega) (by omega) (by omega) (by rw[hz2];omega) (by rw[hz2,Nat.zero_add];exact growslice_fits (by omega) (by omega));simp only[Nat.zero_add] at h;rw[<-hG] at h;have hGn:n<=G:=by rw[hG];exact grownCap_ge w _ _ _
  have hG63:G<=maxLen:=by rw[hG];exact grownCap_le_maxLen w n 0 127 (by unfold maxLen;omega)
  have hRs:(([]:List Value).toArray++Builtin.zeroCells z0.cells n++Builtin.zeroCells z0.cells (G-n)).size=G*2:=by
   simp only[Array.size_append,List.size_toArray,List.length_nil,size_zeroCells,hz3];omega
  generalize ([]:List Value).toArray++Builtin.zeroCells z0.cells n++Builtin.zeroCells z0.cells (G-n)=ROW at*;have hpos:(0:Int)<(n:Int):=by omega
  have hnn:¬((n:Int)<0):=by omega
  have hn0:(0:Int)<=(n:Int):=by omega
  have hw0:IntKind.i64.wrap (n:Int)=(n:Int):=ct _ (by omega);have hR:=af (show (w.drew.alloc (.cells ROW 127)).ownsRow w.heap.size 127 2 (.slice (some ⟨w.heap.size,0,none⟩) 0 G) 0 []/\Below w.heap.size w (w.drew.alloc (.cells ROW 127)) from⟨⟨by simp,.inr ⟨w.heap.size,G,ROW,rfl,aF _,ag.new w.drew 127 ROW,Nat.zero_le _,hG63,hRs,by simp⟩⟩,((Below.refl _ w).drew).alloc (aF _) _⟩);clear hold hG hRs;go_enter Tryz.func160,Tryz.ntmps160
  go_wp2_with (at_builtin;refine Lib.wpList_append_run _ rfl _ _ _ _ rfl _ _ rfl rfl _ _ h ?_)
  go_ret;exact⟨_,rfl,hR.out⟩
theorem C8(g c:Nat)(va vb:Value)(A B:List cH)(w:World)(hA:aI w va A)(hB:aI w vb B)(x0:w.cell? ⟨g,0,none⟩=some va)(x1:w.cell? ⟨g,1,none⟩=some vb)(hn:A.length+B.length<=100000):
 Calls Tryz.prog 89 #[.slice (some ⟨g,0,none⟩) 2 c] w fun e w'=>∃v',e=.returned v'/\aI w' v' (A++B)/\Below w.heap.size w w'/\∀k,v'.ownBlock=some k->w.heap.size<=k:=by
 obtain⟨i0,z0,hin,hz0,hz1,hz2,hz3⟩:=kO.info
 obtain⟨aa,ac,rfl,ha0,_⟩:=id hA
 obtain⟨ba,bc,rfl,hb0,_⟩:=id hB
 have q:=af (zY (A.length+B.length) w (by omega))
 have HA:=af hA
 have HB:=af hB
 have hw1:IntKind.i64.wrap ((A.length:Int)+(B.length:Int))=((A.length+B.length:Nat):Int):=by rw[ct _ (by omega)];omega
 have hw0:IntKind.i64.wrap (0+(A.length:Int))=(A.length:Int):=by rw[Int.zero_add];exact ct _ (by omega)
 clear hA hB
 go_enter Tryz.func89,Tryz.ntmps89
 go_wp2_with fail
 go_loopw [3,11] (fun vs vi wr=>∃j:Nat,j<=2/\vi=.int .i64 (j:Int)/\vs=.int .i64 ((if j=0 then 0 else if j=1 then A.length else A.length+B.length:Nat):Int)/\w=wr) (fun _ vi _=>2-(intOf vi).toNat)
 case atStart=>exact⟨0,by omega,rfl,rfl,rfl⟩
 obtain⟨j,hj,rfl,rfl,rfl⟩:=hrel
 match j,hj with
 |0,_=>
  simp only[if_true];go_wp2_with fail
  go_roundw
  case rel=>exact⟨1,by omega,rfl,by simp,trivial⟩
  case measure=>simp[intOf]
 |1,_=>
  simp only[if_true,if_neg (show ¬(1=0) by omega)];go_wp2_with fail
  go_roundw
  case rel=>exact⟨2,by omega,rfl,by simp,trivial⟩
  case measure=>simp[intOf]
 |2,_=>
  rw[show (if (2:Nat)=0 then 0 else if (2:Nat)=1 then A.length else A.length+B.length)=A.length+B.length from rfl];go_wp2_with fail
  refine q.out.mono ?_;rintro e w1 ⟨v1,rfl,row1,hb1⟩;clear q hw1 hw0;have h0A:aa=none->A.length=0/\ac=0:=fun e=>by have:=ha0 e;have:=HA.out;obtain⟨_,_,e2,_,_,h,_⟩:=this;obtain⟨_,_,rfl⟩:=Value.slice.inj e2;omega
  have h0B:ba=none->B.length=0/\bc=0:=fun e=>by have:=hb0 e;have:=HB.out;obtain⟨_,_,e2,_,_,h,_⟩:=this;obtain⟨_,_,rfl⟩:=Value.slice.inj e2;omega
  have hlA:=af (jy (sz:=2) (enc:=gA) (fun _=>rfl) A);have hlB:=af (jy (sz:=2) (enc:=gA) (fun _=>rfl) B);clear ha0 hb0;go_wp2_with fail
  go_loopw [6,27] (fun vn vi wr=>∃(j:Nat) (D:List cH),j<=2/\vi=.int .i64 (j:Int)/\wr.ownsRow w.heap.size 127 2 vn D.length (aL gA D)/\Below w.heap.size w wr/\D=if j=0 then[] else if j=1 then A else A++B) (fun _ vi _=>2-(intOf vi).toNat)
  case atStart=>exact⟨0,[],by omega,rfl,row1,hb1,rfl⟩
  clear row1 hb1;obtain⟨j,D,hj,rfl,row,hb,hD⟩:=hrel;have y0:=cu hb x0;have y1:=cu hb x1;clear x0 x1;match j,hj with
  |0,_=>
   obtain rfl:D=[]:=hD;go_wp2_with (at_builtin;(refine fj rfl _ _ 86 rfl w.heap.size 127 i0 z0 2 16 kO.und hin hz0 hz1 hz2 hz3 (by decide) _ 0 (aL gA []) rfl row aa A.length ac (aL gA A) rfl h0A hlA.out (nI (HA.out.below hb)) (xp A) (by unfold maxLen;omega) (by omega) hb.size ?_);intro v' w5 hown hgrow hloc)
   have B5:=hb.trans ((ak.of_grown (S:=fun k=>w.heap.size<=k) hgrow fun k e=>(row.lt k e).1).below hb.size fun k e=>e);have HO:=af (show w5.ownsRow w.heap.size 127 2 v' A.length (aL gA A) from by rw[Nat.zero_add] at hown;exact hown);clear hown hgrow hloc row;go_roundw
   case rel=>exact⟨1,A,by omega,rfl,HO.out,B5,rfl⟩
   case measure=>simp[intOf]
  |1,_=>
   obtain rfl:D=A:=hD;go_wp2_with (at_builtin;(refine fj rfl _ _ 86 rfl w.heap.size 127 i0 z0 2 16 kO.und hin hz0 hz1 hz2 hz3 (by decide) _ D.length (aL gA D) rfl row ba B.length bc (aL gA B) rfl h0B hlB.out (nI (HB.out.below hb)) (xp B) (by unfold maxLen;omega) (by omega) hb.size ?_);intro v' w5 hown hgrow hloc)
   have B5:=hb.trans ((ak.of_grown (S:=fun k=>w.heap.size<=k) hgrow fun k e=>(row.lt k e).1).below hb.size fun k e=>e);have HO:=af (show w5.ownsRow w.heap.size 127 2 v' (D++B).length (aL gA (D++B)) from by rw[aG,dO];exact hown);clear hown hgrow hloc row;go_roundw
   case rel=>exact⟨2,D++B,by omega,rfl,HO.out,B5,rfl⟩
   case measure=>simp[intOf]
  |2,_=>
   obtain rfl:D=A++B:=hD;have hlt:=row.lt;have HS:=af (iC row rfl (by rw[aG];exact hn) fun z hz=>(List.mem_append.1 hz).elim (eq HA.out z) (eq HB.out z));obtain⟨da,dc,rfl⟩:=aH row;clear row y0 y1;go_wp2_with fail
   go_ret;exact⟨_,rfl,HS.out,hb,fun k e=>(hlt k e).1⟩
theorem tB(S:List aO)(x:aO):(mj S x).length<=S.length+1:=by
 unfold mj;cases cP S x.labels with
 |none=>simp only[aG,dp,cY,List.length_drop];omega
 |some i=>simp only[List.length_set];omega
theorem tA{S:List aO}{x y:aO}(h:y∈mj S x):y=x\/y∈S:=by
 unfold mj at h;cases hf:cP S x.labels with
 |none=>
  rw[hf] at h;rcases List.mem_append.1 h with h|h
  ·exact .inr (List.mem_of_mem_take h)
  ·rcases List.mem_cons.1 h with h|h
   ·exact .inl h
   ·exact .inr (List.mem_of_mem_drop h)
 |some i=>
  rw[hf] at h;exact GT h
def iE (m:Nat)(S:List aO):Prop:=∀x∈S,x.samples.length<=m
theorem FE{m n:Nat}{S:List aO}(h:iE m S)(hmn:m<=n):iE n S:=fun x hx=>aK (h x hx) hmn
theorem Ab{m:Nat}{S:List aO}(h:iE m S)(i:Nat):(S.getD i cy).samples.length<=m:=by
 rw[List.getD_eq_getElem?_getD];cases hi:S[i]? with
 |none=>simp[cy]
 |some x=>exact h x (List.mem_of_getElem? hi)
theorem xV{m:Nat}{S:List aO}(h:iE m S)(r:Rc):iE m (eC S r)/\(eC S r).length<=S.length+1:=by
 unfold eC;cases cP S r.labels with
 |none=>exact⟨h,by simp⟩
 |some i=>
  refine⟨fun y hy=>?_,tB _ _⟩;rcases tA hy with rfl|hy
  ·exact aK (List.length_filter_le _ _) (Ab h i)
  ·exact h y hy
theorem yY{m:Nat}{S:List aO}(h:iE m S)(x:aO):iE (m+x.samples.length) (fk S x)/\(fk S x).length<=S.length+1:=by
 unfold fk;cases cP S x.labels with
 |none=>
  refine⟨fun y hy=>?_,tB _ _⟩;rcases tA hy with rfl|hy
  ·omega
  ·have:=h y hy;omega
 |some i=>
  refine⟨fun y hy=>?_,tB _ _⟩;rcases tA hy with rfl|hy
  ·have:=Ab h i;simp only[aG];omega
  ·have:=h y hy;omega
theorem vM{m:Nat}{S:List aO}(h:iE m S)(f:Int):iE m (el S f)/\(el S f).length<=S.length:=⟨fun x hx=>h x ((List.mem_filter.1 hx).1),List.length_filter_le _ _⟩
def Az(f:Int)(x:aO):aO:=⟨x.labels,ek x.samples f 9223372036854775807,x.last⟩
theorem xZ(S:List aO)(f:Int):kM S f=el (S.map (Az f)) f:=rfl
theorem Iy{m:Nat}{S:List aO}(h:iE m S)(f:Int):iE m (S.map (Az f)):=fun x hx=>by
 obtain⟨y,hy,rfl⟩:=List.mem_map.1 hx;exact aK (List.length_filter_le _ _) (h y hy)
theorem wj{α β:Type}(g:β->α->β)(b:β)(L:List α){j:Nat}(h:j<L.length):(L.take (j+1)).foldl g b=g ((L.take j).foldl g b) L[j]:=by
 rw[eM h,List.foldl_append];rfl
structure wQ(w wr:World)(sv gv bv:Value)(f fb:Int)(v1:Value)(f1:Int)(S1:List aO):Prop where
 b0:ag wr w.heap.size 49 #[sv,.int .i64 f]
 b1:ag wr (w.heap.size+1) 25 #[.int .i64 fb,gv,bv]
 b2:ag wr (w.heap.size+2) 49 #[.slice none 0 0,.int .i64 0]
 b3:ag wr (w.heap.size+3) 49 #[v1,.int .i64 f1]
 ser:aM wr v1 S1
 below:Below w.heap.size w wr
 size:w.heap.size+4<=wr.heap.size
section
variable {w wr w':World} {sv gv bv v1 v2:Value} {f fb f1 f2:Int} {S1 S2:List aO}
theorem wQ.next(h:wQ w wr sv gv bv f fb v1 f1 S1)(hb:Below wr.heap.size wr w'):wQ w w' sv gv bv f fb v1 f1 S1:=
 ⟨ag.below h.b0 hb h.b0.lt,ag.below h.b1 hb h.b1.lt,ag.below h.b2 hb h.b2.lt,ag.below h.b3 hb h.b3.lt,h.ser.below hb,h.below.trans (hb.mono h.below.size),aK h.size hb.size⟩
theorem wQ.setS(h:wQ w wr sv gv bv f fb v1 f1 S1)(hs:aM wr v2 S2):wQ w (wr.setCell ⟨w.heap.size+3,0,none⟩ v2) sv gv bv f fb v2 f1 S2:=by
 obtain⟨a,c,rfl,_⟩:=id h.ser;have hk:ak wr (wr.setCell ⟨w.heap.size+3,0,none⟩ v2) (fun k=>k=w.heap.size+3):=ak.of_grown (ap _ _ _ _) fun k e=>(az e).symm;exact⟨ag.far h.b0 (by simp) _,ag.far h.b1 (by simp) _,ag.far h.b2 (by simp) _,ag.set_ h.b3 0 _,hs.st h.b3 hk,h.below.trans (hk.below h.below.size fun k e=>by omega),aK h.size hk.size⟩
theorem wQ.setF(h:wQ w wr sv gv bv f fb v1 f1 S1)(f2:Int):wQ w (wr.setCell ⟨w.heap.size+3,1,none⟩ (.int .i64 f2)) sv gv bv f fb v1 f2 S1:=by
 obtain⟨a,c,rfl,_⟩:=id h.ser;have hk:ak wr (wr.setCell ⟨w.heap.size+3,1,none⟩ (.int .i64 f2)) (fun k=>k=w.heap.size+3):=ak.of_grown (ap _ _ _ _) fun k e=>(az e).symm;exact⟨ag.far h.b0 (by simp) _,ag.far h.b1 (by simp) _,ag.far h.b2 (by simp) _,ag.set_ h.b3 1 _,h.ser.st h.b3 hk,h.below.trans (hk.below h.below.size fun k e=>by omega),aK h.size hk.size⟩
theorem wQ.far(h:wQ w wr sv gv bv f fb v1 f1 S1){b j:Nat}{u:Value}(hb:w.heap.size+4<=b)(hs:aM (wr.setCell ⟨b,j,none⟩ u) v1 S2):wQ w (wr.setCell ⟨b,j,none⟩ u) sv gv bv f fb v1 f1 S2:=by
 have hk:ak wr (wr.setCell ⟨b,j,none⟩ u) (fun k=>k=b):=ak.of_grown (ap _ _ _ _) fun k e=>(az e).symm;exact⟨ag.far h.b0 (by simp;omega) _,ag.far h.b1 (by simp;omega) _,ag.far h.b2 (by simp;omega) _,ag.far h.b3 (by simp;omega) _,hs,h.below.trans (hk.below h.below.size fun k e=>by omega),aK h.size hk.size⟩
theorem wQ.facts(h:wQ w wr sv gv bv f fb v1 f1 S1):wr.cell? ⟨w.heap.size,0,none⟩=some sv/\wr.cell? ⟨w.heap.size,1,none⟩=some (.int .i64 f)/\wr.cell? ⟨w.heap.size+1,0,none⟩=some (.int .i64 fb)/\wr.cell? ⟨w.heap.size+1,1,none⟩=some gv/\wr.cell? ⟨w.heap.size+1,2,none⟩=some bv/\
 wr.cell? ⟨w.heap.size+3,0,none⟩=some v1/\wr.cell? ⟨w.heap.size+3,1,none⟩=some (.int .i64 f1)/\wr.frozen? ⟨w.heap.size+3,0,none⟩=false/\wr.frozen? ⟨w.heap.size+3,1,none⟩=false:=
 ⟨ag.cell h.b0 0,ag.cell h.b0 1,ag.cell h.b1 0,ag.cell h.b1 1,ag.cell h.b1 2,ag.cell h.b3 0,ag.cell h.b3 1,ag.frozen h.b3 0,ag.frozen h.b3 1⟩
end
def rV (f:Int)(S:List aO)(j:Nat):List aO:=(S.take j).map (Az f)++S.drop j
theorem vR(f:Int)(S:List aO):rV f S 0=S:=by simp[rV]
theorem GR(f:Int)(S:List aO){j:Nat}(h:j<S.length):(rV f S j)[j]?=some S[j]:=by
 unfold rV;rw[List.getElem?_append_right (by rw[List.length_map,dp];omega),List.length_map,dp,show j-min j S.length=0 by omega,List.getElem?_drop,Nat.add_zero,aV h]
theorem GQ(f:Int)(S:List aO){j:Nat}(h:j<S.length):(rV f S j).set j (Az f S[j])=rV f S (j+1):=by
 unfold rV;rw[List.set_append_right _ _ (by rw[List.length_map,dp];omega),List.length_map,dp,show j-min j S.length=0 by omega,List.drop_eq_getElem_cons h,List.set_cons_zero,eM h,List.map_append,List.append_assoc];rfl
theorem GS(f:Int)(S:List aO){j:Nat}(h:S.length<=j):rV f S j=S.map (Az f):=by
 unfold rV;rw[List.take_of_length_le h,List.drop_of_length_le h,List.append_nil]
end
section
open Go.RowKit Go.Maps Go.WideMaps Go.ChangeShapes Go.WideShapes Go.Deep
attribute [local go_sem] am aq
def gu(w:World)(v:Value)(L:List cH):Prop:=
 ∃a c,v=.slice a L.length c/\L.length<=maxLen/\(a=none->c=0)/\L.length<=c/\∀(i:Nat) x,L[i]?=some x->∃b o,a=some ⟨b,o,none⟩/\pw w b (o+i*2) x
theorem gu.below{w w':World}{v:Value}{L:List cH}(h:gu w v L)(hb:Below w.heap.size w w'):gu w' v L:=by
 obtain⟨a,c,h1,h2,h3,h4,h5⟩:=h;refine⟨a,c,h1,h2,h3,h4,fun i x hx=>?_⟩;obtain⟨b,o,h6,h7⟩:=h5 i x hx;exact⟨b,o,h6,h7.below hb⟩
theorem gu.at{w:World}{v:Value}{L:List cH}(h:gu w v L)(hf:L.length<=250):aI w v L:=by
 obtain⟨a,c,h1,h2,h3,h4,h5⟩:=h;exact⟨a,c,h1,h3,by omega,h4,h5⟩
theorem gu.ok{w:World}{v:Value}{L:List cH}(h:gu w v L):∀x∈L,ew x:=fun x hx=>by
 obtain⟨i,hi⟩:=List.getElem?_of_mem hx;obtain⟨a,c,_,_,_,_,h5⟩:=h;obtain⟨_,_,_,h7⟩:=h5 i x hi;exact h7.1
def JT(w:World)(b o:Nat)(x:aO):Prop:=(-9223372036854775808<=x.last/\x.last<=9223372036854775807)/\∃sl sv,w.cell? ⟨b,o,none⟩=some sl/\fL w sl x.labels/\w.cell? ⟨b,o+1,none⟩=some sv/\gu w sv x.samples/\w.cell? ⟨b,o+2,none⟩=some (.int .i64 x.last)
def gw(w:World)(v:Value)(S:List aO):Prop:=
 ∃a c,v=.slice a S.length c/\S.length<=maxLen/\(a=none->c=0)/\S.length<=c/\∀(i:Nat) x,S[i]?=some x->∃b o,a=some ⟨b,o,none⟩/\JT w b (o+i*3) x
theorem gw.below{w w':World}{v:Value}{S:List aO}(h:gw w v S)(hb:Below w.heap.size w w'):gw w' v S:=by
 obtain⟨a,c,h1,h2,h2a,h2b,h3⟩:=h;refine⟨a,c,h1,h2,h2a,h2b,fun i x hx=>?_⟩;obtain⟨b,o,h4,h5,sl,sv,e1,hL,e2,hS,e3⟩:=h3 i x hx;have f:∀{p:Addr} {v:Value},w.cell? p=some v->w'.cell? p=some v:=fun h=>cu hb h;exact⟨b,o,h4,h5,sl,sv,f e1,hL.below hb,f e2,hS.below hb,f e3⟩
def KK (S:List aO):Prop:=S.length<=30/\∀x∈S,Fl x.labels/\x.samples.length<=250
theorem gw.at{w:World}{v:Value}{S:List aO}(h:gw w v S)(hf:KK S):aM w v S:=by
 obtain⟨a,c,h1,h2,h2a,h2b,h3⟩:=h;refine⟨a,c,h1,h2a,by have:=hf.1;omega,h2b,fun i x hx=>?_⟩;obtain⟨b,o,h4,h5,sl,sv,e1,hL,e2,hS,e3⟩:=h3 i x hx;have hx2:=hf.2 x (List.mem_of_getElem? hx);exact⟨b,o,h4,⟨hS.ok,h5⟩,sl,sv,e1,hL.at hx2.1,e2,hS.at hx2.2,e3⟩
section
variable {H:Type} {enc:TypeId×Value->H} {w:World} {base:Nat} {sp:Nat->Bool} {held:Bool}
theorem zC{fuel:Nat}{T U:TypeId}(hT:Tryz.prog.underlying T=some (.slice U)){sa:Option Addr}{sl sc:Nat}{x:DataW H×List MemPlace}(h:DataW.trod enc Tryz.prog w base sp held fuel T [.slice sa sl sc]=some x):sl<=sc/\(sa=none->sc=0):=by
 rcases open_slice hT h with⟨e,_⟩|⟨_,_,_,_,_,_,_,e,_,hl,_⟩
 ·simp only[List.cons.injEq,Value.slice.injEq,and_true] at e;obtain⟨rfl,rfl,rfl⟩:=e;exact⟨aF _,fun _=>rfl⟩
 ·simp only[List.cons.injEq,Value.slice.injEq,and_true] at e;obtain⟨rfl,rfl,rfl⟩:=e;exact⟨hl,fun e=>by cases e⟩
theorem kF{fuel:Nat}{T U:TypeId}(hT:Tryz.prog.underlying T=some (.slice U)){v:Value}{x:DataW H×List MemPlace}(h:DataW.trod enc Tryz.prog w base sp held fuel T [v]=some x):∃sa sl sc,v=.slice sa sl sc:=by
 rcases open_slice hT h with⟨e,_⟩|⟨_,_,_,_,_,_,_,e,_⟩
 ·exact⟨_,_,_,by simpa using e⟩
 ·exact⟨_,_,_,by simpa using e⟩
theorem xj{fuel:Nat}{sa:Option Addr}{sl sc:Nat}{x:DataW H×List MemPlace}(h:DataW.trod enc Tryz.prog w base sp held fuel 86 [.slice sa sl sc]=some x):∃L,gu w (.slice sa sl sc) L:=by
 obtain⟨hsc,hnil⟩:=zC Tryz.underlying86 h;obtain⟨h1,L,h2,h3,h4⟩:=i5 Tryz.underlying86 (n:=2) (by kernel_rfl) (by omega) h;obtain⟨l,k1,k2⟩:=gV (R:=fun cs (a:cH)=>ew a/\cs=[.int .i64 a.1,.int .u64 (a.2:Int)]) L fun cs hc=>by
  obtain⟨m,y,hy⟩:=h4 cs hc;obtain⟨hlen,k,hf⟩:=jg Tryz.underlying127 (by kernel_rfl) (by kernel_rfl) hy;match cs,hlen with
  |[v1,v2],_=>
   obtain⟨y1,g1⟩:=hf 0 _ v1 rfl rfl;obtain⟨y2,g2⟩:=hf 1 _ v2 rfl rfl;obtain⟨T,e1,_,w1⟩:=DataW.trod_int Tryz.underlying2 g1;obtain⟨V,e2,_,w2⟩:=DataW.trod_int Tryz.underlying67 g2;simp only[List.cons.injEq,and_true] at e1 e2;subst e1 e2;obtain⟨n,rfl,hn⟩:∃k:Nat,V=k/\k<18446744073709551616:=by
    have:=bounds_u64 w2;exact⟨V.toNat,by omega,by omega⟩
   exact⟨(T,n),⟨bounds_i64 w1,hn⟩,rfl⟩
 refine⟨l,sa,sc,by rw[k1,h2],by omega,hnil,by omega,fun i a ha=>?_⟩;obtain⟨cs,e1,hok,rfl⟩:=k2 i a ha;obtain⟨_,b,o,f1,f2⟩:=h3 i _ e1;exact⟨b,o,f1,hok,by simpa using f2 0 _ rfl,f2 1 _ rfl⟩
theorem oF{fuel:Nat}{sa:Option Addr}{sl sc:Nat}{x:DataW H×List MemPlace}(h:DataW.trod enc Tryz.prog w base sp held fuel 23 [.slice sa sl sc]=some x):∃S,gw w (.slice sa sl sc) S:=by
 obtain⟨hsc,hnil⟩:=zC Tryz.underlying23 h;obtain⟨h1,L,h2,h3,h4⟩:=i5 Tryz.underlying23 (n:=3) (by kernel_rfl) (by omega) h;obtain⟨l,k1,k2⟩:=gV (R:=fun cs (a:aO)=>(-9223372036854775808<=a.last/\a.last<=9223372036854775807)/\∃kv sv,cs=[kv,sv,.int .i64 a.last]/\fL w kv a.labels/\gu w sv a.samples) L fun cs hc=>by
  obtain⟨m,y,hy⟩:=h4 cs hc;obtain⟨hlen,k,hf⟩:=jg Tryz.underlying88 (by kernel_rfl) (by kernel_rfl) hy;match cs,hlen with
  |[v1,v2,v3],_=>
   obtain⟨y1,g1⟩:=hf 0 _ v1 rfl rfl;obtain⟨y2,g2⟩:=hf 1 _ v2 rfl rfl;obtain⟨y3,g3⟩:=hf 2 _ v3 rfl rfl;obtain⟨T,e3,_,w3⟩:=DataW.trod_int Tryz.underlying2 g3;obtain⟨ks,hks⟩:=oY g1 (kF Tryz.underlying65 g1);obtain⟨a2,n2,c2,rfl⟩:=kF Tryz.underlying86 g2;obtain⟨ms,hms⟩:=xj g2;simp only[List.cons.injEq,and_true] at e3;subst e3;exact⟨⟨ks,ms,T⟩,bounds_i64 w3,v1,_,rfl,hks,hms⟩
 refine⟨l,sa,sc,by rw[k1,h2],by omega,hnil,by omega,fun i a ha=>?_⟩;obtain⟨cs,e1,hok,kv,sv,rfl,e2,e3⟩:=k2 i a ha;obtain⟨_,b,o,f1,f2⟩:=h3 i _ e1;exact⟨b,o,f1,hok,kv,sv,by simpa using f2 0 _ rfl,e2,f2 1 _ rfl,e3,f2 2 _ rfl⟩
end
theorem ws{w:World}{v:Value}{S:List aO}(h:gw w v S):
 Calls Tryz.prog 23 #[v] w fun e w'=>∃b,e=.returned (.bool b)/\Below w.heap.size w w'/\(b=true->KK S):=by
 obtain⟨a,c,rfl,hn,_,_,hc⟩:=h
 have HC:=af hc
 unfold maxLen at hn
 clear hc
 go_enter Tryz.func23,Tryz.ntmps23
 go_wp2
 go_loopw [3] (fun vi wr=>∃i:Nat,i<=S.length/\i<=31/\vi=.int .i64 (i:Int)/\(∀x∈S.take i,Fl x.labels/\x.samples.length<=250)/\Below w.heap.size w wr) (fun vi _=>31-(intOf vi).toNat)
 case atStart=>exact⟨0,Nat.zero_le _,by omega,rfl,by simp,bR⟩
 obtain⟨i,hi,hi2,rfl,hp,hb⟩:=hrel
 have HP:=af hp
 clear hp
 by_cases hil:i<S.length
 ·by_cases hi3:i<=30
  ·obtain⟨b,o,rfl,hok,sl,sv,d1,hL,d2,hS,_⟩:=HC.out i _ (aV hil);have HT:=af (show S.take i++[S[i]]=S.take (i+1) from(eM hil).symm);have e1:=cu hb d1;have q:=af (DV (hL.below (hb.mono (aF _))));generalize S[i]=x at*;obtain⟨va,vc,rfl,_⟩:=hL;obtain⟨ma,mc,rfl,hm,_⟩:=hS;unfold maxLen at hm;go_wp2_with fail
   refine q.out.mono ?_;rintro e W2 ⟨b2,rfl,hb2,hf⟩;have HF:=af hf;have hbb:=ay hb hb2;have e2:=cu hbb d2;clear hf q d1 d2 e1;cases b2 with
   |false=>
    go_wp2;go_ret;exact⟨false,rfl,hbb,fun e=>by cases e⟩
   |true=>
    by_cases h1:250<x.samples.length
    ·have f1:decide ((250:Int)<(x.samples.length:Int))=true:=by simp;omega
     have f1':decide (250<x.samples.length)=true:=by simpa using h1
     go_wp2;go_ret;exact⟨false,rfl,hbb,fun e=>by cases e⟩
    have f1:decide ((250:Int)<(x.samples.length:Int))=false:=by simp;omega
    have f1':decide (250<x.samples.length)=false:=by simpa using h1
    go_wp2;go_roundw
    case rel=>
     refine⟨i+1,by omega,by omega,by go_num,fun y hy=>?_,hbb⟩;rw[<-HT.out] at hy;rcases List.mem_append.1 hy with hy|hy
     ·exact HP.out y hy
     ·obtain rfl:=List.mem_singleton.1 hy;exact⟨HF.out trivial,by omega⟩
    case measure=>simp[intOf];omega
  ·have f1:decide ((i:Int)<=30)=false:=by simp;omega
   have f1':decide (i<=30)=false:=by simpa using hi3
   have f2:decide ((S.length:Int)<=30)=false:=by simp;omega
   have f2':decide (S.length<=30)=false:=by simp;omega
   go_wp2;go_ret;exact⟨false,rfl,hb,fun e=>by cases e⟩
 ·obtain rfl:i=S.length:=by omega
  rw[List.take_length] at HP;go_wp2;go_ret;exact⟨_,rfl,hb,fun e=>⟨by (have h:(S.length:Int)<=30:=by simpa using e);omega,HP.out⟩⟩
theorem FT{w:World}{gv sv:Value}{f:Int}{R:List Rc}{S:List aO}(hR:iw w gv R)(hS:gw w sv S):
 Calls Tryz.prog 10 #[.agg #[.int .i64 f,gv,sv]] w fun e w'=>∃b,e=.returned (.bool b)/\Below w.heap.size w w'/\(b=true->KL R/\KK S):=by
 have b0:=ai w (.cells #[.int .i64 f,gv,sv] 25)
 have k0:=ag.new w 25 #[.int .i64 f,gv,sv]
 have q1:=af (ws (hS.below b0))
 have q2:=af (fun W (hb:Below w.heap.size w W)=>AP (hR.below hb))
 obtain⟨ga,gc,rfl,_⟩:=hR
 obtain⟨sa,sc,rfl,_⟩:=hS
 go_enter Tryz.func10,Tryz.ntmps10
 go_wp2_with fail
 refine q1.out.mono ?_
 rintro e w1 ⟨b1,rfl,hb,hf1⟩
 have hb1:=ay b0 hb
 have y1:=ax (ag.below k0 hb k0.lt) 1 (.slice ga R.length gc) rfl
 have HF1:=af hf1
 clear hf1 q1 b0 hb k0
 cases b1 with
 |false=>
  go_wp2;go_ret;exact⟨false,rfl,hb1,fun e=>by cases e⟩
 |true=>
  go_wp2_with fail
  refine(q2.out _ hb1).mono ?_;rintro e w2 ⟨b2,rfl,hb2,hf2⟩;have HF2:=af hf2;clear hf2 q2;go_wp2;go_ret;exact⟨b2,rfl,ay hb1 hb2,fun e=>⟨HF2.out e,HF1.out trivial⟩⟩
end
section
open Go.RowKit Go.Maps Go.WideMaps Go.ChangeShapes Go.WideShapes Go.Deep
theorem Lk:Tryz.prog.globalNamed "math/bits.deBruijn64tab"=some 1:=by kernel_rfl
def Li:List (String×DataW Unit):=[("math/bits.deBruijn64tab",Rows.laid_math_bits_deBruijn64tab),("unicode/utf8.acceptRanges",Rows.laid_unicode_utf8_acceptRanges),("unicode/utf8.first",Rows.laid_unicode_utf8_first)]
theorem LQ{W:World}(hL:laidMet Tryz.prog Li W):Tb W/\1<W.heap.size:=by
 have hL2:laidMet Tryz.prog (("math/bits.deBruijn64tab",Lib.tabData .u8 (Lib.deBruijn64tab.map Int.ofNat))::[("unicode/utf8.acceptRanges",Rows.laid_unicode_utf8_acceptRanges),("unicode/utf8.first",Rows.laid_unicode_utf8_first)]) W:=hL;have hI:Lib.TabIs Tryz.prog W "math/bits.deBruijn64tab" .u8 (Lib.deBruijn64tab.map Int.ofNat):=Lib.tabIs_of_head (t:=438) (e:=5) (n:=64) Lk (by kernel_rfl) (by kernel_rfl) (by kernel_rfl) (by kernel_rfl) (by kernel_rfl) hL2;have hc:∀j,j<Lib.deBruijn64tab.length->W.cell? ⟨1,j,none⟩=some (.int .u8 (Lib.deBruijn64tab.getD j 0)):=fun j hj=>by
  rw[hI.cell Lk j (by rw[List.length_map];exact hj)];congr 2;simp[List.getD,hj]
 exact⟨hc,World.block_lt_of_cell? _ _ (hc 0 (by decide))⟩
section
variable {H:Type} {enc:TypeId×Value->H} {w:World} {base:Nat} {sp:Nat->Bool} {held:Bool}
theorem Ax{cs:Array Value}{d:DataW H}{p:List MemPlace}(h:DataW.Trod enc Tryz.prog w base sp held 25 (.agg cs) d p):∃(b:nd) (gv sv:Value),Value.agg cs=.agg #[.int .i64 b.floor,gv,sv]/\(-9223372036854775808<=b.floor/\b.floor<=9223372036854775807)/\iw w gv b.gone/\gw w sv b.ser:=by
 obtain⟨fuel,h⟩:=h;have h:DataW.trod enc Tryz.prog w base sp held fuel 25 cs.toList=some (d,p):=h;obtain⟨hlen,k,hf⟩:=jg Tryz.underlying25 (by kernel_rfl) (by kernel_rfl) h;obtain⟨l⟩:=cs;match l,hlen with
 |[v0,v1,v2],_=>
  obtain⟨y0,g0⟩:=hf 0 _ v0 rfl rfl;obtain⟨y1,g1⟩:=hf 1 _ v1 rfl rfl;obtain⟨y2,g2⟩:=hf 2 _ v2 rfl rfl;obtain⟨F,e0,_,w0⟩:=DataW.trod_int Tryz.underlying2 g0;obtain⟨a1,n1,c1,rfl⟩:=kF Tryz.underlying22 g1;obtain⟨a2,n2,c2,rfl⟩:=kF Tryz.underlying23 g2;obtain⟨R,hR⟩:=xH g1;obtain⟨S,hS⟩:=oF g2;simp only[List.cons.injEq,and_true] at e0;subst e0;exact⟨⟨F,R,S⟩,_,_,rfl,bounds_i64 w0,hR,hS⟩
theorem yP{cs:Array Value}{d:DataW H}{p:List MemPlace}(h:DataW.Trod enc Tryz.prog w base sp held 49 (.agg cs) d p):∃(s:kt) (sv:Value),Value.agg cs=.agg #[sv,.int .i64 s.floor]/\(-9223372036854775808<=s.floor/\s.floor<=9223372036854775807)/\gw w sv s.ser:=by
 obtain⟨fuel,h⟩:=h;have h:DataW.trod enc Tryz.prog w base sp held fuel 49 cs.toList=some (d,p):=h;obtain⟨hlen,k,hf⟩:=jg Tryz.underlying49 (by kernel_rfl) (by kernel_rfl) h;obtain⟨l⟩:=cs;match l,hlen with
 |[v0,v1],_=>
  obtain⟨y0,g0⟩:=hf 0 _ v0 rfl rfl;obtain⟨y1,g1⟩:=hf 1 _ v1 rfl rfl;obtain⟨F,e0,_,w0⟩:=DataW.trod_int Tryz.underlying2 g1;obtain⟨a2,n2,c2,rfl⟩:=kF Tryz.underlying23 g0;obtain⟨S,hS⟩:=oF g0;simp only[List.cons.injEq,and_true] at e0;subst e0;exact⟨⟨S,F⟩,_,rfl,bounds_i64 w0,hS⟩
end
end
section
theorem qG(g:Int)(K:List (List UInt8))(R:List Rc)(s:List UInt8)(K':List (List UInt8))(e:Int)(h:dd g K R=(s,some K',e)):fX g=true/\iP g K R=(some s,K')/\(∀x∈R,dI x g=0)/\e=0:=by
 unfold dd at h;split at h
 ·cases h
 ·rename_i hk;split at h
  ·cases h
  ·rename_i hf;split at h
   ·cases h
   ·rename_i s2 K2 hp;obtain⟨rfl,h2⟩:=Prod.mk.inj h;obtain⟨h3,rfl⟩:=Prod.mk.inj h2;obtain rfl:=az h3;exact⟨by simpa using hk,hp,jQ g R (by simpa using hf),rfl⟩
theorem BJ(g:Nat)(h1:1<=g)(h2:g<=3)(r:List UInt8):cW (eU cv g 0++r) cv=(g,0,r,0):=by
 have hl:(eU cv g 0).length=10:=by
  unfold eU;rw[dA];rfl
 unfold cW;rw[if_neg (by rw[aG,hl];simp[cv])];have ht:(eU cv g 0++r).take (cv.length+6)=eU cv g 0:=List.take_left' hl;have hd:(eU cv g 0++r).drop (cv.length+6)=r:=List.drop_left' hl;rw[ht,hd,show eB (eU cv g 0)=some (cv++[UInt8.ofNat g,UInt8.ofNat 0]) from Ch _];simp only;rcases(show g=1\/g=2\/g=3 by omega) with rfl|rfl|rfl<;>rfl
end
section
open Go.RowKit Go.Maps Go.WideMaps
attribute [local go_sem] am aq
structure wP(w:World)(B:Nat)(S:List (Lb×Nat))(L:List Lb)(kv:Value)(D:DataW Unit):Prop where
 boxA:ag w (B+1) 303 #[.map (some B)]
 boxK:ag w (B+2) 65 #[kv]
 grp:w.ownsGroups Tryz.prog 73 (B+1) 3 .i64 B S.length D
 dict:C7 D S
 row:w.ownsRow B 73 2 kv L.length (L.flatMap eX)
section
variable {w w':World} {B:Nat} {S:List (Lb×Nat)} {L:List Lb} {kv:Value} {D:DataW Unit}
theorem wP.kept{X:Nat->Prop}(h:wP w B S L kv D)(hk:ak w w' X)(h0:¬X B)(h1:¬X (B+1))(h2:¬X (B+2))(h3:∀k,kv.ownBlock=some k->¬X k)(h4:∀g,X g->g<w.heap.size->ng w g≠some (some 3)):wP w' B S L kv D:=
 ⟨h.boxA.keptK hk h1,h.boxK.keptK hk h2,jP h.grp hk h0 h4,h.dict,aw h.row hk h3⟩
theorem wP.below(h:wP w B S L kv D)(hb:Below w.heap.size w w'):wP w' B S L kv D:=h.kept (ak.of_below (S:=fun _=>False) hb) id id id (fun _ _ e=>e) (fun _ e=>e.elim)
theorem wP.lt(h:wP w B S L kv D):B+2<w.heap.size:=h.boxK.lt
theorem wP.ne(h:wP w B S L kv D):kv.ownBlock≠some B/\kv.ownBlock≠some (B+1)/\kv.ownBlock≠some (B+2):=by
 refine⟨fun e=>?_,fun e=>?_,fun e=>?_⟩
 ·have h1:=bg h.row e;rw[(tZ h.grp).2.2] at h1;simp at h1
 ·have h1:=bg h.row e;rw[aP h.boxA] at h1;simp at h1
 ·have h1:=bg h.row e;rw[aP h.boxK] at h1;simp at h1
theorem Fh(L:List Lb)(y:Lb):L.flatMap eX++[.string (bs y.1),.string (bs y.2)]=(L++[y]).flatMap eX:=by
 rw[List.flatMap_append];rfl
theorem E5{w5:World}{o:Obj}{v':Value}{y:Lb}(h:wP w B S L kv D)(hown:w5.ownsRow B 73 2 v' (L.length+1) (L.flatMap eX++[.string (bs y.1),.string (bs y.2)]))(hg:(w.alloc o).grownBy w5 kv.ownBlock):
 ag w5 (B+2) 65 #[kv]/\wP (w5.setCell ⟨B+2,0,none⟩ v') B S (L++[y]) v' D/\ak w (w5.setCell ⟨B+2,0,none⟩ v') (fun k=>k=B+2\/kv.ownBlock=some k):=by
 obtain⟨n0,n1,n2⟩:=h.ne
 have hk1:ak w w5 (fun k=>kv.ownBlock=some k):=((ak.alloc w o _).weaken (fun _ e=>e)).trans (ak.of_grown hg fun k e=>e)
 have hb5:=h.boxK.keptK hk1 n2
 have hset:ak w5 (w5.setCell ⟨B+2,0,none⟩ v') (fun k=>k=B+2):=ak.of_grown (ap w5 (B+2) 0 v') fun k e=>(az e).symm
 have hk2:ak w (w5.setCell ⟨B+2,0,none⟩ v') (fun k=>k=B+2\/kv.ownBlock=some k):=(hk1.weaken fun k e=>.inr e).trans (hset.weaken fun k e=>.inl e)
 have hne:v'.ownBlock≠some (B+2):=fun e=>by
  have h1:=bg hown e;rw[aP hb5] at h1;simp at h1
 refine⟨hb5,⟨h.boxA.keptK hk2 (fun e=>e.elim (by omega) n1),ag.set_ hb5 0 v',jP h.grp hk2 (fun e=>e.elim (by omega) n0) (fun g hg hl e=>?_),h.dict,?_⟩,hk2⟩
 ·rcases hg with rfl|hg
  ·rw[aP h.boxK] at e;simp at e
  ·rw[bg h.row hg] at e;simp at e
 ·rw[<-Fh,aG];exact aw hown hset (fun b e e2=>hne (by rw[e,e2]))
theorem zx(h:wP w B S L kv D)(y:Lb)(hy:kG y)(i:Nat)(hi:i<=100000)(hS:S.length<=10000000):
 ∃va vc st w1,(Instr.mapEntry 303 (.map (some B)) (.agg #[.string (bs y.1),.string (bs y.2)])).run Tryz.prog (w.alloc (.cells #[.int .i64 (i:Int)] 3))=.ok (.tuple #[.slice va (cC S y).length vc,.int .i64 ((st:Nat):Int)]) w1/\
  w1.ownsRow (B+1) 3 1 (.slice va (cC S y).length vc) (cC S y).length ((jO (cC S y)).map (Value.int .i64))/\(cC S y).length<=S.length/\w1.cell? ⟨w.heap.size,0,none⟩=some (.int .i64 (i:Int))/\B+1<=w1.heap.size/\
  ∀(w2:World) (v':Value),w2.ownsRow (B+1) 3 1 v' ((cC S y).length+1) ((jO (cC S y)).map (Value.int .i64)++[.int .i64 (i:Int)])->w1.grownBy w2 (Value.slice va (cC S y).length vc).ownBlock->(v'.ownBlock=(Value.slice va (cC S y).length vc).ownBlock\/v'.ownBlock=some w1.heap.size)->
   ∃w3 D',(Instr.entryStore 303 (.map (some B)) (.int .i64 ((st:Nat):Int)) v').run Tryz.prog w2=.ok () w3/\wP w3 B (S++[(y,i)]) L kv D'/\ak w w3 (fun k=>B<=k):=by
 have hl:=h.lt
 have he:=h.below (ai w (.cells #[.int .i64 (i:Int)] 3))
 have hvl:(cC S y).length<=S.length:=by unfold cC;rw[List.length_map];exact List.length_filter_le _ _
 obtain⟨v,zs,st,w1,hE,hg1,hvb,hat,hoi,hzl,HS⟩:=xU he.grp zQ Tryz.underlying303 (fun u=>Tryz.zeroValue57 u) (by unfold maxLen;omega) (pQ y hy)
 have hzs:=ur hoi (hat.symm.trans (he.dict y hy))
 subst hzs
 obtain⟨va,vc,rfl⟩:=aH hoi.1
 rw[ji] at*
 have k1:ak (w.alloc (.cells #[.int .i64 (i:Int)] 3)) w1 (fun k=>k=B):=ak.of_grown hg1 fun k e=>(az e).symm
 have ho1:=aw hoi.1 k1 (fun b e e2=>hvb (by rw[e,e2]))
 rw[ji] at ho1
 have hc:w1.cell? ⟨w.heap.size,0,none⟩=some (.int .i64 (i:Int)):=k1.cell (by rw[World.cell?_alloc_new];rfl) (by simp only;omega)
 refine⟨va,vc,st,w1,hE,ho1,hvl,hc,by have:=hg1.size;rw[aW] at this;omega,fun w2 v' hown hg2 hloc=>?_⟩
 have hown2:w2.ownsInts (B+1) 3 .i64 v' (jO (cC S y)++[(i:Int)]):=by
  refine⟨?_,fun z hz=>?_⟩
  ·rw[aG,ji,List.map_append];exact hown
  ·rcases List.mem_append.1 hz with hz|hz
   ·exact hoi.2 z hz
   ·rw[List.mem_singleton] at hz;subst hz;have m1:IntKind.i64.min= -9223372036854775808:=by decide
    have m2:IntKind.i64.max=9223372036854775807:=by decide
    simp only[Lit.wf,m1,m2,Bool.and_eq_true,decide_eq_true_eq];omega
 obtain⟨w3,hst,hg3,hgr3⟩:=HS w2 v' _ hg2 hown2 (by rw[aG,ji];simp;omega) (hloc.elim .inl fun e=>.inr ⟨_,e,hg1.size⟩)
 have hD:=tZ he.grp
 have k2:ak w1 w2 (fun k=>(Value.slice va (cC S y).length vc).ownBlock=some k):=ak.of_grown hg2 fun k e=>e
 have k3:ak w2 w3 (fun k=>k=B):=ak.of_grown hgr3 fun k e=>(az e).symm
 have kA:ak (w.alloc (.cells #[.int .i64 (i:Int)] 3)) w3 (fun k=>k=B\/(Value.slice va (cC S y).length vc).ownBlock=some k):=((k1.weaken fun k e=>.inl e).trans (k2.weaken fun k e=>.inr e)).trans (k3.weaken fun k e=>.inl e)
 have n0:=he.ne
 have nv:∀k t,ng (w.alloc (.cells #[.int .i64 (i:Int)] 3)) k=some (some t)->t≠3->(Value.slice va (cC S y).length vc).ownBlock≠some k:=fun k t ht hne e=>by
  rw[bg hoi.1 e] at ht;exact hne (az (az ht)).symm
 refine⟨w3,_,hst,⟨he.boxA.keptK kA (fun e=>e.elim (by omega) (nv _ _ (aP he.boxA) (by decide))),he.boxK.keptK kA (fun e=>e.elim (by omega) (nv _ _ (aP he.boxK) (by decide))),?_,Ig hD.1 he.dict hy i hown2,?_⟩,(ak.alloc w _ _).trans (kA.weaken fun k e=>?_)⟩
 ·rw[aG];exact hg3
 ·exact aw he.row kA (fun b e e2=>by
   rcases e2 with rfl|e2
   ·exact n0.1 e
   ·exact nv _ _ (bg he.row e) (by decide) e2)
 ·rcases e with rfl|e
  ·exact aF _
  ·have:=(hoi.1.lt k e).1;omega
end
theorem cM(n:Int)(w:World):
 Calls Tryz.prog 179 #[.int .i64 n] w fun e w'=>e=.returned (.string (bs (Num.small (aS n))))/\Below w.heap.size w w':=by
 have hw:=dF n
 have hl:=gy n
 have q:=af (fun W=>aT (aS n:Int) W (by omega) (by omega))
 rw[Int.toNat_natCast] at q
 generalize aS n=m at*
 go_enter Tryz.func179,Tryz.ntmps179
 go_wp2_with fail
 refine(q.out _).mono ?_
 rintro e w2 ⟨rfl,hb2⟩
 go_wp2_with fail
 go_ret
 exact⟨rfl,hb2⟩
theorem ry:∀(s t:List UInt8) (k:Nat) (h1:k<s.length) (h2:k<t.length),k<=bP s t->s[k]=t[k]->k+1<=bP s t
 |a::s,b::t,0,_,_,_,e=>by
  unfold bP;rw[if_pos (show a=b from e)];omega
 |a::s,b::t,k+1,h1,h2,h,e=>by
  unfold bP at h⊢;split at h
  ·rename_i hab;rw[if_pos hab];have:=ry s t k (by simpa using h1) (by simpa using h2) (by omega) (by simpa using e);omega
  ·omega
theorem rz:∀(s t:List UInt8) (k:Nat),k<=bP s t->((∀(h1:k<s.length) (h2:k<t.length),s[k]≠t[k]))->bP s t=k
 |[],t,k,h,_=>by unfold bP at h⊢;omega
 |a::s,[],k,h,_=>by unfold bP at h⊢;omega
 |a::s,b::t,0,h,e=>by
  unfold bP;rw[if_neg (show ¬a=b from e (by simp) (by simp))]
 |a::s,b::t,k+1,h,e=>by
  unfold bP at h⊢;split at h
  ·rename_i hab;rw[if_pos hab,rz s t k (by omega) (fun h1 h2=>(show s[k]≠t[k] from e (Nat.succ_lt_succ h1) (Nat.succ_lt_succ h2)))]
  ·omega
theorem Jl(a b:Nat):min (a:Int) (b:Int)=((min a b:Nat):Int):=by omega
theorem CC(s t:List UInt8)(w:World)(hs:s.length<=1099511627776):
 Calls Tryz.prog 180 #[.string (bs s),.string (bs t)] w fun e w'=>e=.returned (.int .i64 (bP s t:Int))/\Below w.heap.size w w':=by
 have hix1:=fun (i:Nat) b (h:s[i]?=some b) k W=>cE (P:=Tryz.prog) 9 Tryz.underlying9 s i b h k W
 have hix2:=fun (i:Nat) b (h:t[i]?=some b) k W=>cE (P:=Tryz.prog) 9 Tryz.underlying9 t i b h k W
 have HI1:=af hix1
 have HI2:=af hix2
 have HCT:=af (ry s t)
 have HCS:=af (rz s t)
 have hz1:=aq s
 have hz2:=aq t
 clear hix1 hix2
 have HCL:=af (pW s t)
 go_enter Tryz.func180,Tryz.ntmps180
 go_wp2_with fail
 go_loopw [5] (fun vn wr=>∃k:Nat,k<=bP s t/\vn=.int .i64 (k:Int)/\Below w.heap.size w wr) (fun vn _=>bP s t-(intOf vn).toNat)
 case atStart=>exact⟨0,Nat.zero_le _,rfl,bR⟩
 obtain⟨k,hk,rfl,hb⟩:=hrel
 have hmin:=Jl s.length t.length
 by_cases hlt:k<s.length/\k<t.length
 ·obtain⟨h1,h2⟩:=hlt;have j1:=HI1.out k s[k] (aV h1);have j2:=HI2.out k t[k] (aV h2);have f1:decide (k<min s.length t.length)=true:=by simp;omega
  have f1':decide ((k:Int)<min (s.length:Int) (t.length:Int))=true:=by simp;omega
  by_cases he:s[k]=t[k]
  ·have HC:=af (HCT.out k h1 h2 hk he);rw[<-he] at j2;have f2:((s[k].toNat:Int)==(s[k].toNat:Int))=true:=by simp
   generalize s[k]=x at*;clear HI1 HI2 HCS HCL he;go_wp2_with fail
   go_quiet (fail)
   go_wp2_with fail
   go_roundw
   case rel=>exact⟨k+1,HC.out,by go_num,below_drewN hb _⟩
   case measure=>simp[intOf];have:=HC.out;omega
  ·have HC:=af (HCS.out k hk fun _ _=>he);have f2:((s[k].toNat:Int)==(t[k].toNat:Int))=false:=by simpa using fun e=>he (UInt8.toNat_inj.1 (by omega))
   generalize s[k]=x at*;generalize t[k]=y at*;clear HI1 HI2 HCS HCL he HCT;go_wp2_with fail
   go_quiet (fail)
   go_wp2_with fail
   go_ret;exact⟨by rw[HC.out];rfl,below_drewN hb _⟩
 ·have HC:=af (HCS.out k hk fun h1 h2=>absurd ⟨h1,h2⟩ hlt);have f1:decide (k<min s.length t.length)=false:=by simp;omega
  have f1':decide ((k:Int)<min (s.length:Int) (t.length:Int))=false:=by simp;omega
  clear HI1 HI2 HCS HCL HCT hlt;go_wp2_with fail
  go_quiet (fail)
  go_wp2_with fail
  go_ret;exact⟨by rw[HC.out];rfl,below_drewN hb _⟩
theorem zS(L:List Lb):(L.flatMap lO).length=L.length*26:=by
 induction L with
 |nil=>rfl
 |cons y L ih=>
  have h:(lO y).length=26:=by
   unfold lO;rw[aG,Num.fixed_len,Num.fixed_len];rfl
  rw[List.flatMap_cons,aG,ih,h,cY];omega
theorem Ia(x:En):(kN x).length=1+x.labels.length*26+24:=by
 unfold kN;rw[aG,aG,aG,cY,zS,Num.wide_len,Num.wide_len,Num.wide_len];omega
theorem wl{α β:Type}(f:α->List β)(L:List α){k:Nat}(h:k<L.length):(L.take (k+1)).flatMap f=(L.take k).flatMap f++f L[k]:=by
 rw[eM h,List.flatMap_append];simp
theorem Kr{n:Nat}(h:n<=6):IntKind.u8.wrap (n:Int)=((UInt8.ofNat n).toNat:Int):=by
 rw[Num.ofNat_toNat _ (by omega)];simp[IntKind.wrap,IntKind.bits,IntKind.signed];omega
theorem ib{x:En}(h:dG x=true):x.labels.length<=6/\∀y∈x.labels,y.1.length<=48/\y.2.length<=48:=Aq (jJ h).1
theorem pU(E:List En)(h:∀x∈E,dG x=true):(E.flatMap kN).length<=E.length*200:=by
 induction E with
 |nil=>exact aF _
 |cons x E ih=>
  rw[List.flatMap_cons,aG,Ia,cY];have h1:=ih fun y hy=>h y (List.mem_cons_of_mem _ hy);have h2:=(ib (h x List.mem_cons_self)).1;omega
theorem Ho(E:List En)(v:Value)(w:World)(h:dR w v E)(hr:∀x∈E,dG x=true)(hE:E.length<=20):
 Calls Tryz.prog 111 #[v] w fun e w'=>e=.returned (.string (bs (EE E)))/\Below w.heap.size w w':=by
 have HR:=af hr
 have hO':=af (show EE E=Num.wide E.length++E.flatMap kN from rfl)
 have hEl:=pU E hr
 obtain⟨a,c,rfl,hnil,hl,hlc,hx⟩:=h
 have HX:=af hx
 clear hx hr
 have qn:=af (fun W=>cG (E.length:Int) W (by omega) (by omega))
 rw[Int.toNat_natCast] at qn
 have hwrap:IntKind.u64.wrap (E.length:Int)=(E.length:Int):=by simp[IntKind.wrap,IntKind.bits,IntKind.signed];omega
 have hwl:=Num.wide_len E.length
 have hO:Hid (EE E=Num.wide E.length++E.flatMap kN):=hO'
 clear hO'
 generalize Num.wide E.length=nb at*
 have B0:=bU.fresh w
 have b0:=ai w (.cells #[.pointer none,.slice none 0 0] 84)
 have qw0:=af (fun W (hW:bU w.heap.size w.heap.size [] W) (hs:w.heap.size<=W.heap.size)=>cS w.heap.size w.heap.size [] nb W hW (by simp;omega) hs)
 go_enter Tryz.func111,Tryz.ntmps111
 go_wp2_with fail
 refine(qn.out _).mono ?_
 rintro e w1 ⟨rfl,hb1⟩
 have B1:=B0.below hb1
 have bb1:=ay b0 hb1
 clear B0 b0 hb1 qn
 go_wp2_with fail
 refine(qw0.out _ B1 bb1.size).mono ?_
 rintro e w2 ⟨rfl,B2,k2⟩
 have bb2:=bb1.trans k2.1
 have hpos:w.heap.size<w2.heap.size:=dQ (B1.elim (fun h=>mS h.2.choose_spec.1) (fun h=>mS h.2.choose_spec.1)) k2.1.size
 have B2':bU w.heap.size w.heap.size (nb++(E.take 0).flatMap kN) w2:=by rw[List.take_zero];simpa using B2
 clear qw0 B1 bb1 B2 k2
 go_wp2_with fail
 go_loopw [15] (fun vi wr=>∃i:Nat,i<=E.length/\vi=.int .i64 (i:Int)/\bU w.heap.size w.heap.size (nb++(E.take i).flatMap kN) wr/\Below w.heap.size w wr/\w.heap.size<wr.heap.size) (fun vi _=>E.length-(intOf vi).toNat)
 case atStart=>exact⟨0,Nat.zero_le _,rfl,B2',bb2,hpos⟩
 clear B2' bb2 hpos
 obtain⟨i,hi,rfl,hB,hb,hpos⟩:=hrel
 rcases(show i<E.length\/i=E.length by omega) with hil|rfl
 ·obtain⟨hok,b,o,rfl,a',c',d0,hL,d1,d2,d3⟩:=HX.out i E[i] (aV hil);have e0:=cu hb d0;have e1:=cu hb d1;have e2:=cu hb d2;have e3:=cu hb d3;have HT:=af (wl kN E hil);have hrx:=HR.out _ (dK hil);obtain⟨hl6,hl48⟩:=ib hrx;have hnums:=(jJ hrx).2;have hpl:((E.take i).flatMap kN).length<=4000:=by
   have:=pU (E.take i) fun x hx=>HR.out x (List.mem_of_mem_take hx);rw[dp] at this;omega
  have he1:kN E[i]=(UInt8.ofNat E[i].labels.length::E[i].labels.flatMap lO)++((Num.wide (aS E[i].last)++Num.wide (aS E[i].off))++Num.wide (aS E[i].len)):=rfl;rw[he1] at HT;clear he1 d0 d1 d2 d3 hrx hok;generalize E[i]=x at*;generalize hP:(E.take i).flatMap kN=P at*;clear hP;obtain⟨L,la,of,le⟩:=x;simp only at e0 e1 e2 e3 hL HT hl6 hl48 hnums;have hb8:=Kr hl6;have B1:=hB.below (ai wr (.cells #[.slice a' L.length c',.int .i64 la,.int .i64 of,.int .i64 le] 92));have k1:=ag.new wr 92 #[.slice a' L.length c',.int .i64 la,.int .i64 of,.int .i64 le];have bA:=hb.alloc hb.size (.cells #[.slice a' L.length c',.int .i64 la,.int .i64 of,.int .i64 le] 92);have qb:=af (fun W (hW:bU w.heap.size w.heap.size (nb++P) W) (hs:w.heap.size<=W.heap.size)=>yG w.heap.size w.heap.size (nb++P) (UInt8.ofNat L.length) ((UInt8.ofNat L.length).toNat:Int) rfl W hW (by rw[aG];omega) hs);obtain⟨⟨c0,c1,c2,c3⟩,_⟩:=dt k1;go_wp2_with fail
  refine(qb.out _ B1 bA.size).mono ?_;rintro e w3 ⟨rfl,B3,kp3⟩;have hG:wr.heap.size≠w.heap.size:=by omega
  have k3:=kp3.blk k1 hG (by decide);have b3:=bA.trans kp3.1;have hp3:wr.heap.size<w3.heap.size:=dQ (oS wr _) kp3.1.size;have B3':bU w.heap.size w.heap.size ((nb++P)++(UInt8.ofNat L.length::(L.take 0).flatMap lO)) w3:=B3;generalize wr.heap.size=G at*;obtain⟨⟨c0,c1,c2,c3⟩,_⟩:=dt k3;clear qb B1 B3 kp3 k1 bA e0 e1 e2 e3 hB hb;go_wp2_with fail
  go_loopw [27] (fun vk wq=>∃k:Nat,k<=L.length/\vk=.int .i64 (k:Int)/\bU w.heap.size w.heap.size ((nb++P)++(UInt8.ofNat L.length::(L.take k).flatMap lO)) wq/\Below w.heap.size w wq/\ag wq G 92 #[.slice a' L.length c',.int .i64 la,.int .i64 of,.int .i64 le]/\w.heap.size<wq.heap.size) (fun vk _=>L.length-(intOf vk).toNat)
  case atStart=>exact⟨0,Nat.zero_le _,rfl,B3',b3,k3,by omega⟩
  clear B3' b3 k3 c0 c1 c2 c3 hp3;obtain⟨k,hk,rfl,hB,hb,hX,hpos2⟩:=hrel;have hll:=zS (L.take k);rw[dp] at hll;rcases(show k<L.length\/k=L.length by omega) with hkl|rfl
  ·obtain⟨_,_,eL,_,hLx⟩:=id hL;obtain⟨rfl,_,rfl⟩:=Value.slice.inj eL;obtain⟨_,_,b3,o3,rfl,g0,g1⟩:=hLx k L[k] (aV hkl);have x0:=cu hb g0;have x1:=cu hb g1;have HTK:=af (wl lO L hkl);obtain⟨y48,z48⟩:=hl48 _ (dK hkl);have hy2:lO L[k]=Num.fixed L[k].1 12++Num.fixed L[k].2 12:=rfl;rw[hy2] at HTK;clear g0 g1 hLx eL hL hl48 hy2;generalize L[k]=y at*;have q1:=af (fun W=>iJ y.1 12 W (by omega) (by omega) (by omega));have q2:=af (fun W=>iJ y.2 12 W (by omega) (by omega) (by omega));have t1:(Num.fixed y.1 12).length=13:=Num.fixed_len _ _;have t2:(Num.fixed y.2 12).length=13:=Num.fixed_len _ _;generalize Num.fixed y.1 12=y1 at*;generalize Num.fixed y.2 12=y2 at*;have hadd:∀W,(Op.stringOp .add (bs y1) (bs y2)).run Tryz.prog W=.ok (.string (bs (y1++y2))) W:=fun W=>aJ (P:=Tryz.prog) y1 y2 (by omega) W;have bB:=ai wr (.cells #[.string (bs y.1),.string (bs y.2)] 73);have kB:=ag.new wr 73 #[.string (bs y.1),.string (bs y.2)];have m0:(wr.alloc (.cells #[.string (bs y.1),.string (bs y.2)] 73)).cell? ⟨wr.heap.size,0,none⟩=some (.string (bs y.1)):=(ag.cell kB 0).trans rfl;have m1:(wr.alloc (.cells #[.string (bs y.1),.string (bs y.2)] 73)).cell? ⟨wr.heap.size,1,none⟩=some (.string (bs y.2)):=(ag.cell kB 1).trans rfl;have g0:=aj m0;have g1:=aj m1;have HB2:=af (hB.below bB);have HX2:=af (ag.alloc hX (.cells #[.string (bs y.1),.string (bs y.2)] 73));have Hb2:=af (ay hb bB);generalize hA:(nb++P)++(UInt8.ofNat L.length::(L.take k).flatMap lO)=A at*;have hAl:A.length<=100000:=by
    rw[<-hA];simp only[aG,cY];omega
   have HA:=af (show (nb++P)++(UInt8.ofNat L.length::(L.take (k+1)).flatMap lO)=A++(y1++y2) by rw[HTK.out,<-hA];simp[List.append_assoc]);have qw:=af (fun W (hW:bU w.heap.size w.heap.size A W) (hs:w.heap.size<=W.heap.size)=>cS w.heap.size w.heap.size A (y1++y2) W hW (by rw[aG];omega) hs);clear kB m0 m1 hB hA HTK;go_wp2_with fail
   refine l6 ?_;iterate 2 (refine bJ fun K hK=>?_;go_big_quiet_step (fail);refine hK _ ?_;clear hK K)
   (refine fS (f:=177) (args:=#[.string (bs y.1),.int .i64 12]) (v:=.string (bs y1)) (fun W hW=>q1.out W) fun K hK=>?_;go_big_quiet_step (fail);refine hK _ ?_;clear hK K);iterate 2 (refine bJ fun K hK=>?_;go_big_quiet_step (fail);refine hK _ ?_;clear hK K)
   (refine fS (f:=177) (args:=#[.string (bs y.2),.int .i64 12]) (v:=.string (bs y2)) (fun W hW=>q2.out W) fun K hK=>?_;go_big_quiet_step (fail);refine hK _ ?_;clear hK K)
   (refine bJ fun K hK=>?_;go_big_quiet_step (fail);refine hK _ ?_;clear hK K);refine eR ?_;intro w5 hb5;simp only[aB];have b5:=Hb2.out.trans (Below.mono hb5 Hb2.out.size);have B5:=HB2.out.below hb5;have X5:=ag.below HX2.out hb5 HX2.out.lt;clear g0 g1 HB2 HX2 Hb2 bB hX;go_wp2_with fail
   refine(qw.out _ B5 b5.size).mono ?_;rintro e w6 ⟨rfl,B6,k6⟩;go_wp2_with fail
   go_roundw
   case rel=>exact⟨k+1,by omega,by go_num,by rw[HA.out];exact B6,b5.trans k6.1,k6.blk X5 (by omega) (by decide),dQ (dQ hpos2 (aK (Nat.le_of_lt (oS _ _)) hb5.size)) k6.1.size⟩
   case measure=>simp[intOf];omega
  ·rw[List.take_length] at hB hll;obtain⟨⟨m0,m1,m2,m3⟩,_⟩:=dt hX;have g1:=aj m1;have g2:=aj m2;have g3:=aj m3;have q1:=af (fun W=>cG (aS la:Int) W (by omega) (by have:=gy la;omega));have q2:=af (fun W=>cG (aS of:Int) W (by omega) (by have:=gy of;omega));have q3:=af (fun W=>cG (aS le:Int) W (by omega) (by have:=gy le;omega));rw[Int.toNat_natCast] at q1 q2 q3;have f1:=dF la;have f2:=dF of;have f3:=dF le;have t1:=Num.wide_len (aS la);have t2:=Num.wide_len (aS of);have t3:=Num.wide_len (aS le);generalize Num.wide (aS la)=y1 at*;generalize Num.wide (aS of)=y2 at*;generalize Num.wide (aS le)=y3 at*;generalize aS la=n1 at*;generalize aS of=n2 at*;generalize aS le=n3 at*;have hadd1:∀W,(Op.stringOp .add (bs y1) (bs y2)).run Tryz.prog W=.ok (.string (bs (y1++y2))) W:=fun W=>aJ (P:=Tryz.prog) y1 y2 (by omega) W;have hadd2:∀W,(Op.stringOp .add (bs (y1++y2)) (bs y3)).run Tryz.prog W=.ok (.string (bs (y1++y2++y3))) W:=fun W=>aJ (P:=Tryz.prog) (y1++y2) y3 (by rw[aG];omega) W;have HB2:=af hB;have Hb2:=af hb;generalize hA:(nb++P)++(UInt8.ofNat L.length::L.flatMap lO)=A at*;have hAl:A.length<=100000:=by
    rw[<-hA];simp only[aG,cY];omega
   have HA:=af (show nb++(E.take (i+1)).flatMap kN=A++(y1++y2++y3) by rw[HT.out,<-hA];simp[List.append_assoc]);have qw:=af (fun W (hW:bU w.heap.size w.heap.size A W) (hs:w.heap.size<=W.heap.size)=>cS w.heap.size w.heap.size A (y1++y2++y3) W hW (by rw[aG,aG];omega) hs);clear m0 m1 m2 m3 hX hB hA HT hL hl48 hll;generalize y1++y2++y3=z3 at*;generalize y1++y2=z2 at*;go_wp2_with fail
   refine l6 ?_;iterate 3 (refine bJ fun K hK=>?_;go_big_quiet_step (fail);refine hK _ ?_;clear hK K)
   (refine fS (f:=33) (args:=#[.int .u64 (n1:Int)]) (v:=.string (bs y1)) (fun W hW=>q1.out W) fun K hK=>?_;go_big_quiet_step (fail);refine hK _ ?_;clear hK K);iterate 3 (refine bJ fun K hK=>?_;go_big_quiet_step (fail);refine hK _ ?_;clear hK K)
   (refine fS (f:=33) (args:=#[.int .u64 (n2:Int)]) (v:=.string (bs y2)) (fun W hW=>q2.out W) fun K hK=>?_;go_big_quiet_step (fail);refine hK _ ?_;clear hK K);iterate 4 (refine bJ fun K hK=>?_;go_big_quiet_step (fail);refine hK _ ?_;clear hK K)
   (refine fS (f:=33) (args:=#[.int .u64 (n3:Int)]) (v:=.string (bs y3)) (fun W hW=>q3.out W) fun K hK=>?_;go_big_quiet_step (fail);refine hK _ ?_;clear hK K)
   (refine bJ fun K hK=>?_;go_big_quiet_step (fail);refine hK _ ?_;clear hK K);refine eR ?_;intro w5 hb5;simp only[aB];have b5:=Hb2.out.trans (Below.mono hb5 Hb2.out.size);have B5:=HB2.out.below hb5;clear g1 g2 g3 HB2 Hb2;go_wp2_with fail
   refine(qw.out _ B5 b5.size).mono ?_;rintro e w6 ⟨rfl,B6,k6⟩;go_wp2_with fail
   go_roundw
   case rel=>exact⟨i+1,by omega,by go_num,by rw[HA.out];exact B6,b5.trans k6.1,dQ hpos2 (aK hb5.size k6.1.size)⟩
   case measure=>simp[intOf];omega
 ·rw[List.take_length] at hB;rw[<-hO.out] at hB;have Q:=af (ft _ _ _ _ hB hb.size);go_wp2_with fail
  refine Q.out.mono ?_;rintro e w3 ⟨rfl,hB3,hb3⟩;go_wp2_with fail
  go_ret;exact⟨rfl,hb.trans hb3⟩
theorem GH(E:List En){i:Nat}(h:i<E.length)(k:Nat)(hk:k<E[i].labels.length):rT E i++(E[i].labels.take (k+1)).map (fun z=>(z,i))=(rT E i++(E[i].labels.take k).map fun z=>(z,i))++[(E[i].labels[k],i)]:=by
 rw[eM hk,List.map_append,<-List.append_assoc];rfl
theorem Cx(S:List (Lb×Nat))(y:Lb)(i:Nat):eG ((S++[(y,i)]).map fun p=>p.1)=if y∈eG (S.map fun p=>p.1) then eG (S.map fun p=>p.1) else eG (S.map fun p=>p.1)++[y]:=by
 rw[List.map_append,List.map_cons,List.map_nil,Fs]
theorem H6(L:List Lb):∀a:List Lb,(L.foldl (fun a y=>if y∈a then a else a++[y]) a).length<=a.length+L.length:=by
 induction L with
 |nil=>exact fun a=>aF _
 |cons x L ih=>
  intro a;rw[List.foldl_cons];refine aK (ih _) ?_;split
  ·simp
  ·simp;omega
theorem uq(L:List Lb):(eG L).length<=L.length:=by
 have:=H6 L [];simpa[eG] using this
theorem sX(L:List Lb):(jW L).length=L.length:=List.length_mergeSort _
theorem zD{w:World}{g:Nat}{u:Value}(h:w.cell? ⟨g,0,none⟩=some u):∀j u',[u][j]?=some u'->w.cell? ((⟨g,0,none⟩:Addr).add j)=some u':=fun j u' hu=>by
 match j,hu with
 |0,hu=>
  obtain rfl:=az hu;rw[kj];exact h
 |j+1,hu=>simp at hu
theorem vj(E:List En)(v:Value)(w:World)(h:dR w v E)(hS:(cJ E).length<=1000000):
 Calls Tryz.prog 182 #[v] w fun e w'=>∃kv D,e=.returned (.func (.func 233) #[] #[.pointer (some ⟨w.heap.size+2,0,none⟩),.pointer (some ⟨w.heap.size+1,0,none⟩)])/\wP w' w.heap.size (cJ E) (ic E) kv D/\Below w.heap.size w w':=by
 have hmm:=@run_makeMap Tryz.prog
 have HPP:=af (fun i (hi:i<E.length) k=>aK (Jr E hi k) hS)
 obtain⟨a,c,rfl,hnil,hl,hlc,hx⟩:=h
 have HX:=af hx
 clear hx
 have ⟨i0,hin,hz0,hz1,hz2⟩:=info_parts (show (Tryz.prog.info? 3).map (fun i=>(i.zero,i.size,i.bytes))=some (some (.int .i64 0),1,8) by kernel_rfl)
 have ⟨j0,hjn,jz0,jz1,jz2⟩:=info_parts (show (Tryz.prog.info? 73).map (fun i=>(i.zero,i.size,i.bytes))=some (some (.agg #[.string ⟨#[]⟩,.string ⟨#[]⟩]),2,32) by kernel_rfl)
 have p0:wP (((w.alloc (.map #[] 0)).alloc (.cells #[.map (some w.heap.size)] 303)).alloc (.cells #[.slice none 0 0] 65)) w.heap.size (rT E 0) (eG ((rT E 0).map fun p=>p.1)) (.slice none 0 0) (.map []):=by
  have g0:=World.ownsGroups_made (H:=Unit) w Tryz.prog 73 3 .i64;have bA:=ag.new (w.alloc (.map #[] 0)) 303 #[.map (some w.heap.size)];rw[aW] at bA;have bK:=ag.new ((w.alloc (.map #[] 0)).alloc (.cells #[.map (some w.heap.size)] 303)) 65 #[.slice none 0 0];rw[aW,aW] at bK;refine⟨ag.alloc bA _,bK,jP g0 ((ak.alloc _ _ (fun _=>False)).trans (ak.alloc _ _ _)) id (fun g hg=>hg.elim),fun y _=>?_,eE⟩;rw[show cC (rT E 0) y=[] from rfl];simp[DataW.atKey,pj]
 have b0:Below w.heap.size w (((w.alloc (.map #[] 0)).alloc (.cells #[.map (some w.heap.size)] 303)).alloc (.cells #[.slice none 0 0] 65)):=(((Below.refl _ w).alloc (aF _) _).alloc (by simp) _).alloc (by simp;omega) _
 go_enter Tryz.func182,Tryz.ntmps182
 go_wp2_with fail
 go_loopw [12] (fun vi wr=>∃(i:Nat) (kv:Value) (D:DataW Unit),i<=E.length/\vi=.int .i64 (i:Int)/\wP wr w.heap.size (rT E i) (eG ((rT E i).map fun p=>p.1)) kv D/\Below w.heap.size w wr) (fun vi _=>E.length-(intOf vi).toNat)
 case atStart=>exact⟨0,_,_,Nat.zero_le _,rfl,p0,b0⟩
 clear p0 b0
 obtain⟨i,kv,D,hi',rfl,hp,hb⟩:=hrel
 rcases(show i<E.length\/i=E.length by omega) with hil|rfl
 ·obtain⟨hok,b,o,rfl,a',c',d0,hL,d1,d2,d3⟩:=HX.out i E[i] (aV hil);have e0:=cu hb d0;have e1:=cu hb d1;have e2:=cu hb d2;have e3:=cu hb d3;have HPI:=af (fun k=>HPP.out i hil k);have HPA:=af (fun k (hk:k<E[i].labels.length)=>GH E hil k hk);have HPS:=af (oJ E hil);clear d0 d1 d2 d3 hok;generalize E[i]=x at*;obtain⟨L,la,of,le⟩:=x;simp only at e0 e1 e2 e3 hL HPI HPA HPS;obtain⟨_,_,eL,hLn,hLx⟩:=hL;obtain⟨rfl,_,rfl⟩:=Value.slice.inj eL;have HLX:=af hLx;clear hLx eL;have bX:=ai wr (.cells #[.slice a' L.length c',.int .i64 la,.int .i64 of,.int .i64 le] 92);have p1:wP (wr.alloc (.cells #[.slice a' L.length c',.int .i64 la,.int .i64 of,.int .i64 le] 92)) w.heap.size (rT E i++(L.take 0).map fun z=>(z,i)) (eG ((rT E i++(L.take 0).map fun z=>(z,i)).map fun p=>p.1)) kv D:=by
   rw[List.take_zero,List.map_nil,List.append_nil];exact hp.below bX
  have B1:=ay hb bX;clear bX hp;go_wp2_with fail
  go_loopw [20] (fun vk wq=>∃(k:Nat) (kv:Value) (D:DataW Unit),k<=L.length/\vk=.int .i64 (k:Int)/\wP wq w.heap.size (rT E i++(L.take k).map fun z=>(z,i)) (eG ((rT E i++(L.take k).map fun z=>(z,i)).map fun p=>p.1)) kv D/\Below w.heap.size w wq) (fun vk _=>L.length-(intOf vk).toNat)
  case atStart=>exact⟨0,_,_,Nat.zero_le _,rfl,p1,B1⟩
  clear p1 B1 hb e0 e1 e2 e3;obtain⟨k,kv,D,hk,rfl,hp,hb⟩:=hrel;rcases(show k<L.length\/k=L.length by omega) with hkl|rfl
  ·obtain⟨hy1,hy2,b3,o3,rfl,g0,g1⟩:=HLX.out k L[k] (aV hkl);have x0:=cu hb g0;have x1:=cu hb g1;have HSA:=af (HPA.out k hkl);have hSl:=HPI.out k;clear g0 g1;generalize L[k]=y at*;generalize hSS:rT E i++(L.take k).map (fun z=>(z,i))=S at*;generalize hS2:rT E i++(L.take (k+1)).map (fun z=>(z,i))=S2 at*;have HS2:=af hS2;clear hSS hS2;have HD:=af (Cx S y i);have HVN:=af (F3 S y);have hdl:(eG (S.map fun p=>p.1)).length<=S.length:=by have:=uq (S.map fun p=>p.1);rwa[List.length_map] at this
   generalize hK:eG (S.map fun p=>p.1)=K at*;clear hK;have bY:=ai wr (.cells #[.string (bs y.1),.string (bs y.2)] 73);have pa:=hp.below bY;have kY:=ag.new wr 73 #[.string (bs y.1),.string (bs y.2)];have BY:=ay hb bY;have yok:kG y:=⟨hy1,hy2⟩
   obtain⟨v1,zs,hlook,hat,hoi,hzl,_⟩:=pa.grp.at (Keyed.of_law zQ) Tryz.underlying303 (Tryz.zeroValue57 _) (by unfold maxLen;omega) (pQ y yok);have hzs:=ur hoi (hat.symm.trans (pa.dict y yok));subst hzs;obtain⟨va,vc,rfl⟩:=aH hoi.1;rw[ji] at hlook;have hpl:=hp.lt;have cA:=ax pa.boxA 0 (.map (some w.heap.size)) rfl;have cK:=ax pa.boxK 0 kv rfl;have y0:=ax kY 0 (.string (bs y.1)) rfl;have y1:=ax kY 1 (.string (bs y.2)) rfl;obtain⟨ka,kc,rfl⟩:=aH pa.row;by_cases hv0:cC S y=[]
   ·have hnew:y∉K:=HVN.out.1 hv0;have HK2:=af (show eG (S2.map fun p=>p.1)=K++[y] by rw[HSA.out,HD.out,if_neg hnew]);rw[hv0] at hlook;rw[show ([]:List Nat).length=0 from rfl] at hlook;clear hv0 hat hoi hzl HVN;go_wp2_with (first|(at_builtin;refine wpList_append_own_at _ rfl _ _ 65 rfl w.heap.size 73 j0 (.agg #[.string ⟨#[]⟩,.string ⟨#[]⟩]) 2 32 Tryz.underlying65 hjn jz0 jz1 jz2 rfl (by decide) _ _ _ rfl (World.ownsRow.alloc pa.row _) ⟨_,0,none⟩ 1 1 [.string (bs y.1),.string (bs y.2)] rfl rfl (iD _ _ _ _ (aW _ _)) (by simp[Value.oneCell']) (by unfold maxLen;omega) (by omega) (by simp;omega) ?_;intro v' w5 hown' hgrow hnil2 hloc;obtain⟨sa',sc',rfl⟩:=aH hown';obtain⟨hbK5,p5,kp5⟩:=E5 (y:=y) pa hown' hgrow;have k0:=ax hbK5 0 (.slice ka K.length kc) rfl;have f0:=ag.frozen hbK5 0;have kY5:=kY.keptK kp5 (fun e=>e.elim (by omega) (fun e=>by have:=(hp.row.lt _ e).2;omega));have z0:=ax kY5 0 (.string (bs y.1)) rfl;have z1:=ax kY5 1 (.string (bs y.2)) rfl;have cA5:=ax p5.boxA 0 (.map (some w.heap.size)) rfl;obtain⟨va2,vc2,st,w6,hE,ho6,hvl6,hc6,hs6,hS6⟩:=zx p5 y yok i (by omega) (by omega);have HS6:=af hS6;have KP5:=af kp5;rw[World.size_setCell] at hc6;clear hS6 kp5 hbK5 kY5 hown' hgrow hnil2 hloc)|(at_builtin;refine wpList_append_own_at _ rfl _ _ 57 rfl (w.heap.size+1) 3 i0 (.int .i64 0) 1 8 Tryz.underlying57 hin hz0 hz1 hz2 rfl (by decide) _ _ _ rfl ho6 ⟨_,0,none⟩ 1 1 [.int .i64 (i:Int)] rfl rfl (zD hc6) (by simp[Value.oneCell']) (by unfold maxLen;omega) (by omega) hs6 ?_;intro v2' w7 hown7 hgrow7 hnil7 hloc7;obtain⟨w8,D8,hst,p8,k8⟩:=HS6.out w7 v2' hown7 hgrow7 hloc7))
    go_roundw
    case rel=>
     have kk:ak wr w8 (fun k=>w.heap.size<=k):=((ak.alloc wr _ _).trans (KP5.out.weaken fun k e=>e.elim (fun e=>by omega) (fun e=>(hp.row.lt _ e).1))).trans k8;exact⟨k+1,_,D8,by omega,by go_num,by rw[HS2.out,HK2.out,HSA.out];exact p8,hb.trans (kk.below hb.size fun k e=>e)⟩
    case measure=>simp[intOf];omega
   ·have hold:y∈K:=by
     by_cases hm:y∈K
     ·exact hm
     ·exact absurd (HVN.out.2 hm) hv0
    have HK2:=af (show eG (S2.map fun p=>p.1)=K by rw[HSA.out,HD.out,if_pos hold]);have hpos:(cC S y).length≠0:=fun e=>hv0 (List.length_eq_zero_iff.1 e);have f1:(((cC S y).length:Int)==0)=false:=by simpa using hv0
    have f2:((cC S y).length==0)=false:=by simpa using hv0
    obtain⟨va2,vc2,st,w6,hE,ho6,hvl6,hc6,hs6,hS6⟩:=zx pa y yok i (by omega) (by omega);have HS6:=af hS6;rw[aW] at hc6;clear hv0 hat hoi hzl HVN hold hS6;generalize (cC S y).length=vn at*;go_wp2_with (at_builtin;refine wpList_append_own_at _ rfl _ _ 57 rfl (w.heap.size+1) 3 i0 (.int .i64 0) 1 8 Tryz.underlying57 hin hz0 hz1 hz2 rfl (by decide) _ _ _ rfl ho6 ⟨_,0,none⟩ 1 1 [.int .i64 (i:Int)] rfl rfl (zD hc6) (by simp[Value.oneCell']) (by unfold maxLen;omega) (by omega) hs6 ?_;intro v2' w7 hown7 hgrow7 hnil7 hloc7;obtain⟨w8,D8,hst,p8,k8⟩:=HS6.out w7 v2' hown7 hgrow7 hloc7)
    go_roundw
    case rel=>
     have kk:ak wr w8 (fun k=>w.heap.size<=k):=(ak.alloc wr _ _).trans k8;exact⟨k+1,_,D8,by omega,by go_num,by rw[HS2.out,HK2.out,HSA.out];exact p8,hb.trans (kk.below hb.size fun k e=>e)⟩
    case measure=>simp[intOf];omega
  ·rw[List.take_length] at hp;go_wp2_with fail
   go_roundw
   case rel=>exact⟨i+1,_,D,by omega,by go_num,by rw[HPS.out];exact hp,hb⟩
   case measure=>simp[intOf];omega
 ·rw[<-tF] at hp;have hdl:=uq ((cJ E).map fun p=>p.1);rw[List.length_map] at hdl;have HKE:=af (show ic E=jW (eG ((cJ E).map fun p=>p.1)) from rfl);generalize eG ((cJ E).map fun p=>p.1)=K at*;have hpl:=hp.lt;have cK:=ax hp.boxK 0 kv rfl;obtain⟨ka,kc,rfl⟩:=aH hp.row;by_cases hK0:K.length=0
  ·have q:=af (fun W=>Tryz.slices_SortFunc_none (α:=Lb) ka kc (.func (.func 230) #[] #[]) W);obtain rfl:=List.length_eq_zero_iff.1 hK0;rw[show ([]:List Lb).length=0 from rfl] at cK;have HP:=af hp;clear hp hK0;go_wp2_with fail
   refine(q.out _).mono ?_;rintro e w2 ⟨rfl,rfl⟩;go_wp2_with fail
   go_ret;exact⟨_,D,rfl,by rw[HKE.out,show jW []=[] by unfold jW;simp];exact HP.out,hb⟩
  ·obtain⟨g,rfl⟩:∃g,ka=some ⟨g,0,none⟩:=by
    rcases hp.row.2 with⟨_,e⟩|⟨g,cap,cur,e,_⟩
    ·exact absurd e hK0
    ·exact⟨g,(Value.slice.inj e).1⟩
   have q:=af (CZ K w.heap.size g K.length kc wr hp.row rfl (by omega));have HP:=af hp;have HN:=af hp.ne;clear hp;go_wp2_with fail
   refine q.out.mono ?_;rintro e w2 ⟨rfl,hr2,hk2⟩;have HR2:=af hr2;have HK2:=af hk2;clear hr2 hk2 q cK;go_wp2_with fail
   go_ret;have hgb:w.heap.size<=g:=(HP.out.row.lt g rfl).1;have hne:=HN.out;have n0:g≠w.heap.size:=fun e=>hne.1 (by rw[<-e];rfl);have n1:g≠w.heap.size+1:=fun e=>hne.2.1 (by rw[<-e];rfl);have n2:g≠w.heap.size+2:=fun e=>hne.2.2 (by rw[<-e];rfl);refine⟨_,D,rfl,⟨HP.out.boxA.keptK HK2.out (by omega),HP.out.boxK.keptK HK2.out (by omega),jP HP.out.grp HK2.out (by omega) (fun k e hl et=>?_),HP.out.dict,?_⟩,hb.trans (HK2.out.below hb.size fun k e=>by omega)⟩
   ·subst e;rw[bg HP.out.row rfl] at et;simp at et
   ·rw[HKE.out,sX];exact HR2.out
end
section
open Go.RowKit Go.Maps Go.WideMaps
attribute [local go_sem] am aq
end
section
open Go.RowKit Go.Maps Go.WideMaps
attribute [local go_sem] am aq
theorem Dj(g:Int):∀(sy:List (List UInt8)) (last:List UInt8),(∀s∈sy,s.length<=48)->(kD g last sy).length<=sy.length*80
 |[],_,_=>aF _
 |s::sy,last,h=>by
  have h1:=Dj g sy s fun x hx=>h x (List.mem_cons_of_mem _ hx);have h2:=h s List.mem_cons_self;have h3:=(Num.small_len (bP last s)).2;have h4:=(Num.small_len (s.drop (bP last s)).length).2;have h5:=(Num.small_len s.length).2;rw[kD,aG,cY];split
  ·rw[aG,Num.text_len,List.length_drop] at*;omega
  ·rw[Num.text_len];omega
theorem Hl(sy:List (List UInt8))(L:List Lb):(L.flatMap (kL sy)).length<=L.length*20:=by
 induction L with
 |nil=>exact aF _
 |cons y L ih=>
  have h1:=(Num.small_len (cz sy y.1)).2;have h2:=(Num.small_len (cz sy y.2)).2;rw[List.flatMap_cons,aG,cY];unfold kL at*;rw[aG];omega
theorem Ec(g:Int)(a x:En):(iA g a x).length<=30:=by
 unfold iA;split
 ·have h1:=(Num.small_len (Num.zigI (x.last-a.last)).toNat).2;have h2:=(Num.small_len (Num.zigI (x.off-a.off-a.len)).toNat).2;have h3:=(Num.small_len (aS x.len)).2;rw[aG,aG];omega
 ·have h1:=(Num.small_len (aS x.last)).2;have h2:=(Num.small_len (aS x.off)).2;have h3:=(Num.small_len (aS x.len)).2;rw[aG,aG];omega
theorem wu(g:Int)(sy:List (List UInt8)):∀(l:List En) (a:En),(∀x∈l,x.labels.length<=6)->(df g sy a l).length<=l.length*200
 |[],_,_=>aF _
 |x::l,a,h=>by
  have h1:=wu g sy l x fun y hy=>h y (List.mem_cons_of_mem _ hy);have h2:=h x List.mem_cons_self;have h3:=Hl sy x.labels;have h4:=Ec g a x;have h5:=(Num.small_len x.labels.length).2;rw[df,aG,cY];unfold wv;rw[aG,aG];omega
theorem tX(g:Int)(E:List En)(hr:∀x∈E,dG x=true)(hE:E.length<=20):(nx E g).length<=100000:=by
 have h6:∀x∈E,x.labels.length<=6:=fun x hx=>(ib (hr x hx)).1;have h1:=xd h6 hE;have h2:=Dj g (gp E) [] fun s hs=>mb hr s ((jp E s).1 hs);have h3:=wu g (gp E) E aR h6;have h4:=(Num.small_len (gp E).length).2;have h5:=(Num.small_len E.length).2;unfold nx;rw[aG,aG,aG];omega
theorem mE{B b:Nat}{l:List UInt8}{w w':World}{S:Nat->Prop}(h:bU B b l w)(hk:ak w w' S)(hb:¬S b)(ht:∀g,S g->ng w g≠some (some 5)):bU B b l w':=by
 have key:∀{p:Value},Lib.BuilderAtF 84 5 B b p (Lib.byteCells l) w->Lib.BuilderAtF 84 5 B b p (Lib.byteCells l) w':=fun {p} h=>by
  obtain⟨h1,v,h2,h3,h4⟩:=h;refine⟨h1,v,(hk.block b (mS h2) hb).trans h2,⟨h3.1,?_⟩,h4⟩;rcases h3.2 with h|⟨g,cap,cur,fz,e1,e2,e3,e4⟩
  ·exact .inl h
  ·refine .inr ⟨g,cap,cur,fz,e1,e2,(hk.block g (mS e3) (fun hs=>ht g hs ?_)).trans e3,e4⟩;unfold ng;rw[e3];rfl
 exact h.elim (fun h=>.inl (key h)) (fun h=>.inr (key h))
structure mY(w:World)(B m:Nat)(A:List UInt8)(SY:List (List UInt8))(sv:Value)(D:DataW Unit)(n:Nat):Prop where
 bld:bU B B A w
 row:w.ownsRow (B+1) 9 1 sv SY.length (rR SY)
 map:w.ownsMap Tryz.prog 9 ju m n D
 lo:B<m/\B<w.heap.size
section
variable {w w':World} {B m n:Nat} {A:List UInt8} {SY:List (List UInt8)} {sv:Value} {D:DataW Unit}
theorem mY.below(h:mY w B m A SY sv D n)(hb:Below w.heap.size w w'):mY w' B m A SY sv D n:=
 ⟨h.bld.below hb,aw h.row (ak.of_below (S:=fun _=>False) hb) (fun _ _ e=>e),eK h.map (ak.of_below (S:=fun _=>False) hb) id,h.lo.1,dQ h.lo.2 hb.size⟩
theorem mY.write{s:List UInt8}(h:mY w B m A SY sv D n)(hB:bU B B (A++s) w')(hk:BK B B w w'):mY w' B m (A++s) SY sv D n:=
 ⟨hB,hk.row h.row (fun e=>by have:=(h.row.lt _ e).1;omega) (by decide),hk.map h.map (by have:=h.lo.1;omega),h.lo.1,dQ h.lo.2 hk.1.size⟩
theorem mY.put{D':DataW Unit}{n':Nat}(h:mY w B m A SY sv D n)(hm:w'.ownsMap Tryz.prog 9 ju m n' D')(hg:w.grownBy w' (some m)):mY w' B m A SY sv D' n':=by
 have hk:ak w w' (fun k=>k=m):=ak.of_grown hg fun k e=>(az e).symm;have ht:=jI h.map;refine⟨mE h.bld hk (by have:=h.lo.1;omega) (fun g e=>by subst e;rw[ht];simp),aw h.row hk (fun b e e2=>?_),hm,h.lo.1,dQ h.lo.2 hg.size⟩;subst e2;rw[bg h.row e] at ht;simp at ht
theorem mY.sym(h:mY w B m A SY sv D n){i:Nat}(hi:i<SY.length):∃g c,sv=.slice (some ⟨g,0,none⟩) SY.length c/\w.cell? ⟨g,i,none⟩=some (.string (bs SY[i])):=by
 rcases h.row.2 with⟨_,e⟩|⟨g,cap,cur,e,_⟩
 ·omega
 ·refine⟨g,cap,e,?_⟩;have:=h.row.cells (g:=g) (by rw[e];rfl) i _ (by unfold rR;rw[List.getElem?_map,aV hi];rfl);rwa[kj] at this
theorem mY.look(h:mY w B m A SY sv D n)(hd:kw D SY){s:List UInt8}(hs:s∈SY)(hl:s.length<=1048576):∀W,Below w.heap.size w W->(Instr.lookup 171 (.map (some m)) (.string (bs s)) false).run Tryz.prog W=.ok (.int .i64 (cz SY s:Nat)) W:=fun W hW=>by
 have hkey:keyOf Tryz.prog 9 (.string (bs s))=some (.string s):=keyOf_string_mk Tryz.underlying9 (by rw[aq];unfold maxLen;omega);have hm:=eK h.map (ak.of_below (S:=fun _=>False) hW) id;obtain⟨v,ps,hrun,hR⟩:=hm.lookup (string_keyed Tryz.underlying9) Tryz.underlying171 (z:=.int .i64 0) (Tryz.zeroValue3 W) (zd:=.lit (.int .i64 0)) (zp:=[]) rfl hkey;rw[(hd s).2 hs] at hR;rw[hrun,zV hR];rfl
end
theorem EI(E:List En)(v:Value)(w:World)(h:dR w v E)(hr:∀x∈E,dG x=true)(hE:E.length<=20):
 Calls Tryz.prog 112 #[v,.int .i64 2] w fun e w'=>e=.returned (.string (bs (re E 2)))/\Below w.heap.size w w':=by
 have hmm:=@run_makeMap Tryz.prog
 have h6:∀x∈E,x.labels.length<=6:=fun x hx=>(ib (hr x hx)).1
 have hT:(ci E).length<=1048576:=by have:=pG E h6;omega
 have hSl:=xd h6 hE
 have HSb:=af (show ∀s∈gp E,s.length<=48 from fun s hs=>mb hr s ((jp E s).1 hs))
 have HHL:=af (tX 2 E hr hE)
 have HND:=af (sR E)
 have HMEM:=af (fun x (hx:x∈E) y (hy:y∈x.labels)=>(show y.1∈gp E/\y.2∈gp E from⟨(jp E _).2 (mM hx hy).1,(jp E _).2 (mM hx hy).2⟩))
 have HRT:=af hr
 have HH:=af (show nx E 2=Num.small (gp E).length++(kD 2 [] (gp E)++(Num.small E.length++df 2 (gp E) aR E)) from rfl)
 have HMO:=af (show re E 2=nx E 2 from List.append_nil _)
 have B0:=bU.fresh w
 have b0:=ai w (.cells #[.pointer none,.slice none 0 0] 84)
 have qs:=af (pB E v _ (h.below b0) hT)
 rw[aW] at qs
 have H:=af h
 obtain⟨a,c,rfl,hnil,hl,hlc,hx⟩:=h
 have HX:=af hx
 clear hx h6 hT hr
 generalize gp E=SY at*
 generalize hHD:nx E 2=HEAD at*
 clear hHD
 go_enter Tryz.func112,Tryz.ntmps112
 go_wp2_with fail
 refine qs.out.mono ?_
 rintro e w1 ⟨sv,rfl,hrow,hb1⟩
 have BA:=b0.trans (hb1.mono (by simp))
 have BB:=B0.below (hb1.mono (by simp))
 have hw1:w.heap.size+1<=w1.heap.size:=by have:=hb1.size;rwa[aW] at this
 have m0:(w1.alloc (.map #[] 0)).ownsMap Tryz.prog 9 ju w1.heap.size 0 (.map []):=World.ownsMap_made w1 Tryz.prog 9 ju
 have M0:mY (w1.alloc (.map #[] 0)) w.heap.size w1.heap.size [] SY sv (.map []) 0:=⟨BB.below (ai _ _),World.ownsRow.alloc hrow _,m0,by omega,by simp;omega⟩
 have BM:=BA.trans ((ai w1 (.map #[] 0)).mono BA.size)
 generalize hm:w1.heap.size=m at*
 obtain⟨sa,sc,rfl⟩:=aH hrow
 have q1:=af (fun W=>cM (SY.length:Int) W)
 have hu:aS (SY.length:Int)=SY.length:=by unfold aS;omega
 rw[hu] at q1
 have t1:=(Num.small_len SY.length).2
 have q2:=af (fun W (hW:mY W w.heap.size m [] SY (.slice sa SY.length sc) (.map []) 0)=>cS w.heap.size w.heap.size [] (Num.small SY.length) W hW.bld (by simp;omega) (by have:=hW.lo.2;omega))
 generalize hn1:Num.small SY.length=n1 at*
 clear qs hrow hb1 b0 B0 BA BB m0 hu hn1
 go_wp2_with fail
 refine(q1.out _).mono ?_
 rintro e w2 ⟨rfl,hb2⟩
 have M1:=M0.below hb2
 have B1:=ay BM hb2
 clear M0 BM hb2 q1
 go_wp2_with fail
 refine(q2.out _ M1).mono ?_
 rintro e w3 ⟨rfl,hB3,hk3⟩
 have M2:=M1.write hB3 hk3
 have B2:=B1.trans hk3.1
 have HA0:=af (show ([]++n1)++(kD 2 [] (SY.drop 0)++(Num.small E.length++df 2 SY aR E))=HEAD by rw[HH.out,List.nil_append];rfl)
 generalize ([]++n1:List UInt8)=A0 at*
 clear q2 M1 B1 hB3 hk3 hm hw1 HH
 go_wp2_with fail
 go_loopw [31,8] (fun vi vl wr=>∃(i n:Nat) (last A:List UInt8) (D:DataW Unit),i<=SY.length/\vi=.int .i64 (i:Int)/\vl=.string (bs last)/\last.length<=48/\n<=i/\mY wr w.heap.size m A SY (.slice sa SY.length sc) D n/\Hid (kw D (SY.take i))/\Below w.heap.size w wr/\Hid (A++(kD 2 last (SY.drop i)++(Num.small E.length++df 2 SY aR E))=HEAD)) (fun vi _ _=>SY.length-(intOf vi).toNat)
 case atStart=>exact⟨0,0,[],A0,_,Nat.zero_le _,rfl,rfl,Nat.zero_le _,aF _,M2,af nQ,B2,HA0⟩
 clear M2 B2 HA0
 obtain⟨i,n,last,A,D,hi,rfl,rfl,hll,hni,M,HK,hb,HA⟩:=hrel
 have hAl:A.length<=100000:=by
  have h1:=congrArg List.length HA.out;rw[aG] at h1;have:=HHL.out;omega
 rcases(show i<SY.length\/i=SY.length by omega) with hil|rfl
 ·obtain⟨g,gc,e1,hc⟩:=M.sym hil;obtain⟨rfl,_,rfl⟩:=Value.slice.inj e1;have hs48:=HSb.out SY[i] (dK hil);have HK2:=af (nR M.map.isMap HK.out (l:=SY[i]) (fun hm=>by
   obtain⟨j,hj,e⟩:=List.mem_iff_getElem.1 hm
   rw[List.getElem_take] at e
   have hj':j<i:=by rw[dp] at hj;omega
   exact(List.pairwise_iff_getElem.1 (show SY.Pairwise (fun a b=>a≠b) from HND.out) j i (by omega) hil hj') e))
  rw[<-eM hil,dp,Nat.min_eq_left (show i<=SY.length by omega)] at HK2;have hkey:keyOf Tryz.prog 9 (.string (bs SY[i]))=some (.string SY[i]):=keyOf_string_mk Tryz.underlying9 (by rw[aq];unfold maxLen;omega);have HMP:=af M.map;have HAT:kD 2 last (SY.drop i)=(if (2:Int)=3 then Num.small (bP last SY[i])++Num.text (SY[i].drop (bP last SY[i])) else Num.text SY[i])++kD 2 SY[i] (SY.drop (i+1)):=by rw[List.drop_eq_getElem_cons hil,kD]
  rw[HAT] at HA;clear HAT e1 HK;generalize SY[i]=s at*;have HM:=af (fun W5 (hown:W5.ownsMap Tryz.prog 9 ju m (n+1) (D.put (.string s) (.lit (.int .i64 (i:Nat))))) (hg:wr.grownBy W5 (some m))=>M.put hown hg);have HB:=af (fun W5 (hg:wr.grownBy W5 (some m))=>hb.grown hg hb.size (fun k e=>by have:=az e;have:=M.lo.1;omega));rw[if_neg (by decide)] at HA;have hx0:(bs s).extract 0 s.length=bs s:=by rw[bZ];simp
  have q1:=af (fun W=>ee s W (by omega));have t1:(Num.text s).length<=100:=by rw[Num.text_len];have:=(Num.small_len s.length).2;omega
  have HA2:=af (show (A++Num.text s)++(kD 2 s (SY.drop (i+1))++(Num.small E.length++df 2 SY aR E))=HEAD by rw[<-HA.out];simp[List.append_assoc]);generalize Num.text s=ts at*;have q2:=af (fun W D n (hW:mY W w.heap.size m A SY (.slice (some ⟨g,0,none⟩) SY.length sc) D n)=>cS w.heap.size w.heap.size A ts W hW.bld (by omega) (by have:=hW.lo.2;omega));clear HA M hb;go_wp2_with (at_mapUpdate;refine wpList_mapUpdate_own _ rfl _ _ _ 171 rfl 9 3 (string_keyed Tryz.underlying9) Tryz.underlying171 ju m n D rfl HMP.out (by unfold maxLen;omega) _ _ _ rfl rfl hkey (.lit (.int .i64 (i:Int))) [] rfl ?_;intro w5 hown5 hgrow5;have M5:=HM.out w5 hown5 hgrow5;have b5:=HB.out w5 hgrow5;clear hown5 hgrow5 HM HB HMP)
  refine(q1.out _).mono ?_;rintro e w6 ⟨rfl,hb6⟩;have M6:=M5.below hb6;have b6:=ay b5 hb6;clear M5 b5 hb6;go_wp2_with fail
  refine(q2.out _ _ _ M6).mono ?_;rintro e w7 ⟨rfl,hB7,hk7⟩;have M7:=M6.write hB7 hk7;have b7:=b6.trans hk7.1;clear M6 b6 hB7 hk7;go_wp2_with fail
  go_roundw
  case rel=>exact⟨i+1,n+1,s,A++ts,_,by omega,by go_num,rfl,hs48,by omega,M7,HK2,b7,HA2⟩
  case measure=>simp[intOf];omega
 ·rw[List.drop_length,show kD 2 last []=[] from rfl,List.nil_append] at HA;rw[List.take_length] at HK;have q1:=af (fun W=>cM (E.length:Int) W);have hu:aS (E.length:Int)=E.length:=by unfold aS;omega
  rw[hu] at q1;have t1:=(Num.small_len E.length).2;have HA1:=af (show (A++Num.small E.length)++df 2 SY aR (E.drop 0)=HEAD by rw[<-HA.out];simp[List.append_assoc]);generalize Num.small E.length=ne at*;have q2:=af (fun W (hW:mY W w.heap.size m A SY (.slice sa SY.length sc) D n)=>cS w.heap.size w.heap.size A ne W hW.bld (by omega) (by have:=hW.lo.2;omega));clear HA hu;go_wp2_with fail
  refine(q1.out _).mono ?_;rintro e w2 ⟨rfl,hb2⟩;have M1:=M.below hb2;have b1:=ay hb hb2;clear M hb hb2 q1;go_wp2_with fail
  refine(q2.out _ M1).mono ?_;rintro e w3 ⟨rfl,hB3,hk3⟩;have M2:=(M1.write hB3 hk3).below (ai w3 (.cells #[.slice none 0 0,.int .i64 0,.int .i64 0,.int .i64 0] 92));have b2:=b1.trans hk3.1;have b3:=b2.alloc b2.size (.cells #[.slice none 0 0,.int .i64 0,.int .i64 0,.int .i64 0] 92);have kH:=ag.new w3 92 #[.slice none 0 0,.int .i64 0,.int .i64 0,.int .i64 0];have hwH:w.heap.size<w3.heap.size:=(M1.write hB3 hk3).lo.2;clear M1 b1 hB3 hk3 q2 b2;generalize hH:w3.heap.size=AH at*;go_wp2_with fail
  go_loopw [60] (fun vi wr=>∃(i:Nat) (A:List UInt8) (ah:En) (av:Value),i<=E.length/\vi=.int .i64 (i:Int)/\mY wr w.heap.size m A SY (.slice sa SY.length sc) D n/\ag wr AH 92 #[av,.int .i64 ah.last,.int .i64 ah.off,.int .i64 ah.len]/\BN ah/\Below w.heap.size w wr/\Hid (A++df 2 SY ah (E.drop i)=HEAD)) (fun vi _=>E.length-(intOf vi).toNat)
  case atStart=>exact⟨0,_,aR,_,Nat.zero_le _,rfl,M2,kH,⟨by simp[aR],by simp[aR],by simp[aR],by simp[aR],by simp[aR],by simp[aR]⟩,b3,HA1⟩
  clear M2 kH b3 HA1 hH hAl;obtain⟨i,A,ah,av,hi,rfl,M,kH,hah,hb,HA⟩:=hrel;have hAl:A.length<=100000:=by
   have h1:=congrArg List.length HA.out;rw[aG] at h1;have:=HHL.out;omega
  rcases(show i<E.length\/i=E.length by omega) with hil|rfl
  ·obtain⟨hok,b,o,rfl,a',c',d0,hL,d1,d2,d3⟩:=HX.out i E[i] (aV hil);have e0:=cu hb d0;have e1:=cu hb d1;have e2:=cu hb d2;have e3:=cu hb d3;have hrx:=HRT.out E[i] (dK hil);obtain⟨hl6,hl48⟩:=ib hrx;have hnx:=tq hrx;have HSY:=af (fun y (hy:y∈E[i].labels)=>HMEM.out _ (dK hil) y hy);have HAT:df 2 SY ah (E.drop i)=wv 2 SY ah E[i]++df 2 SY E[i] (E.drop (i+1)):=by rw[List.drop_eq_getElem_cons hil,df]
   rw[HAT] at HA;clear HAT hrx hok d0 d1 d2 d3;generalize E[i]=x at*;have HE2:wv 2 SY ah x=Num.small x.labels.length++(x.labels.flatMap (kL SY)++iA 2 ah x):=rfl;rw[HE2] at HA;generalize hR2:df 2 SY x (E.drop (i+1))=R2 at*;have HR2:=af hR2;clear HE2 hR2;have q1:=af (fun W=>cM (x.labels.length:Int) W);have hu:aS (x.labels.length:Int)=x.labels.length:=by unfold aS;omega
   rw[hu] at q1;have t1:=(Num.small_len x.labels.length).2;have HA1:=af (show (A++Num.small x.labels.length)++(((x.labels.drop 0).flatMap (kL SY)++iA 2 ah x)++R2)=HEAD by rw[<-HA.out];simp[List.append_assoc]);generalize Num.small x.labels.length=nl at*;have q2:=af (fun W (hW:mY W w.heap.size m A SY (.slice sa SY.length sc) D n)=>cS w.heap.size w.heap.size A nl W hW.bld (by omega) (by have:=hW.lo.2;omega));have bX:=ai wr (.cells #[.slice a' x.labels.length c',.int .i64 x.last,.int .i64 x.off,.int .i64 x.len] 92);have kX:=ag.new wr 92 #[.slice a' x.labels.length c',.int .i64 x.last,.int .i64 x.off,.int .i64 x.len];have MX:=M.below bX;have kHX:=kH.below bX kH.lt;have b1:=ay hb bX;have hXH:wr.heap.size≠AH:=by have:=kH.lt;omega
   have hXB:w.heap.size<wr.heap.size:=M.lo.2;clear HA hu M hb bX kH;obtain⟨⟨c0,c1,c2,c3⟩,_⟩:=dt kX;go_wp2_with fail
   refine(q1.out _).mono ?_;rintro e w2 ⟨rfl,hb2⟩;have M1:=MX.below hb2;have b2:=ay b1 hb2;have kX2:=kX.below hb2 kX.lt;have kH2:=kHX.below hb2 kHX.lt;clear MX b1 hb2 q1 kX kHX c0 c1 c2 c3;generalize wr.heap.size=XB at*;obtain⟨⟨c0,c1,c2,c3⟩,_⟩:=dt kX2;go_wp2_with fail
   refine(q2.out _ M1).mono ?_;rintro e w3 ⟨rfl,hB3,hk3⟩;have M2:=M1.write hB3 hk3;have b3:=b2.trans hk3.1;have kX3:=hk3.blk kX2 (by omega) (by decide);have kH3:=hk3.blk kH2 (by omega) (by decide);clear M1 b2 hB3 hk3 q2 kX2 kH2 c0 c1 c2 c3 hAl;obtain⟨⟨c0,c1,c2,c3⟩,_⟩:=dt kX3;go_wp2_with fail
   go_loopw [72] (fun vk wq=>∃(k:Nat) (A:List UInt8),k<=x.labels.length/\vk=.int .i64 (k:Int)/\mY wq w.heap.size m A SY (.slice sa SY.length sc) D n/\ag wq AH 92 #[av,.int .i64 ah.last,.int .i64 ah.off,.int .i64 ah.len]/\ag wq XB 92 #[.slice a' x.labels.length c',.int .i64 x.last,.int .i64 x.off,.int .i64 x.len]/\Below w.heap.size w wq/\Hid (A++(((x.labels.drop k).flatMap (kL SY)++iA 2 ah x)++R2)=HEAD)) (fun vk _=>x.labels.length-(intOf vk).toNat)
   case atStart=>exact⟨0,_,Nat.zero_le _,rfl,M2,kH3,kX3,b3,HA1⟩
   clear M2 kH3 kX3 b3 HA1 c0 c1 c2 c3;obtain⟨k,A,hk,rfl,M,kH,kX,hb,HA⟩:=hrel;have hAl:A.length<=100000:=by
    have h1:=congrArg List.length HA.out;rw[aG] at h1;have:=HHL.out;omega
   rcases(show k<x.labels.length\/k=x.labels.length by omega) with hkl|rfl
   ·obtain⟨_,_,eL,_,hLx⟩:=id hL;obtain⟨rfl,_,rfl⟩:=Value.slice.inj eL;obtain⟨_,_,b3,o3,rfl,g0,g1⟩:=hLx k x.labels[k] (aV hkl);have x0:=cu hb g0;have x1:=cu hb g1;have hmem:=HSY.out _ (dK hkl);have h48:=hl48 _ (dK hkl);rw[List.drop_eq_getElem_cons hkl,List.flatMap_cons] at HA;clear g0 g1 hLx eL;generalize x.labels[k]=y at*;have bY:=ai wr (.cells #[.string (bs y.1),.string (bs y.2)] 73);have kY:=ag.new wr 73 #[.string (bs y.1),.string (bs y.2)];have MY:=M.below bY;have z0:=aj (ax kY 0 (.string (bs y.1)) rfl);have z1:=aj (ax kY 1 (.string (bs y.2)) rfl);have HL1:=af (MY.look HK.out hmem.1 (by omega));have HL2:=af (MY.look HK.out hmem.2 (by omega));have hp1:=(oK hmem.1).1;have hp2:=(oK hmem.2).1;have q1:=af (fun W=>cM ((cz SY y.1:Nat):Int) W);have q2:=af (fun W=>cM ((cz SY y.2:Nat):Int) W);have hu1:aS ((cz SY y.1:Nat):Int)=cz SY y.1:=by unfold aS;omega
    have hu2:aS ((cz SY y.2:Nat):Int)=cz SY y.2:=by unfold aS;omega
    rw[hu1] at q1;rw[hu2] at q2;have t1:=(Num.small_len (cz SY y.1)).2;have t2:=(Num.small_len (cz SY y.2)).2;have hl2:kL SY y=Num.small (cz SY y.1)++Num.small (cz SY y.2):=rfl;rw[hl2] at HA;generalize Num.small (cz SY y.1)=y1 at*;generalize Num.small (cz SY y.2)=y2 at*;generalize cz SY y.1=p1 at*;generalize cz SY y.2=p2 at*;have hadd:∀W,(Op.stringOp .add (bs y1) (bs y2)).run Tryz.prog W=.ok (.string (bs (y1++y2))) W:=fun W=>aJ (P:=Tryz.prog) y1 y2 (by omega) W;have HA2:=af (show (A++(y1++y2))++(((x.labels.drop (k+1)).flatMap (kL SY)++iA 2 ah x)++R2)=HEAD by rw[<-HA.out];simp[List.append_assoc]);have qw:=af (fun W (hW:mY W w.heap.size m A SY (.slice sa SY.length sc) D n)=>cS w.heap.size w.heap.size A (y1++y2) W hW.bld (by rw[aG];omega) (by have:=hW.lo.2;omega));have HMY:=af MY;have HkH:=af (kH.below bY kH.lt);have HkX:=af (kX.below bY kX.lt);have Hb2:=af (ay hb bY);clear HA hl2 hu1 hu2 hmem h48 kY MY M kH kX bY hb;go_wp2_with fail
    refine l6 ?_;iterate 3 (refine bJ fun K hK=>?_;go_big_quiet_step (fail);refine hK _ ?_;clear hK K)
    (refine nw (v:=.int .i64 (p1:Int)) (fun W hW=>by have hl:=HL1.out W hW;go_simp) fun K hK=>?_;go_big_quiet_step (fail);refine hK _ ?_;clear hK K)
    (refine fS (f:=179) (args:=#[.int .i64 (p1:Int)]) (v:=.string (bs y1)) (fun W hW=>q1.out W) fun K hK=>?_;go_big_quiet_step (fail);refine hK _ ?_;clear hK K);iterate 3 (refine bJ fun K hK=>?_;go_big_quiet_step (fail);refine hK _ ?_;clear hK K)
    (refine nw (v:=.int .i64 (p2:Int)) (fun W hW=>by have hl:=HL2.out W hW;go_simp) fun K hK=>?_;go_big_quiet_step (fail);refine hK _ ?_;clear hK K)
    (refine fS (f:=179) (args:=#[.int .i64 (p2:Int)]) (v:=.string (bs y2)) (fun W hW=>q2.out W) fun K hK=>?_;go_big_quiet_step (fail);refine hK _ ?_;clear hK K)
    (refine bJ fun K hK=>?_;go_big_quiet_step (fail);refine hK _ ?_;clear hK K);refine eR ?_;intro w5 hb5;simp only[aB];have b5:=Hb2.out.trans (Below.mono hb5 Hb2.out.size);have M5:=HMY.out.below hb5;have kH5:=ag.below HkH.out hb5 HkH.out.lt;have kX5:=ag.below HkX.out hb5 HkX.out.lt;clear z0 z1 HMY HkH HkX Hb2 HL1 HL2;go_wp2_with fail
    refine(qw.out _ M5).mono ?_;rintro e w6 ⟨rfl,hB6,hk6⟩;have M6:=M5.write hB6 hk6;go_wp2_with fail
    go_roundw
    case rel=>exact⟨k+1,_,by omega,by go_num,M6,hk6.blk kH5 (by omega) (by decide),hk6.blk kX5 (by omega) (by decide),b5.trans hk6.1,HA2⟩
    case measure=>simp[intOf];omega
   ·rw[List.drop_length,List.flatMap_nil,List.nil_append] at HA;obtain⟨n1,n2,n3,n4,n5,n6⟩:=hnx;obtain⟨h1,h2,h3,h4,h5,h6⟩:=hah;obtain⟨⟨c0,c1,c2,c3⟩,_⟩:=dt kX;obtain⟨⟨d0,d1,d2,d3⟩,f0,f1,f2,f3⟩:=dt kH;have g1:=aj c1;have g2:=aj c2;have g3:=aj c3;have q1:=af (fun W=>aT (aS x.last:Int) W (by omega) (by have:=gy x.last;omega));rw[Int.toNat_natCast] at q1;have q2:=af (fun W=>cM x.off W);have q3:=af (fun W=>cM x.len W);have hu1:=dF x.last;have ht2:iA 2 ah x=(Num.small (aS x.last)++Num.small (aS x.off))++Num.small (aS x.len):=rfl;rw[ht2] at HA;have t1:=(Num.small_len (aS x.last)).2;have t2:=(Num.small_len (aS x.off)).2;have t3:=(Num.small_len (aS x.len)).2;generalize Num.small (aS x.last)=y1 at*;generalize Num.small (aS x.off)=y2 at*;generalize Num.small (aS x.len)=y3 at*;generalize aS x.last=p1 at*;have hadd1:∀W,(Op.stringOp .add (bs y1) (bs y2)).run Tryz.prog W=.ok (.string (bs (y1++y2))) W:=fun W=>aJ (P:=Tryz.prog) y1 y2 (by omega) W;have hadd2:∀W,(Op.stringOp .add (bs (y1++y2)) (bs y3)).run Tryz.prog W=.ok (.string (bs (y1++y2++y3))) W:=fun W=>aJ (P:=Tryz.prog) (y1++y2) y3 (by rw[aG];omega) W;have HA2:=af (show (A++(y1++y2++y3))++df 2 SY x (E.drop (i+1))=HEAD by rw[HR2.out,<-HA.out];simp[List.append_assoc]);have qw:=af (fun W (hW:mY W w.heap.size m A SY (.slice sa SY.length sc) D n)=>cS w.heap.size w.heap.size A (y1++y2++y3) W hW.bld (by rw[aG,aG];omega) (by have:=hW.lo.2;omega));generalize y1++y2++y3=z3 at*;generalize y1++y2=z2 at*;have HMY:=af M;have HkH:=af kH;have HkX:=af kX;have Hb2:=af hb;clear HA ht2 M kH kX hb c0 c1 c2 c3 d0 d1 d2 d3 f0 f1 f2 f3;go_wp2_with fail
    refine l6 ?_;iterate 3 (refine bJ fun K hK=>?_;go_big_quiet_step (fail);refine hK _ ?_;clear hK K)
    (refine fS (f:=32) (args:=#[.int .u64 (p1:Int)]) (v:=.string (bs y1)) (fun W hW=>q1.out W) fun K hK=>?_;go_big_quiet_step (fail);refine hK _ ?_;clear hK K);iterate 2 (refine bJ fun K hK=>?_;go_big_quiet_step (fail);refine hK _ ?_;clear hK K)
    (refine fS (f:=179) (args:=#[.int .i64 x.off]) (v:=.string (bs y2)) (fun W hW=>q2.out W) fun K hK=>?_;go_big_quiet_step (fail);refine hK _ ?_;clear hK K);iterate 3 (refine bJ fun K hK=>?_;go_big_quiet_step (fail);refine hK _ ?_;clear hK K)
    (refine fS (f:=179) (args:=#[.int .i64 x.len]) (v:=.string (bs y3)) (fun W hW=>q3.out W) fun K hK=>?_;go_big_quiet_step (fail);refine hK _ ?_;clear hK K)
    (refine bJ fun K hK=>?_;go_big_quiet_step (fail);refine hK _ ?_;clear hK K);refine eR ?_;intro w5 hb5;simp only[aB];have b5:=Hb2.out.trans (Below.mono hb5 Hb2.out.size);have M5:=HMY.out.below hb5;have kH5:=ag.below HkH.out hb5 HkH.out.lt;have kX5:=ag.below HkX.out hb5 HkX.out.lt;clear g1 g2 g3 HMY HkH HkX Hb2;go_wp2_with fail
    refine(qw.out _ M5).mono ?_;rintro e w6 ⟨rfl,hB6,hk6⟩;have M6:=M5.write hB6 hk6;have kH6:=hk6.blk kH5 (by omega) (by decide);have kX6:=hk6.blk kX5 (by omega) (by decide);have b6:=b5.trans hk6.1;obtain⟨⟨c0,c1,c2,c3⟩,_⟩:=dt kX6;obtain⟨⟨d0,d1,d2,d3⟩,f0,f1,f2,f3⟩:=dt kH6;obtain⟨kH7,K7⟩:=Ji kH6 (.slice a' x.labels.length c') (.int .i64 x.last) (.int .i64 x.off) (.int .i64 x.len);have HkH7:=af kH7;have HK7:=af K7;have HM6:=af M6;have HtH:=af (aP kH6);clear M5 kH5 kX5 b5 hB6 hk6 qw kH7 K7 M6 kH6 kX6;go_wp2_with fail
    go_roundw
    case rel=>
     have ht:=HtH.out;have hM6:=HM6.out;refine⟨i+1,_,x,_,by omega,by go_num,⟨mE hM6.bld HK7.out (by omega) (fun g e=>by subst e;rw[ht];simp),aw hM6.row HK7.out (fun b e e2=>?_),eK hM6.map HK7.out (fun e=>?_),hM6.lo.1,dQ hM6.lo.2 HK7.out.size⟩,HkH7.out,⟨n1,n2,n3,n4,n5,n6⟩,b6.trans (HK7.out.below b6.size fun k e=>by omega),HA2⟩
     ·subst e2;rw[bg hM6.row e] at ht;simp at ht
     ·have h1:=jI hM6.map;rw[e,ht] at h1;simp at h1
    case measure=>simp[intOf];omega
  ·rw[List.drop_length,show df 2 SY ah []=[] from rfl,List.append_nil] at HA;obtain rfl:=HA.out;have Q:=af (ft _ _ _ _ M.bld hb.size);go_wp2_with fail
   refine Q.out.mono ?_;rintro e w3 ⟨rfl,hB3,hb3⟩;go_wp2_with fail
   go_ret;exact⟨by rw[HMO.out];rfl,hb.trans hb3⟩
end
section
open Go.RowKit Go.Maps Go.WideMaps Go.Shelf
attribute [local go_sem] am aq
attribute [local go_sem] Oper.semAt_some
def KB (n₀ n1 b:Nat)(W W':World):Prop:=Below n₀ W W'/\∀k o,k<n1->W.heap[k]?=some o->k≠b->(∀c fz,o≠.cells c 5 fz)->W'.heap[k]?=some o
theorem KB.t{n₀ n1 b:Nat}{A B C:World}(h:KB n₀ n1 b A B)(k:KB n₀ n1 b B C):KB n₀ n1 b A C:=⟨h.1.trans k.1,fun i o hi ho hb ht=>k.2 i o hi (h.2 i o hi ho hb ht) hb ht⟩
theorem KB.b{n₀ b:Nat}{w:World}(hn:n₀<=w.heap.size)(W:World)(l:Nat)(o o':Obj)(hl:w.heap.size<=l)(h:W.heap[l]?=some o)(h1:o.isCells=false)(h2:o.isWalk=false):KB n₀ w.heap.size b W (W.putObj l o'):=
 ⟨belowK_b hn W l o o' hl h h1 h2,fun k x hk hx _ _=>by rw[World.putObj_heap_other (by omega)];exact hx⟩
theorem KB.refl(n₀ n1 b:Nat)(W:World):KB n₀ n1 b W W:=⟨bR,fun _ _ _ h _ _=>h⟩
theorem KB.of_below{n₀ n1 b:Nat}{W W':World}(h:Below W.heap.size W W')(hn:n₀<=W.heap.size):KB n₀ n1 b W W':=⟨h.mono hn,fun k _ _ ho _ _=>(h.block k (Array.getElem?_eq_some_iff.1 ho).1).trans ho⟩
theorem KB.blk{n₀ n1 b g:Nat}{t:TypeId}{cs:Array Value}{W W':World}(h:KB n₀ n1 b W W')(hk:ag W g t cs)(hg:g<n1)(hb:g≠b)(ht:t≠5):ag W' g t cs:=h.2 g _ hg hk hb (fun c fz e=>ht (by cases e;rfl))
theorem KB.row{n₀ n1 b base:Nat}{e:TypeId}{size n:Nat}{v:Value}{xs:List Value}{W W':World}(h:KB n₀ n1 b W W')(hr:W.ownsRow base e size v n xs)(hv:∀g,v.ownBlock=some g->g<n1/\g≠b)(ht:e≠5):W'.ownsRow base e size v n xs:=by
 refine⟨hr.1,?_⟩;rcases hr.2 with h2|⟨g,cap,cur,rfl,h3,h4,h5⟩
 ·exact .inl h2
 ·exact .inr ⟨g,cap,cur,rfl,h3,h.2 g _ (hv g rfl).1 h4 (hv g rfl).2 (fun c fz e2=>ht (by cases e2;rfl)),h5⟩
abbrev KZ(w:World)(B:Nat)(S:List (Lb×Nat)):Type:={p:Lb×Value//kG p.1/\w.ownsInts (B+1) 3 .i64 p.2 (jO (cC S p.1))}
theorem EP{P:Program}{k t e:TypeId}{R:Value->Option (DataW Unit×List MemPlace)}{w w':World}{b:Nat}{es:Array MapEntry}{clock:Nat}{z v key:Value}{kl:Lit}(K:KeyLaw P k)(ht:P.underlying t=some (.map k e))(hz:∀u:World,(zeroValue e).run P u=.ok z u)(hb:w.heap[b]?=some (.map es clock))(F:WideElems.Fit P k R es clock)(hkey:keyOf P k key=some kl)
 (h:(Instr.lookup t (.map (some b)) key false).run P w=.ok v w) (hb':w'.heap[b]?=some (.map es clock)):(Instr.lookup t (.map (some b)) key false).run P w'=.ok v w':=by
 rcases Maps.fit_look false (Keyed.of_law K) ht (hz w) hb F hkey with⟨h1,h2,_⟩|⟨e0,y,m0,k0,h1,_,_,_⟩
 ·rw[h] at h1;have hv:v=z:=by simpa using h1
  rcases Maps.fit_look false (Keyed.of_law K) ht (hz w') hb' F hkey with⟨g1,_,_⟩|⟨e1,y1,m1,k1,g1,_,_,_⟩
  ·rw[g1,hv];rfl
  ·exact absurd k1 (h2 e1 m1)
 ·rw[h] at h1;have hv:v=e0.val:=by simpa using h1
  rcases Maps.fit_look false (Keyed.of_law K) ht (hz w') hb' F hkey with⟨g1,g2,_⟩|⟨e1,y1,m1,k1,g1,_,_,_⟩
  ·exact absurd k0 (g2 e0 m0)
  ·obtain⟨i,hi⟩:=List.getElem?_of_mem m0;obtain⟨j,hj⟩:=List.getElem?_of_mem m1;rw[g1,hv,(nZ F hi hj (k0.trans k1.symm)).2];rfl
theorem DD{L:List Lb}{k:Nat}(h:k<L.length):(L.flatMap eX)[k*2]?=some (.string (bs L[k].1))/\(L.flatMap eX)[k*2+1]?=some (.string (bs L[k].2)):=by
 have h1:=o9 L (k*2) (by omega);have h2:=o9 L (k*2+1) (by omega);rw[show k*2/2=k by omega,show k*2%2=0 by omega,List.getD_eq_getElem?_getD,aV h] at h1;rw[show (k*2+1)/2=k by omega,show (k*2+1)%2=1 by omega,List.getD_eq_getElem?_getD,aV h] at h2;exact⟨h1,h2⟩
theorem zy(n:Nat)(hn:1<=n)(b B n₀:Nat)(S:List (Lb×Nat))(L:List Lb)(kv:Value)(D:DataW Unit)(w:World)(hp:wP w B S L kv D)(hbB:b<B)(hn₀:n₀<=w.heap.size)(hok:∀y∈L,kG y)(hL:L.length<=1000000)(hS:S.length<maxLen):
 ∃XS:List (KZ w B S),XS.map (fun p=>p.1.1)=L/\SeqStopsK Fence.wide n Tryz.prog 233 #[.pointer (some ⟨B+2,0,none⟩),.pointer (some ⟨B+1,0,none⟩)] (fun p:KZ w B S=>#[.agg #[.string (bs p.1.1.1),.string (bs p.1.1.2)],p.1.2]) (KB n₀ w.heap.size b) (fun ys=>ys=XS) (fun _=>True) XS.length w:=by
 have hex:∀y∈L,∃v,w.ownsInts (B+1) 3 .i64 v (jO (cC S y))/\∀W,KB n₀ w.heap.size b w W->(Instr.lookup 303 (.map (some B)) (.agg #[.string (bs y.1),.string (bs y.2)]) false).run Tryz.prog W=.ok v W:=by
  intro y hy;obtain⟨v,zs,hlook,hat,hoi,hzl,_⟩:=hp.grp.at (Keyed.of_law zQ) Tryz.underlying303 (Tryz.zeroValue57 _) hS (pQ y (hok y hy));have hzs:=ur hoi (hat.symm.trans (hp.dict y (hok y hy)));subst hzs;obtain⟨es,clock,hb,F,_⟩:=hp.grp;have hBl:B<w.heap.size:=(Array.getElem?_eq_some_iff.1 hb).1;exact⟨v,hoi,fun W hW=>EP zQ Tryz.underlying303 (fun u=>Tryz.zeroValue57 u) hb F (pQ y (hok y hy)) hlook (hW.2 B _ hBl hb (by omega) (fun c fz e=>by cases e))⟩
 obtain⟨f,hf⟩:∃f:(y:Lb)->y∈L->Value,∀y hy,w.ownsInts (B+1) 3 .i64 (f y hy) (jO (cC S y))/\∀W,KB n₀ w.heap.size b w W->(Instr.lookup 303 (.map (some B)) (.agg #[.string (bs y.1),.string (bs y.2)]) false).run Tryz.prog W=.ok (f y hy) W:=⟨fun y hy=>Classical.choose (hex y hy),fun y hy=>Classical.choose_spec (hex y hy)⟩
 clear hex
 refine⟨L.attach.map fun y=>⟨(y.1,f y.1 y.2),hok y.1 y.2,(hf y.1 y.2).1⟩,by rw[List.map_map];exact List.attach_map_subtype_val L,?_⟩
 have HXL:∀k (hk:k<L.length),(L.attach.map fun y=>(⟨(y.1,f y.1 y.2),hok y.1 y.2,(hf y.1 y.2).1⟩:KZ w B S))[k]?=some ⟨(L[k],f L[k] (dK hk)),hok _ (dK hk),(hf _ (dK hk)).1⟩:=fun k hk=>by
  rw[List.getElem?_map,List.getElem?_attach];simp[hk]
 have HLK:=af (fun k (hk:k<L.length)=>(hf L[k] (dK hk)).2)
 have hXlen:(L.attach.map fun y=>(⟨(y.1,f y.1 y.2),hok y.1 y.2,(hf y.1 y.2).1⟩:KZ w B S)).length=L.length:=by simp
 have HXV:=af (fun k (hk:k<L.length)=>(hf L[k] (dK hk)).1)
 have HXS:=af HXL
 clear HXL
 generalize (L.attach.map fun y=>(⟨(y.1,f y.1 y.2),hok y.1 y.2,(hf y.1 y.2).1⟩:KZ w B S))=XS at*
 intro l J Jx W hW hJ hJx hY h0
 have HJ:=af hJ
 have HY:=af hY
 clear hJ hJx hY
 have HP:=af hp
 have hkb0:KB n₀ w.heap.size b w W:=(KB.of_below hW hn₀)
 obtain⟨ka,kc,rfl⟩:=aH hp.row
 have cK:=(hW.cell (World.block_lt_of_cell? _ _ (ax hp.boxK 0 (.slice ka L.length kc) rfl))).trans (ax hp.boxK 0 (.slice ka L.length kc) rfl)
 have hlen:XS.length=L.length:=hXlen
 have h00:J (XS.take 0) W:=h0
 clear hp hXlen h0
 refine callsIn_of_wp Tryz.func233 rfl trivial ?_ rfl
 simp only[Tryz.ntmps233,List.size_toArray,cY,List.length_nil,Nat.reduceAdd,Nat.reduceSub,Array.replicate_succ,Array.replicate_zero,List.push_toArray,List.append_toArray,List.nil_append,List.cons_append]
 gi_wp2
 gi_loopw [8] (fun vi wr=>∃k:Nat,k<=L.length/\vi=.int .i64 (k:Int)/\J (XS.take k) wr/\KB n₀ w.heap.size b w wr) (fun vi _=>L.length-(intOf vi).toNat)
 case atStart=>exact⟨0,Nat.zero_le _,rfl,h00,hkb0⟩
 case round=>
  clear h00 hkb0 hW cK;obtain⟨k,hk,rfl,hJs,hkb⟩:=hrel;by_cases hlt:k<L.length
  ·obtain⟨g,rfl⟩:∃g,ka=some ⟨g,0,none⟩:=by
    rcases HP.out.row.2 with⟨_,e⟩|⟨g,cap,cur,e,_⟩
    ·omega
    ·exact⟨g,(Value.slice.inj e).1⟩
   have hgb:=(HP.out.row.lt g rfl)
   have hrow:=hkb.row HP.out.row (fun g' hg'=>by obtain rfl:=az hg';exact⟨hgb.2,by have h1:B<=g:=hgb.1;show g≠b;omega⟩) (by decide);have hcl:∀j u,(L.flatMap eX)[j]?=some u->wr.cell? ((⟨g,0,none⟩:Addr).add j)=some u:=hrow.cells (g:=g) rfl;have y0:=hcl (k*2) (.string (bs L[k].1)) (DD hlt).1;have y1:=hcl (k*2+1) (.string (bs L[k].2)) (DD hlt).2;rw[kj] at y0 y1;have hx:=HXS.out k hlt;have hlk:=HLK.out k hlt;have HJ2:=af (fun W2 (hg:wr.grownBy W2 none)=>HJ.out _ _ _ none hJs hg (fun r e=>by cases e));have bA:=ai wr (.cells #[.string (bs L[k].1),.string (bs L[k].2)] 73);have hnr:n₀<=wr.heap.size:=aK hn₀ hkb.1.size;have hkb2:=hkb.t (KB.of_below (n1:=w.heap.size) (b:=b) bA hnr);have hkb3:KB n₀ w.heap.size b w (wr.alloc (.cells #[.string (bs L[k].1),.string (bs L[k].2)] 73)).drew:=⟨hkb2.1.drew,hkb2.2⟩
   have hll:=hlk _ hkb3;have cA:=ax (hkb2.blk HP.out.boxA HP.out.boxA.lt (by omega) (by decide)) 0 (.map (some B)) rfl;have hgr:=World.grownBy_alloc wr (.cells #[.string (bs L[k].1),.string (bs L[k].2)] 73) none;have hj2:=HJ2.out (wr.alloc (.cells #[.string (bs L[k].1),.string (bs L[k].2)] 73)).drew ⟨hgr.os,hgr.tape,hgr.output,hgr.size,hgr.block⟩;obtain⟨fn,tmps,assign,body,hy,hR⟩:=HY.out _ ⟨(L[k],f L[k] (dK hlt)),hok _ (dK hlt),(hf _ (dK hlt)).1⟩ _ hj2 (by rw[dp];omega);dsimp only at hy;gi_wp2;have hR2:=hR.mono (fun e W' h=>(show ∃bb:Bool,e=.returned (.bool bb)/\Hid ((bb=true/\J _ W'/\KB n₀ w.heap.size b _ W')\/(bb=false/\Jx _ W')) from h.elim (fun h=>⟨true,h.1,af (.inl ⟨rfl,h.2⟩)⟩) (fun h=>⟨false,h.1,af (.inr ⟨rfl,h.2⟩)⟩)));clear hR hj2;gi_region_with (refine hR2.mono ?_;rintro e w3 ⟨bb,rfl,hh⟩)
   all_goals
    cases bb with
    |true=>
     obtain⟨_,hJ3,hk3⟩:=hh.out.resolve_right (fun h=>by cases h.1);have HKB:=af (hkb3.t hk3);have HX:=af hx;have HJ3:=af hJ3;clear hR2 hy hJ3 hkb3 hk3 hll hkb2 hkb hJs hx hlk hh;gi_wp2;go_roundw
     case rel=>
      refine⟨k+1,by omega,by go_num,?_,HKB.out⟩;rw[List.take_add_one,HX.out];exact HJ3.out
     case measure=>simp[intOf];omega
    |false=>
     obtain⟨_,hJx3⟩:=hh.out.resolve_left (fun h=>by cases h.1);clear hR2 hy hh;gi_wp2;refine bodyPost_ret (results_none rfl _ _ _) rfl ?_;exact⟨⟨_,rfl⟩,.inr ⟨_,hJx3⟩⟩
  ·obtain rfl:k=L.length:=by omega
   rw[<-hlen,List.take_length] at hJs;gi_wp2;go_end0
   exact⟨⟨_,rfl⟩,.inl ⟨_,rfl,hJs⟩⟩
def iU(S:List (Lb×Nat))(y:Lb):List UInt8:=Num.small (cC S y).length++n7 0 (cC S y)
theorem vQ(E:List En)(h:∀x∈E,x.labels.length<=6):(cJ E).length<=E.length*6:=by
 have:∀i,i<=E.length->(rT E i).length<=i*6:=fun i=>by
  induction i with
  |zero=>exact fun _=>aF _
  |succ i ih=>
   intro hi;rw[oJ E (by omega),aG,List.length_map];have h1:=ih (by omega);have h2:=h E[i] (dK (by omega));omega
 exact this E.length (aF _)
theorem zT(E:List En):(ic E).length<=(cJ E).length:=by
 unfold ic;rw[sX];have:=uq ((cJ E).map fun p=>p.1);rwa[List.length_map] at this
theorem JF{w:World}{v:Value}{E:List En}(h:dR w v E):∀y∈ic E,kG y:=fun y hy=>by
 unfold ic jW at hy;rw[List.mem_mergeSort,Ak,List.mem_map] at hy;obtain⟨p,hp,rfl⟩:=hy;unfold cJ at hp;rw[List.mem_flatMap] at hp;obtain⟨i,hi,hp⟩:=hp;rw[List.mem_map] at hp;obtain⟨y,hy,rfl⟩:=hp;have hil:=List.mem_range.1 hi;obtain⟨a,c,rfl,_,_,_,hx⟩:=h;obtain⟨_,b,o,_,a',c',_,hL,_⟩:=hx i _ (aV hil);rw[show E.getD i aR=E[i] by rw[List.getD_eq_getElem?_getD,aV hil];rfl] at hy;obtain⟨j,hj,rfl⟩:=List.mem_iff_getElem.1 hy;obtain⟨_,_,_,_,hLx⟩:=hL;obtain⟨h1,h2,_⟩:=hLx j _ (aV hj);exact⟨h1,h2⟩
theorem KF(E:List En):∀i,i<=E.length->((rT E i).map fun p=>p.2).Pairwise (·<=·)/\∀k∈(rT E i).map (fun p=>p.2),k<i:=fun i=>by
 induction i with
 |zero=>exact fun _=>⟨List.Pairwise.nil,fun k hk=>by simp[rT] at hk⟩
 |succ i ih=>
  intro hi;obtain⟨h1,h2⟩:=ih (by omega);rw[oJ E (by omega),List.map_append,List.map_map];have hc:∀k∈(E[i].labels.map ((fun p:Lb×Nat=>p.2)∘fun z=>(z,i))),k=i:=fun k hk=>by
   obtain⟨z,_,rfl⟩:=List.mem_map.1 hk;rfl
  refine⟨List.pairwise_append.2 ⟨h1,?_,fun a ha b hb=>?_⟩,fun k hk=>?_⟩
  ·rw[List.pairwise_map];exact List.pairwise_iff_getElem.2 (fun _ _ _ _ _=>aF _)
  ·have:=h2 a ha;have:=hc b hb;omega
  ·rcases List.mem_append.1 hk with hk|hk
   ·have:=h2 k hk;omega
   ·have:=hc k hk;omega
theorem zw(E:List En)(y:Lb):(cC (cJ E) y).Pairwise (·<=·)/\∀k∈cC (cJ E) y,k<E.length:=by
 obtain⟨h1,h2⟩:=KF E E.length (aF _);have hs:(cC (cJ E) y).Sublist ((rT E E.length).map fun p=>p.2):=by
  unfold cC;rw[tF];exact(List.filter_sublist).map _
 exact⟨h1.sublist hs,fun k hk=>h2 k (hs.subset hk)⟩
theorem zB{β:Type}(B n1:Nat)(hB:B<n1)(_hn:B<=n1)(f:β->List UInt8)(_T:World->Prop)(w w2:World)(hBw:B<=w.heap.size):OwnFrom n1 (fun s W=>bU B B (f s) W/\Below B w W/\KB B n1 B w2 W):=by
 rintro s X Y row ⟨h1,h2,h3⟩ hg hr;have hk:ak X Y (fun k=>row=some k):=ak.of_grown hg fun k e=>e;refine⟨mE h1 hk (fun e=>by have:=(hr B e).1;omega) (fun g e=>?_),h2.grown hg (aK hBw h2.size) (fun k e=>by have:=(hr k e).1;omega),h3.1.grown hg ?_ (fun k e=>by have:=(hr k e).1;omega),fun k o hk2 ho hb ht=>?_⟩
 ·obtain⟨_,o,ho,hc⟩:=hr g e;unfold ng;rw[ho];cases o<;>simp_all [Obj.isCells,Ge]
 ·exact aK hBw h2.size
 ·have h4:=h3.2 k o hk2 ho hb ht;rw[hg.block k (Array.getElem?_eq_some_iff.1 h4).1 (fun e=>by have:=(hr k e.symm).1;omega)];exact h4
theorem Bx{F:Fence}{n:Nat}{P:Program}{α:Type}(d:Tmp){g:Operand}{ps:Array Tmp}{assign body:Code}{Q:Exit->Act->World->Prop}{a:Act}{w:World}
 (hro:F.round=none) (h1:1<=n) {gf:Nat} {lb:Array Value} (hg:a.eval g=.func (.func gf) #[] lb) (hFg:F.fn gf) (eg:∀args w,(callFunc gf args).run P w=.ok (.enter gf args) w)
 {encs:α->Array Value} {Kp:World->World->Prop} {S Sp:List α->Prop} {N:Nat} {w0:World} (hseq:SeqStopsK F (n-1) P gf lb encs Kp S Sp N w0)
 (hKt:∀{A B C:World},Kp A B->Kp B C->Kp A C) (hKb:∀(W:World) (l:Nat) (o o':Obj),w.heap.size<=l->W.heap[l]?=some o->o.isCells=false->o.isWalk=false->Kp W (W.putObj l o')) (hb0:Below w0.heap.size w0 w) (hps:∀x,(encs x).size=ps.size)
 (I:List α->World->Prop) (Ix:Code->List α->World->Prop) (hI:OwnFrom w.heap.size I) (hIx:∀c,OwnFrom w.heap.size (Ix c)) (h0:I [] w)
 (hassign:∀(l:Nat) (x:α) (W:World) (K:Act->World->Prop),K {tmps:=((ps.zip (encs x)).foldl (fun t (p,v)=>t.setIfInBounds p v) a.tmps).setIfInBounds d ((encs x).getD 1 undef),defers:=[]} W->
  assign.wpIn (F.inRound l) (n-1-1) P (Exit.then K (fun _ _ _=>False)) {tmps:=(ps.zip (encs x)).foldl (fun t (p,v)=>t.setIfInBounds p v) a.tmps,defers:=[]} W)
 (hbody:∀(l:Nat) (pre:List α) (x:α) (W:World),I pre W->pre.length<N->body.wpIn (F.inRound l) (n-1-1) P (ownPostG w.heap.size Kp I Ix (pre++[x]) W) {tmps:=((ps.zip (encs x)).foldl (fun t (p,v)=>t.setIfInBounds p v) a.tmps).setIfInBounds d ((encs x).getD 1 undef),defers:=[]} W)
 (hdone:∀(D:Nat) (xs:List α) (W:World),w.heap.size<=D->S xs->I xs W->W.heap[D]?=some (.deferred (some []))->Q .normal {a with defers:={target:=.collected D,args:=#[]}::a.defers} W)
 (hstop:∀(D:Nat) (c:Code) (pre:List α) (W:World),w.heap.size<=D->Sp pre->Ix c pre W->W.heap[D]?=some (.deferred (some []))->c.wpIn F n P Q {a with defers:={target:=.collected D,args:=#[]}::a.defers} W):
 (Code.rangeFunc g ps assign body).wpIn F n P Q a w:=
 wpIn_rangeFunc_ownG hro h1 hg hFg eg hseq (fun h k=>hKt h k) hKb hb0 hps I Ix hI hIx h0 (fun x=>{tmps:=((ps.zip (encs x)).foldl (fun t (p,v)=>t.setIfInBounds p v) a.tmps).setIfInBounds d ((encs x).getD 1 undef),defers:=[]}) hassign hbody hdone hstop
end
end Go.Proofs.YtcdgfajdlaeodaaGreatDoor
