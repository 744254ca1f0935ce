/- Part 7 of the proof: contracts of functions, and plain laws. -/
import Derived.Test.YtcdgfajdlaeodaaGreatDoorS6
set_option maxRecDepth 100000
set_option maxHeartbeats 4000000
namespace Go.Proofs.YtcdgfajdlaeodaaGreatDoor
section
open Go.RowKit Go.Maps Go.WideMaps
attribute [local go_sem] am aq
attribute [local go_sem] Oper.semAt_some
theorem KB.of{n₀ n1 b:Nat}{X Y:World}(h:BK n₀ b X Y):KB n₀ n1 b X Y:=⟨h.1,fun k o _ ho hb ht=>h.2 k o ho (fun e=>hb (az e)) ht⟩
theorem BK.from'{B b n:Nat}{X Y:World}(h:BK B b X Y)(hb:b<n):KeepsFrom n X Y:=⟨h.1.size,fun k o hk ho hc=>h.2 k o ho (fun e=>by have:=az e;omega) (fun c fz e=>by subst e;cases hc)⟩
theorem zm{F:Fence}{n:Nat}{P:Program}{α:Type}(d p0 p1:Tmp){g:Operand}{assign body:Code}{Q:Exit->Act->World->Prop}{a:Act}{w:World}
 (hro:F.round=none) (h1:1<=n) {gf:Nat} {lb:Array Value} (hg:a.eval g=.func (.func gf) #[] lb) (hFg:F.fn gf) (eg:∀args w,(callFunc gf args).run P w=.ok (.enter gf args) w)
 {e0 e1:α->Value} {Kp:World->World->Prop} {S Sp:List α->Prop} {N:Nat} {w0:World} (hseq:SeqStopsK F (n-1) P gf lb (fun x=>#[e0 x,e1 x]) Kp S Sp N w0)
 (hKt:∀{A B C:World},Kp A B->Kp B C->Kp A C) (hKb:∀(W:World) (l:Nat) (o o':Obj),w.heap.size<=l->W.heap[l]?=some o->o.isCells=false->o.isWalk=false->Kp W (W.putObj l o')) (hb0:Below w0.heap.size w0 w)
 (I:List α->World->Prop) (Ix:Code->List α->World->Prop) (hI:OwnFrom w.heap.size I) (hIx:∀c,OwnFrom w.heap.size (Ix c)) (h0:I [] w)
 (hassign:∀(l:Nat) (x:α) (W:World) (K:Act->World->Prop),K {tmps:=((a.tmps.setIfInBounds p0 (e0 x)).setIfInBounds p1 (e1 x)).setIfInBounds d (e1 x),defers:=[]} W->
  assign.wpIn (F.inRound l) (n-1-1) P (Exit.then K (fun _ _ _=>False)) {tmps:=(a.tmps.setIfInBounds p0 (e0 x)).setIfInBounds p1 (e1 x),defers:=[]} W)
 (hbody:∀(l:Nat) (pre:List α) (x:α) (W:World),I pre W->pre.length<N->body.wpIn (F.inRound l) (n-1-1) P (ownPostG w.heap.size Kp I Ix (pre++[x]) W) {tmps:=((a.tmps.setIfInBounds p0 (e0 x)).setIfInBounds p1 (e1 x)).setIfInBounds d (e1 x),defers:=[]} W)
 (hdone:∀(D:Nat) (xs:List α) (W:World),w.heap.size<=D->S xs->I xs W->W.heap[D]?=some (.deferred (some []))->Q .normal {a with defers:={target:=.collected D,args:=#[]}::a.defers} W)
 (hstop:∀(D:Nat) (c:Code) (pre:List α) (W:World),w.heap.size<=D->Sp pre->Ix c pre W->W.heap[D]?=some (.deferred (some []))->c.wpIn F n P Q {a with defers:={target:=.collected D,args:=#[]}::a.defers} W):
 (Code.rangeFunc g #[p0,p1] assign body).wpIn F n P Q a w:=by
 have hz:∀x,((#[p0,p1].zip #[e0 x,e1 x]).foldl (fun t (p,v)=>t.setIfInBounds p v) a.tmps)=(a.tmps.setIfInBounds p0 (e0 x)).setIfInBounds p1 (e1 x):=fun x=>by simp
 have hd:∀x,(#[e0 x,e1 x]:Array Value).getD 1 undef=e1 x:=fun x=>rfl
 refine Bx d hro h1 hg hFg eg hseq (fun h k=>hKt h k) hKb hb0 (fun _=>rfl) I Ix hI hIx h0 ?_ ?_ hdone hstop
 ·intro l x W K hK;rw[hz,hd] at hK;rw[hz];exact hassign l x W K hK
 ·intro l pre x W h1 h2;rw[hz,hd];exact hbody l pre x W h1 h2
theorem lR(B b:Nat)(l:List UInt8)(w:World)(h:bU B b l w)(hBw:B<=w.heap.size):
 Calls Tryz.prog 41 #[.pointer (some ⟨b,0,none⟩)] w fun e w'=>e=.returned (.string (bs l))/\bU B b l w'/\BK B b w w':=Any.Builder_String_any_k Tryz.lays169 Tryz.Builder_Extra_169 B b l w h hBw
theorem yg:∀(l:List Nat) (a:Nat),(n7 a l).length<=10*l.length
 |[],_=>Nat.zero_le _
 |b::l,a=>by
  have h1:=yg l b;have h2:=(Num.small_len (b-a)).2;rw[n7,aG,cY];omega
theorem Df(S:List (Lb×Nat))(y:Lb):(cC S y).length<=S.length:=by
 unfold cC;rw[List.length_map];exact List.length_filter_le _ _
theorem wG(S:List (Lb×Nat))(y:Lb):(iU S y).length<=10+10*S.length:=by
 have h1:=yg (cC S y) 0;have h2:=(Num.small_len (cC S y).length).2;have h3:=Df S y;unfold iU;rw[aG];omega
theorem yd{α β:Type}(f:α->List β)(c:Nat):∀(l:List α),(∀x∈l,(f x).length<=c)->(l.flatMap f).length<=l.length*c
 |[],_=>Nat.zero_le _
 |x::l,h=>by
  have h1:=yd f c l (fun y hy=>h y (List.mem_cons_of_mem _ hy));have h2:=h x List.mem_cons_self;rw[List.flatMap_cons,aG,cY,Nat.add_mul];omega
theorem EH(E:List En)(v:Value)(w:World)(h:dR w v E)(hr:∀x∈E,dG x=true)(hE:E.length<=20):
 Calls Tryz.prog 112 #[v,.int .i64 3] w fun e w'=>e=.returned (.string (bs (re E 3)))/\Below w.heap.size w w':=by
 have hmm:=@run_makeMap Tryz.prog
 have h6:∀x∈E,x.labels.length<=6:=fun x hx=>(ib (hr x hx)).1
 have hT:(ci E).length<=1048576:=by have:=pG E h6;omega
 have hSl:=xd h6 hE
 have HSb:=af (show ∀s∈gp E,s.length<=48 from fun s hs=>mb hr s ((jp E s).1 hs))
 have HHL:=af (tX 3 E hr hE)
 have HND:=af (sR E)
 have HMEM:=af (fun x (hx:x∈E) y (hy:y∈x.labels)=>(show y.1∈gp E/\y.2∈gp E from⟨(jp E _).2 (mM hx hy).1,(jp E _).2 (mM hx hy).2⟩))
 have HRT:=af hr
 have HH:=af (show nx E 3=Num.small (gp E).length++(kD 3 [] (gp E)++(Num.small E.length++df 3 (gp E) aR E)) from rfl)
 have HMO:=af (show re E 3=nx E 3++vN E from rfl)
 have B0:=bU.fresh w
 have b0:=ai w (.cells #[.pointer none,.slice none 0 0] 84)
 have qs:=af (pB E v _ (h.below b0) hT)
 rw[aW] at qs
 have H:=af h
 obtain⟨a,c,rfl,hnil,hl,hlc,hx⟩:=h
 have HX:=af hx
 clear hx h6 hT hr
 generalize gp E=SY at*
 generalize hHD:nx E 3=HEAD at*
 clear hHD
 refine(callsIn_wide (n:=8)).1 (callsIn_of_wp_marks (n:=8) Tryz.func112 rfl trivial (wpIn_wide.2 ?_) rfl)
 simp only[Tryz.ntmps112,List.size_toArray,cY,List.length_nil,Nat.reduceAdd,Nat.reduceSub,Array.replicate_succ,Array.replicate_zero,List.push_toArray,List.append_toArray,List.nil_append,List.cons_append]
 go_wp2_with fail
 refine qs.out.mono ?_
 rintro e w1 ⟨sv,rfl,hrow,hb1⟩
 have BA:=b0.trans (hb1.mono (by simp))
 have BB:=B0.below (hb1.mono (by simp))
 have hw1:w.heap.size+1<=w1.heap.size:=by have:=hb1.size;rwa[aW] at this
 have m0:(w1.alloc (.map #[] 0)).ownsMap Tryz.prog 9 ju w1.heap.size 0 (.map []):=World.ownsMap_made w1 Tryz.prog 9 ju
 have M0:mY (w1.alloc (.map #[] 0)) w.heap.size w1.heap.size [] SY sv (.map []) 0:=⟨BB.below (ai _ _),World.ownsRow.alloc hrow _,m0,by omega,by simp;omega⟩
 have BM:=BA.trans ((ai w1 (.map #[] 0)).mono BA.size)
 generalize hm:w1.heap.size=m at*
 obtain⟨sa,sc,rfl⟩:=aH hrow
 have q1:=af (fun W=>cM (SY.length:Int) W)
 have hu:aS (SY.length:Int)=SY.length:=by unfold aS;omega
 rw[hu] at q1
 have t1:=(Num.small_len SY.length).2
 have q2:=af (fun W (hW:mY W w.heap.size m [] SY (.slice sa SY.length sc) (.map []) 0)=>cS w.heap.size w.heap.size [] (Num.small SY.length) W hW.bld (by simp;omega) (by have:=hW.lo.2;omega))
 generalize hn1:Num.small SY.length=n1 at*
 clear qs hrow hb1 b0 B0 BA BB m0 hu hn1
 go_wp2_with fail
 refine(q1.out _).mono ?_
 rintro e w2 ⟨rfl,hb2⟩
 have M1:=M0.below hb2
 have B1:=ay BM hb2
 clear M0 BM hb2 q1
 go_wp2_with fail
 refine(q2.out _ M1).mono ?_
 rintro e w3 ⟨rfl,hB3,hk3⟩
 have M2:=M1.write hB3 hk3
 have B2:=B1.trans hk3.1
 have HA0:=af (show ([]++n1)++(kD 3 [] (SY.drop 0)++(Num.small E.length++df 3 SY aR E))=HEAD by rw[HH.out,List.nil_append];rfl)
 generalize ([]++n1:List UInt8)=A0 at*
 clear q2 M1 B1 hB3 hk3 hm hw1 HH
 go_wp2_with fail
 go_loopw [31,8] (fun vi vl wr=>∃(i n:Nat) (last A:List UInt8) (D:DataW Unit),i<=SY.length/\vi=.int .i64 (i:Int)/\vl=.string (bs last)/\last.length<=48/\n<=i/\mY wr w.heap.size m A SY (.slice sa SY.length sc) D n/\Hid (kw D (SY.take i))/\Below w.heap.size w wr/\Hid (A++(kD 3 last (SY.drop i)++(Num.small E.length++df 3 SY aR E))=HEAD)) (fun vi _ _=>SY.length-(intOf vi).toNat)
 case atStart=>exact⟨0,0,[],A0,_,Nat.zero_le _,rfl,rfl,Nat.zero_le _,aF _,M2,af nQ,B2,HA0⟩
 clear M2 B2 HA0
 obtain⟨i,n,last,A,D,hi,rfl,rfl,hll,hni,M,HK,hb,HA⟩:=hrel
 have hAl:A.length<=100000:=by
  have h1:=congrArg List.length HA.out;rw[aG] at h1;have:=HHL.out;omega
 rcases(show i<SY.length\/i=SY.length by omega) with hil|rfl
 ·obtain⟨g,gc,e1,hc⟩:=M.sym hil;obtain⟨rfl,_,rfl⟩:=Value.slice.inj e1;have hs48:=HSb.out SY[i] (dK hil);have HK2:=af (nR M.map.isMap HK.out (l:=SY[i]) (fun hm=>by
   obtain⟨j,hj,e⟩:=List.mem_iff_getElem.1 hm
   rw[List.getElem_take] at e
   have hj':j<i:=by rw[dp] at hj;omega
   exact(List.pairwise_iff_getElem.1 (show SY.Pairwise (fun a b=>a≠b) from HND.out) j i (by omega) hil hj') e))
  rw[<-eM hil,dp,Nat.min_eq_left (show i<=SY.length by omega)] at HK2;have hkey:keyOf Tryz.prog 9 (.string (bs SY[i]))=some (.string SY[i]):=keyOf_string_mk Tryz.underlying9 (by rw[aq];unfold maxLen;omega);have HMP:=af M.map;have HAT:kD 3 last (SY.drop i)=(if (3:Int)=3 then Num.small (bP last SY[i])++Num.text (SY[i].drop (bP last SY[i])) else Num.text SY[i])++kD 3 SY[i] (SY.drop (i+1)):=by rw[List.drop_eq_getElem_cons hil,kD]
  rw[HAT] at HA;clear HAT e1 HK;generalize SY[i]=s at*;have HM:=af (fun W5 (hown:W5.ownsMap Tryz.prog 9 ju m (n+1) (D.put (.string s) (.lit (.int .i64 (i:Nat))))) (hg:wr.grownBy W5 (some m))=>M.put hown hg);have HB:=af (fun W5 (hg:wr.grownBy W5 (some m))=>hb.grown hg hb.size (fun k e=>by have:=az e;have:=M.lo.1;omega));rw[if_pos rfl] at HA;obtain⟨cl1,cl2,_⟩:=pW last s;have qc:=af (fun W=>CC last s W (by omega));have qn:=af (fun W=>cM ((bP last s:Nat):Int) W);have hu:aS ((bP last s:Nat):Int)=bP last s:=by unfold aS;omega
  rw[hu] at qn;have hx0:(bs s).extract (bP last s) s.length=bs (s.drop (bP last s)):=by rw[bZ,List.take_of_length_le (by simp)]
  have q1:=af (fun W=>ee (s.drop (bP last s)) W (by rw[List.length_drop];omega));have t1:(Num.text (s.drop (bP last s))).length<=100:=by rw[Num.text_len,List.length_drop];have:=(Num.small_len (s.length-bP last s)).2;omega
  have t2:=(Num.small_len (bP last s)).2;have HA2:=af (show ((A++Num.small (bP last s))++Num.text (s.drop (bP last s)))++(kD 3 s (SY.drop (i+1))++(Num.small E.length++df 3 SY aR E))=HEAD by rw[<-HA.out];simp[List.append_assoc]);generalize Num.text (s.drop (bP last s))=ts at*;generalize Num.small (bP last s)=tn at*;generalize hsd:s.drop (bP last s)=sd at*;generalize bP last s=cm at*;have hz:=aq s;have qA:=af (fun W D n (hW:mY W w.heap.size m A SY (.slice (some ⟨g,0,none⟩) SY.length sc) D n)=>cS w.heap.size w.heap.size A tn W hW.bld (by omega) (by have:=hW.lo.2;omega));have q2:=af (fun W D n (hW:mY W w.heap.size m (A++tn) SY (.slice (some ⟨g,0,none⟩) SY.length sc) D n)=>cS w.heap.size w.heap.size (A++tn) ts W hW.bld (by rw[aG];omega) (by have:=hW.lo.2;omega));clear HA M hb hsd;go_wp2_with (at_mapUpdate;refine wpList_mapUpdate_own _ rfl _ _ _ 171 rfl 9 3 (string_keyed Tryz.underlying9) Tryz.underlying171 ju m n D rfl HMP.out (by unfold maxLen;omega) _ _ _ rfl rfl hkey (.lit (.int .i64 (i:Int))) [] rfl ?_;intro w5 hown5 hgrow5;have M5:=HM.out w5 hown5 hgrow5;have b5:=HB.out w5 hgrow5;clear hown5 hgrow5 HM HB HMP)
  refine(qc.out _).mono ?_;rintro e w6 ⟨rfl,hb6⟩;have M6:=M5.below hb6;have b6:=ay b5 hb6;clear M5 b5 hb6;go_wp2_with fail
  refine(qn.out _).mono ?_;rintro e w7 ⟨rfl,hb7⟩;have M7:=M6.below hb7;have b7:=ay b6 hb7;clear M6 b6 hb7;go_wp2_with fail
  refine(qA.out _ _ _ M7).mono ?_;rintro e w8 ⟨rfl,hB8,hk8⟩;have M8:=M7.write hB8 hk8;have b8:=b7.trans hk8.1;clear M7 b7 hB8 hk8;go_wp2_with fail
  refine(q1.out _).mono ?_;rintro e w9 ⟨rfl,hb9⟩;have M9:=M8.below hb9;have b9:=ay b8 hb9;clear M8 b8 hb9;go_wp2_with fail
  refine(q2.out _ _ _ M9).mono ?_;rintro e w7 ⟨rfl,hB7,hk7⟩;have M7:=M9.write hB7 hk7;have b7:=b9.trans hk7.1;clear M9 b9 hB7 hk7;go_wp2_with fail
  go_roundw
  case rel=>exact⟨i+1,n+1,s,(A++tn)++ts,_,by omega,by go_num,rfl,hs48,by omega,M7,HK2,b7,HA2⟩
  case measure=>simp[intOf];omega
 ·rw[List.drop_length,show kD 3 last []=[] from rfl,List.nil_append] at HA;rw[List.take_length] at HK;have q1:=af (fun W=>cM (E.length:Int) W);have hu:aS (E.length:Int)=E.length:=by unfold aS;omega
  rw[hu] at q1;have t1:=(Num.small_len E.length).2;have HA1:=af (show (A++Num.small E.length)++df 3 SY aR (E.drop 0)=HEAD by rw[<-HA.out];simp[List.append_assoc]);generalize Num.small E.length=ne at*;have q2:=af (fun W (hW:mY W w.heap.size m A SY (.slice sa SY.length sc) D n)=>cS w.heap.size w.heap.size A ne W hW.bld (by omega) (by have:=hW.lo.2;omega));clear HA hu;go_wp2_with fail
  refine(q1.out _).mono ?_;rintro e w2 ⟨rfl,hb2⟩;have M1:=M.below hb2;have b1:=ay hb hb2;clear M hb hb2 q1;go_wp2_with fail
  refine(q2.out _ M1).mono ?_;rintro e w3 ⟨rfl,hB3,hk3⟩;have M2:=(M1.write hB3 hk3).below (ai w3 (.cells #[.slice none 0 0,.int .i64 0,.int .i64 0,.int .i64 0] 92));have b2:=b1.trans hk3.1;have b3:=b2.alloc b2.size (.cells #[.slice none 0 0,.int .i64 0,.int .i64 0,.int .i64 0] 92);have kH:=ag.new w3 92 #[.slice none 0 0,.int .i64 0,.int .i64 0,.int .i64 0];have hwH:w.heap.size<w3.heap.size:=(M1.write hB3 hk3).lo.2;clear M1 b1 hB3 hk3 q2 b2;generalize hH:w3.heap.size=AH at*;go_wp2_with fail
  go_loopw [60] (fun vi wr=>∃(i:Nat) (A:List UInt8) (ah:En) (av:Value),i<=E.length/\vi=.int .i64 (i:Int)/\mY wr w.heap.size m A SY (.slice sa SY.length sc) D n/\ag wr AH 92 #[av,.int .i64 ah.last,.int .i64 ah.off,.int .i64 ah.len]/\BN ah/\Below w.heap.size w wr/\Hid (A++df 3 SY ah (E.drop i)=HEAD)) (fun vi _=>E.length-(intOf vi).toNat)
  case atStart=>exact⟨0,_,aR,_,Nat.zero_le _,rfl,M2,kH,⟨by simp[aR],by simp[aR],by simp[aR],by simp[aR],by simp[aR],by simp[aR]⟩,b3,HA1⟩
  clear M2 kH b3 HA1 hH hAl;obtain⟨i,A,ah,av,hi,rfl,M,kH,hah,hb,HA⟩:=hrel;have hAl:A.length<=100000:=by
   have h1:=congrArg List.length HA.out;rw[aG] at h1;have:=HHL.out;omega
  rcases(show i<E.length\/i=E.length by omega) with hil|rfl
  ·obtain⟨hok,b,o,rfl,a',c',d0,hL,d1,d2,d3⟩:=HX.out i E[i] (aV hil);have e0:=cu hb d0;have e1:=cu hb d1;have e2:=cu hb d2;have e3:=cu hb d3;have hrx:=HRT.out E[i] (dK hil);obtain⟨hl6,hl48⟩:=ib hrx;have hnx:=tq hrx;have HSY:=af (fun y (hy:y∈E[i].labels)=>HMEM.out _ (dK hil) y hy);have HAT:df 3 SY ah (E.drop i)=wv 3 SY ah E[i]++df 3 SY E[i] (E.drop (i+1)):=by rw[List.drop_eq_getElem_cons hil,df]
   rw[HAT] at HA;clear HAT hrx hok d0 d1 d2 d3;generalize E[i]=x at*;have HE2:wv 3 SY ah x=Num.small x.labels.length++(x.labels.flatMap (kL SY)++iA 3 ah x):=rfl;rw[HE2] at HA;generalize hR2:df 3 SY x (E.drop (i+1))=R2 at*;have HR2:=af hR2;clear HE2 hR2;have q1:=af (fun W=>cM (x.labels.length:Int) W);have hu:aS (x.labels.length:Int)=x.labels.length:=by unfold aS;omega
   rw[hu] at q1;have t1:=(Num.small_len x.labels.length).2;have HA1:=af (show (A++Num.small x.labels.length)++(((x.labels.drop 0).flatMap (kL SY)++iA 3 ah x)++R2)=HEAD by rw[<-HA.out];simp[List.append_assoc]);generalize Num.small x.labels.length=nl at*;have q2:=af (fun W (hW:mY W w.heap.size m A SY (.slice sa SY.length sc) D n)=>cS w.heap.size w.heap.size A nl W hW.bld (by omega) (by have:=hW.lo.2;omega));have bX:=ai wr (.cells #[.slice a' x.labels.length c',.int .i64 x.last,.int .i64 x.off,.int .i64 x.len] 92);have kX:=ag.new wr 92 #[.slice a' x.labels.length c',.int .i64 x.last,.int .i64 x.off,.int .i64 x.len];have MX:=M.below bX;have kHX:=kH.below bX kH.lt;have b1:=ay hb bX;have hXH:wr.heap.size≠AH:=by have:=kH.lt;omega
   have hXB:w.heap.size<wr.heap.size:=M.lo.2;clear HA hu M hb bX kH;obtain⟨⟨c0,c1,c2,c3⟩,_⟩:=dt kX;go_wp2_with fail
   refine(q1.out _).mono ?_;rintro e w2 ⟨rfl,hb2⟩;have M1:=MX.below hb2;have b2:=ay b1 hb2;have kX2:=kX.below hb2 kX.lt;have kH2:=kHX.below hb2 kHX.lt;clear MX b1 hb2 q1 kX kHX c0 c1 c2 c3;generalize wr.heap.size=XB at*;obtain⟨⟨c0,c1,c2,c3⟩,_⟩:=dt kX2;go_wp2_with fail
   refine(q2.out _ M1).mono ?_;rintro e w3 ⟨rfl,hB3,hk3⟩;have M2:=M1.write hB3 hk3;have b3:=b2.trans hk3.1;have kX3:=hk3.blk kX2 (by omega) (by decide);have kH3:=hk3.blk kH2 (by omega) (by decide);clear M1 b2 hB3 hk3 q2 kX2 kH2 c0 c1 c2 c3 hAl;obtain⟨⟨c0,c1,c2,c3⟩,_⟩:=dt kX3;go_wp2_with fail
   go_loopw [72] (fun vk wq=>∃(k:Nat) (A:List UInt8),k<=x.labels.length/\vk=.int .i64 (k:Int)/\mY wq w.heap.size m A SY (.slice sa SY.length sc) D n/\ag wq AH 92 #[av,.int .i64 ah.last,.int .i64 ah.off,.int .i64 ah.len]/\ag wq XB 92 #[.slice a' x.labels.length c',.int .i64 x.last,.int .i64 x.off,.int .i64 x.len]/\Below w.heap.size w wq/\Hid (A++(((x.labels.drop k).flatMap (kL SY)++iA 3 ah x)++R2)=HEAD)) (fun vk _=>x.labels.length-(intOf vk).toNat)
   case atStart=>exact⟨0,_,Nat.zero_le _,rfl,M2,kH3,kX3,b3,HA1⟩
   clear M2 kH3 kX3 b3 HA1 c0 c1 c2 c3;obtain⟨k,A,hk,rfl,M,kH,kX,hb,HA⟩:=hrel;have hAl:A.length<=100000:=by
    have h1:=congrArg List.length HA.out;rw[aG] at h1;have:=HHL.out;omega
   rcases(show k<x.labels.length\/k=x.labels.length by omega) with hkl|rfl
   ·obtain⟨_,_,eL,_,hLx⟩:=id hL;obtain⟨rfl,_,rfl⟩:=Value.slice.inj eL;obtain⟨_,_,b3,o3,rfl,g0,g1⟩:=hLx k x.labels[k] (aV hkl);have x0:=cu hb g0;have x1:=cu hb g1;have hmem:=HSY.out _ (dK hkl);have h48:=hl48 _ (dK hkl);rw[List.drop_eq_getElem_cons hkl,List.flatMap_cons] at HA;clear g0 g1 hLx eL;generalize x.labels[k]=y at*;have bY:=ai wr (.cells #[.string (bs y.1),.string (bs y.2)] 73);have kY:=ag.new wr 73 #[.string (bs y.1),.string (bs y.2)];have MY:=M.below bY;have z0:=aj (ax kY 0 (.string (bs y.1)) rfl);have z1:=aj (ax kY 1 (.string (bs y.2)) rfl);have HL1:=af (MY.look HK.out hmem.1 (by omega));have HL2:=af (MY.look HK.out hmem.2 (by omega));have hp1:=(oK hmem.1).1;have hp2:=(oK hmem.2).1;have q1:=af (fun W=>cM ((cz SY y.1:Nat):Int) W);have q2:=af (fun W=>cM ((cz SY y.2:Nat):Int) W);have hu1:aS ((cz SY y.1:Nat):Int)=cz SY y.1:=by unfold aS;omega
    have hu2:aS ((cz SY y.2:Nat):Int)=cz SY y.2:=by unfold aS;omega
    rw[hu1] at q1;rw[hu2] at q2;have t1:=(Num.small_len (cz SY y.1)).2;have t2:=(Num.small_len (cz SY y.2)).2;have hl2:kL SY y=Num.small (cz SY y.1)++Num.small (cz SY y.2):=rfl;rw[hl2] at HA;generalize Num.small (cz SY y.1)=y1 at*;generalize Num.small (cz SY y.2)=y2 at*;generalize cz SY y.1=p1 at*;generalize cz SY y.2=p2 at*;have hadd:∀W,(Op.stringOp .add (bs y1) (bs y2)).run Tryz.prog W=.ok (.string (bs (y1++y2))) W:=fun W=>aJ (P:=Tryz.prog) y1 y2 (by omega) W;have HA2:=af (show (A++(y1++y2))++(((x.labels.drop (k+1)).flatMap (kL SY)++iA 3 ah x)++R2)=HEAD by rw[<-HA.out];simp[List.append_assoc]);have qw:=af (fun W (hW:mY W w.heap.size m A SY (.slice sa SY.length sc) D n)=>cS w.heap.size w.heap.size A (y1++y2) W hW.bld (by rw[aG];omega) (by have:=hW.lo.2;omega));have HMY:=af MY;have HkH:=af (kH.below bY kH.lt);have HkX:=af (kX.below bY kX.lt);have Hb2:=af (ay hb bY);clear HA hl2 hu1 hu2 hmem h48 kY MY M kH kX bY hb;go_wp2_with fail
    refine l6 ?_;iterate 3 (refine bJ fun K hK=>?_;go_big_quiet_step (fail);refine hK _ ?_;clear hK K)
    (refine nw (v:=.int .i64 (p1:Int)) (fun W hW=>by have hl:=HL1.out W hW;go_simp) fun K hK=>?_;go_big_quiet_step (fail);refine hK _ ?_;clear hK K)
    (refine fS (f:=179) (args:=#[.int .i64 (p1:Int)]) (v:=.string (bs y1)) (fun W hW=>q1.out W) fun K hK=>?_;go_big_quiet_step (fail);refine hK _ ?_;clear hK K);iterate 3 (refine bJ fun K hK=>?_;go_big_quiet_step (fail);refine hK _ ?_;clear hK K)
    (refine nw (v:=.int .i64 (p2:Int)) (fun W hW=>by have hl:=HL2.out W hW;go_simp) fun K hK=>?_;go_big_quiet_step (fail);refine hK _ ?_;clear hK K)
    (refine fS (f:=179) (args:=#[.int .i64 (p2:Int)]) (v:=.string (bs y2)) (fun W hW=>q2.out W) fun K hK=>?_;go_big_quiet_step (fail);refine hK _ ?_;clear hK K)
    (refine bJ fun K hK=>?_;go_big_quiet_step (fail);refine hK _ ?_;clear hK K);refine eR ?_;intro w5 hb5;simp only[aB];have b5:=Hb2.out.trans (Below.mono hb5 Hb2.out.size);have M5:=HMY.out.below hb5;have kH5:=ag.below HkH.out hb5 HkH.out.lt;have kX5:=ag.below HkX.out hb5 HkX.out.lt;clear z0 z1 HMY HkH HkX Hb2 HL1 HL2;go_wp2_with fail
    refine(qw.out _ M5).mono ?_;rintro e w6 ⟨rfl,hB6,hk6⟩;have M6:=M5.write hB6 hk6;go_wp2_with fail
    go_roundw
    case rel=>exact⟨k+1,_,by omega,by go_num,M6,hk6.blk kH5 (by omega) (by decide),hk6.blk kX5 (by omega) (by decide),b5.trans hk6.1,HA2⟩
    case measure=>simp[intOf];omega
   ·rw[List.drop_length,List.flatMap_nil,List.nil_append] at HA;obtain⟨n1,n2,n3,n4,n5,n6⟩:=hnx;obtain⟨h1,h2,h3,h4,h5,h6⟩:=hah;obtain⟨⟨c0,c1,c2,c3⟩,_⟩:=dt kX;obtain⟨⟨d0,d1,d2,d3⟩,f0,f1,f2,f3⟩:=dt kH;have g1:=aj c1;have g2:=aj c2;have g3:=aj c3;have j1:=aj d1;have j2:=aj d2;have j3:=aj d3;have z1:=Num.zig_bd (x.last-ah.last) (by omega) (by omega);have z2:=Num.zig_bd (x.off-ah.off-ah.len) (by omega) (by omega);have qz1:=af (fun W=>(gN (x.last-ah.last) W (by omega) (by omega)).mono fun e w' (h:e=.returned (.int .u64 (Num.zigI (x.last-ah.last)))/\W=w')=>(⟨h.1,h.2▸bR⟩:e=.returned (.int .u64 (Num.zigI (x.last-ah.last)))/\co W w'));have qz2:=af (fun W=>(gN (x.off-ah.off-ah.len) W (by omega) (by omega)).mono fun e w' (h:e=.returned (.int .u64 (Num.zigI (x.off-ah.off-ah.len)))/\W=w')=>(⟨h.1,h.2▸bR⟩:e=.returned (.int .u64 (Num.zigI (x.off-ah.off-ah.len)))/\co W w'));have q1:=af (fun W=>aT (Num.zigI (x.last-ah.last)) W z1.1 z1.2);have q2:=af (fun W=>aT (Num.zigI (x.off-ah.off-ah.len)) W z2.1 z2.2);have q3:=af (fun W=>cM x.len W);have ht2:iA 3 ah x=(Num.small (Num.zigI (x.last-ah.last)).toNat++Num.small (Num.zigI (x.off-ah.off-ah.len)).toNat)++Num.small (aS x.len):=rfl;rw[ht2] at HA;have t1:=(Num.small_len (Num.zigI (x.last-ah.last)).toNat).2;have t2:=(Num.small_len (Num.zigI (x.off-ah.off-ah.len)).toNat).2;have t3:=(Num.small_len (aS x.len)).2;have w1':IntKind.i64.wrap (x.last-ah.last)=x.last-ah.last:=ct _ (by omega);have w2':IntKind.i64.wrap (x.off-ah.off)=x.off-ah.off:=ct _ (by omega);have w3':IntKind.i64.wrap (x.off-ah.off-ah.len)=x.off-ah.off-ah.len:=ct _ (by omega);generalize Num.small (Num.zigI (x.last-ah.last)).toNat=y1 at*;generalize Num.small (Num.zigI (x.off-ah.off-ah.len)).toNat=y2 at*;generalize Num.small (aS x.len)=y3 at*;generalize Num.zigI (x.last-ah.last)=p1 at*;generalize Num.zigI (x.off-ah.off-ah.len)=p2 at*;have hadd1:∀W,(Op.stringOp .add (bs y1) (bs y2)).run Tryz.prog W=.ok (.string (bs (y1++y2))) W:=fun W=>aJ (P:=Tryz.prog) y1 y2 (by omega) W;have hadd2:∀W,(Op.stringOp .add (bs (y1++y2)) (bs y3)).run Tryz.prog W=.ok (.string (bs (y1++y2++y3))) W:=fun W=>aJ (P:=Tryz.prog) (y1++y2) y3 (by rw[aG];omega) W;have HA2:=af (show (A++(y1++y2++y3))++df 3 SY x (E.drop (i+1))=HEAD by rw[HR2.out,<-HA.out];simp[List.append_assoc]);have qw:=af (fun W (hW:mY W w.heap.size m A SY (.slice sa SY.length sc) D n)=>cS w.heap.size w.heap.size A (y1++y2++y3) W hW.bld (by rw[aG,aG];omega) (by have:=hW.lo.2;omega));generalize y1++y2++y3=z3 at*;generalize y1++y2=z2 at*;have HMY:=af M;have HkH:=af kH;have HkX:=af kX;have Hb2:=af hb;clear HA ht2 M kH kX hb c0 c1 c2 c3 d0 d1 d2 d3 f0 f1 f2 f3;go_wp2_with fail
    refine l6 ?_;iterate 5 (refine bJ fun K hK=>?_;go_big_quiet_step (fail);refine hK _ ?_;clear hK K)
    (refine fS (f:=181) (args:=#[.int .i64 (x.last-ah.last)]) (v:=.int .u64 p1) (fun W hW=>qz1.out W) fun K hK=>?_;go_big_quiet_step (fail);refine hK _ ?_;clear hK K)
    (refine fS (f:=32) (args:=#[.int .u64 p1]) (v:=.string (bs y1)) (fun W hW=>q1.out W) fun K hK=>?_;go_big_quiet_step (fail);refine hK _ ?_;clear hK K);iterate 8 (refine bJ fun K hK=>?_;go_big_quiet_step (fail);refine hK _ ?_;clear hK K)
    (refine fS (f:=181) (args:=#[.int .i64 (x.off-ah.off-ah.len)]) (v:=.int .u64 p2) (fun W hW=>qz2.out W) fun K hK=>?_;go_big_quiet_step (fail);refine hK _ ?_;clear hK K)
    (refine fS (f:=32) (args:=#[.int .u64 p2]) (v:=.string (bs y2)) (fun W hW=>q2.out W) fun K hK=>?_;go_big_quiet_step (fail);refine hK _ ?_;clear hK K);iterate 3 (refine bJ fun K hK=>?_;go_big_quiet_step (fail);refine hK _ ?_;clear hK K)
    (refine fS (f:=179) (args:=#[.int .i64 x.len]) (v:=.string (bs y3)) (fun W hW=>q3.out W) fun K hK=>?_;go_big_quiet_step (fail);refine hK _ ?_;clear hK K)
    (refine bJ fun K hK=>?_;go_big_quiet_step (fail);refine hK _ ?_;clear hK K);refine eR ?_;intro w5 hb5;simp only[aB];have b5:=Hb2.out.trans (Below.mono hb5 Hb2.out.size);have M5:=HMY.out.below hb5;have kH5:=ag.below HkH.out hb5 HkH.out.lt;have kX5:=ag.below HkX.out hb5 HkX.out.lt;clear g1 g2 g3 HMY HkH HkX Hb2;go_wp2_with fail
    refine(qw.out _ M5).mono ?_;rintro e w6 ⟨rfl,hB6,hk6⟩;have M6:=M5.write hB6 hk6;have kH6:=hk6.blk kH5 (by omega) (by decide);have kX6:=hk6.blk kX5 (by omega) (by decide);have b6:=b5.trans hk6.1;obtain⟨⟨c0,c1,c2,c3⟩,_⟩:=dt kX6;obtain⟨⟨d0,d1,d2,d3⟩,f0,f1,f2,f3⟩:=dt kH6;obtain⟨kH7,K7⟩:=Ji kH6 (.slice a' x.labels.length c') (.int .i64 x.last) (.int .i64 x.off) (.int .i64 x.len);have HkH7:=af kH7;have HK7:=af K7;have HM6:=af M6;have HtH:=af (aP kH6);clear M5 kH5 kX5 b5 hB6 hk6 qw kH7 K7 M6 kH6 kX6;go_wp2_with fail
    go_roundw
    case rel=>
     have ht:=HtH.out;have hM6:=HM6.out;refine⟨i+1,_,x,_,by omega,by go_num,⟨mE hM6.bld HK7.out (by omega) (fun g e=>by subst e;rw[ht];simp),aw hM6.row HK7.out (fun b e e2=>?_),eK hM6.map HK7.out (fun e=>?_),hM6.lo.1,dQ hM6.lo.2 HK7.out.size⟩,HkH7.out,⟨n1,n2,n3,n4,n5,n6⟩,b6.trans (HK7.out.below b6.size fun k e=>by omega),HA2⟩
     ·subst e2;rw[bg hM6.row e] at ht;simp at ht
     ·have h1:=jI hM6.map;rw[e,ht] at h1;simp at h1
    case measure=>simp[intOf];omega
  ·rw[List.drop_length,show df 3 SY ah []=[] from rfl,List.append_nil] at HA;obtain rfl:=HA.out;have hpr:=vQ E (fun x hx=>(ib (HRT.out x hx)).1);have hkl:=zT E;have QP:=af (vj E _ wr (H.out.below hb) (by omega));have hlo:=M.lo;have HMw:=af M;have HPO:=af (show vN E=(ic E).flatMap (iU (cJ E)) from rfl);have HOK:=af (JF H.out);have HSO:=af (zw E);clear M HX HRT HMEM HND HSb HK;go_wp2_with fail
   refine QP.out.mono ?_;rintro e w2 ⟨kv,D2,rfl,hp,hb2⟩;have B2:=ay hb hb2;have M2:=HMw.out.below hb2;clear QP HMw;generalize hB0:wr.heap.size=B0 at*;obtain⟨XS,hXS,hseq⟩:=zy 7 (by decide) w.heap.size B0 w.heap.size (cJ E) (ic E) kv D2 w2 hp hlo.2 B2.size HOK.out (by omega) (by unfold maxLen;omega);go_wp2_with fail
   refine(wpIn_wide (n:=8)).1 ?_;refine zm (α:=KZ w2 B0 (cJ E)) 18 133 134 rfl (by decide) (gf:=233) (lb:=#[.pointer (some ⟨B0+2,0,none⟩),.pointer (some ⟨B0+1,0,none⟩)]) rfl trivial (enters_of Tryz.func233 (by kernel_rfl) rfl)
    hseq KB.t (KB.b B2.size) (bR)
    (fun pre W=>bU w.heap.size w.heap.size (A++pre.flatMap (fun x=>iU (cJ E) x.1.1)) W/\Below w.heap.size w W/\KB w.heap.size w2.heap.size w.heap.size w2 W)
    (fun _ _ _=>False)
    (zB w.heap.size w2.heap.size (by have:=M2.lo.2;omega) B2.size _ (fun W=>True) w w2 (aF _))
    (fun _ _ _ _ _ hs _ _=>hs)
    ⟨by simpa using M2.bld,B2,KB.refl _ _ _ _⟩
    ?assign ?body ?done ?stop
   case assign=>
    intro l x W K hK;gi_wp2;first|exact hK|simpa using hK
   case body=>
    rintro l pre x W ⟨hBd,hBw,hKB⟩ hlt;have HPX:=af (show A++(pre++[x]).flatMap (fun x=>iU (cJ E) x.1.1)=(A++pre.flatMap (fun x=>iU (cJ E) x.1.1))++(Num.small (cC (cJ E) x.1.1).length++n7 0 (cC (cJ E) x.1.1)) by simp[List.append_assoc,iU]);have hpl:(pre.flatMap fun x=>iU (cJ E) x.1.1).length<=pre.length*1210:=yd _ _ _ (fun z _=>aK (wG _ _) (by omega));have hXl:XS.length=(ic E).length:=by rw[<-hXS,List.length_map]
    have hAA:(A++pre.flatMap (fun x=>iU (cJ E) x.1.1)).length<=300000:=by rw[aG];omega
    generalize pre++[x]=px at*;generalize A++pre.flatMap (fun x=>iU (cJ E) x.1.1)=AA at*;have hoi:=x.2.2;have hLs:=HSO.out x.1.1;have hLl:=Df (cJ E) x.1.1;have hLd:=yg (cC (cJ E) x.1.1) 0;generalize cC (cJ E) x.1.1=L at*;generalize x.1.2=pv at*;have hrow:=hoi.1;rw[ji] at hrow;obtain⟨va,vc,rfl⟩:=aH hrow;have HROW:=af hrow;have HKW:=af hKB;have HBW:=af hBw;clear hrow hoi hKB hBw;have q1:=af (fun W=>cM (L.length:Int) W);have hu:aS (L.length:Int)=L.length:=by unfold aS;omega
    rw[hu] at q1;have t1:=(Num.small_len L.length).2;have HA1:=af (show (AA++Num.small L.length)++n7 0 (L.drop 0)=AA++(Num.small L.length++n7 0 L) from List.append_assoc _ _ _);generalize hTT:AA++(Num.small L.length++n7 0 L)=TT at*;have hTl:TT.length<=400000:=by rw[<-hTT,aG,aG];omega
    generalize Num.small L.length=nl at*;have q2:=af (fun W (hW:bU w.heap.size w.heap.size AA W) (hs:w.heap.size<=W.heap.size)=>cS w.heap.size w.heap.size AA nl W hW (by omega) hs);have hWs:w.heap.size<=W.heap.size:=HBW.out.size;clear hu hTT hpl hXl;gi_wp2_with fail
    refine⟨trivial,?_⟩;refine(CallsIn.inRound l (callsIn_wide.2 (q1.out _))).mono ?_;rintro e w3 ⟨rfl,hb3⟩;have hBd3:=hBd.below hb3;have k3:=BK.of_below (b:=w.heap.size) hb3 hWs;have hs3:=aK hWs k3.1.size;clear hBd hb3 q1;gi_wp2_with fail
    refine⟨trivial,?_⟩;refine(CallsIn.inRound l (callsIn_wide.2 (q2.out _ hBd3 hs3))).mono ?_;rintro e w4 ⟨rfl,hBd4,k4⟩;have k5:=k3.trans k4;clear k3 k4 hBd3 q2 hs3;gi_wp2_with fail
    gi_loopw [141,19] (fun vi vf wr=>∃(k f:Nat) (A2:List UInt8),k<=L.length/\vi=.int .i64 (k:Int)/\vf=.int .i64 (f:Int)/\f<=E.length/\Hid (∀j,(h:j<L.length)->k<=j->f<=L[j])/\bU w.heap.size w.heap.size A2 wr/\BK w.heap.size w.heap.size W wr/\Hid (A2++n7 f (L.drop k)=TT)) (fun vi _ _=>L.length-(intOf vi).toNat)
    case atStart=>exact⟨0,0,_,Nat.zero_le _,rfl,rfl,Nat.zero_le _,af (fun _ _ _=>Nat.zero_le _),hBd4,k5,HA1⟩
    case round=>
     clear hBd4 k5 HA1;obtain⟨k,f,A2,hk,rfl,rfl,hfE,HF,hBd,hbk,HA2⟩:=hrel;have hA2l:A2.length<=400000:=by
      have h1:=congrArg List.length HA2.out;rw[aG] at h1;omega
     by_cases hlt2:k<L.length
     ·obtain⟨g,rfl⟩:∃g,va=some ⟨g,0,none⟩:=by
       rcases HROW.out.2 with⟨_,e⟩|⟨g,cap,cur,e,_⟩
       ·omega
       ·exact⟨g,(Value.slice.inj e).1⟩
      have hgb:=HROW.out.lt g rfl;have hrow:=(HKW.out.t (KB.of hbk)).row HROW.out (fun g' hg'=>by obtain rfl:=az hg';exact⟨hgb.2,by have h1:B0+1<=g:=hgb.1;show g≠w.heap.size;omega⟩) (by decide);have y0:=hrow.cells (g:=g) rfl k (.int .i64 (L[k]:Nat)) (by simp[jO,hlt2]);rw[kj] at y0;have hfk:=HF.out k hlt2 (aF _);have hLE:=hLs.2 L[k] (dK hlt2);have HF2:=af (fun j (h:j<L.length) (hkj:k+1<=j)=>List.pairwise_iff_getElem.1 hLs.1 k j hlt2 h (by omega));have hdr:n7 f (L.drop k)=Num.small (L[k]-f)++n7 L[k] (L.drop (k+1)):=by rw[List.drop_eq_getElem_cons hlt2,n7]
      rw[hdr] at HA2;clear hdr hrow;generalize L[k]=z at*;have hu:aS ((z:Int)-(f:Int))=z-f:=by unfold aS;omega
      have hw1:IntKind.i64.wrap ((z:Int)-(f:Int))=(z:Int)-(f:Int):=ct _ (by omega);have q1:=af (fun W=>cM ((z:Int)-(f:Int)) W);rw[hu] at q1;have t1:=(Num.small_len (z-f)).2;have HA3:=af (show (A2++Num.small (z-f))++n7 z (L.drop (k+1))=TT by rw[<-HA2.out,List.append_assoc]);generalize Num.small (z-f)=ns at*;have q2:=af (fun W (hW:bU w.heap.size w.heap.size A2 W) (hs:w.heap.size<=W.heap.size)=>cS w.heap.size w.heap.size A2 ns W hW (by omega) hs);have hrs:w.heap.size<=wr.heap.size:=aK hWs hbk.1.size;clear hu HA2 HF;gi_wp2_with fail
      refine⟨trivial,?_⟩;refine(CallsIn.inRound l (callsIn_wide.2 (q1.out _))).mono ?_;rintro e w3 ⟨rfl,hb3⟩;have hBd3:=hBd.below hb3;have k3:=hbk.trans (BK.of_below (b:=w.heap.size) hb3 hrs);have hs3:=aK hWs k3.1.size;clear hBd hb3 q1 hbk y0;gi_wp2_with fail
      refine⟨trivial,?_⟩;refine(CallsIn.inRound l (callsIn_wide.2 (q2.out _ hBd3 hs3))).mono ?_;rintro e w4 ⟨rfl,hBd4,k4⟩;have k5:=k3.trans k4;clear k3 k4 hBd3 q2 hs3;gi_wp2_with fail
      go_roundw
      case rel=>exact⟨k+1,z,_,by omega,by go_num,rfl,by omega,HF2,hBd4,k5,HA3⟩
      case measure=>simp[intOf];omega
     ·obtain rfl:k=L.length:=by omega
      rw[List.drop_length,show n7 f []=[] from rfl,List.append_nil] at HA2;obtain rfl:=HA2.out;gi_wp2_with fail
      have hkb:=HKW.out.t (KB.of hbk);exact⟨hbk.from' (by have:=M2.lo.2;omega),KB.of hbk,by rw[HPX.out];exact hBd,HBW.out.trans hbk.1,hkb⟩
   case done=>
    rintro D2 ys W hD rfl ⟨hBd,hBw,hKB⟩ hK;have hfm:ys.flatMap (fun x=>iU (cJ E) x.1.1)=vN E:=by
     rw[HPO.out,<-hXS,List.flatMap_map]
    rw[hfm] at hBd;have Q:=af (lR _ _ _ _ hBd hBw.size);have hD2:D2≠w.heap.size:=by have:=M2.lo.2;omega
    clear hseq hp HOK HSO;go_wp2_with fail
    refine Q.out.mono ?_;rintro e w3 ⟨rfl,hB3,hb3⟩;have hK3:=hb3.2 D2 _ hK (fun e=>hD2 (az e)) (fun c fz e=>by cases e);have hbb:=hBw.trans hb3.1;go_wp2_with fail
    refine⟨by simp,.inl ⟨_,_,rfl,run_takeDeferred hK3,?_⟩⟩;refine⟨_,results_tmp rfl _ _ _,by rw[HMO.out];rfl,hbb.trans (belowK_b (w:=w) (aF _) w3 D2 _ _ (by have:=B2.size;omega) hK3 rfl rfl)⟩
   case stop=>
    rintro D c pre W _ _ h _;exact h.elim
end
section
open Go.RowKit Go.Maps Go.WideMaps
attribute [local go_sem] am aq
def qW(E:List En)(g:Int):Value:=.tuple #[.string (bs (ls E g).1),.int .i64 (ls E g).2]
theorem Aw(E:List En)(g:Int)(h:dq E g=0):(kP E g).length<=1000000:=by
 obtain⟨h1,h2,h3,_,h4⟩:=qI h;have hr:∀x∈E,dG x=true:=fun x hx=>(h4 x hx).1;unfold kP;split
 ·have:=pU E hr;unfold EE;rw[aG,Num.wide_len];omega
 ·have h5:=tX g E hr h3;have h6:=vQ E (fun x hx=>(ib (hr x hx)).1);have h7:=zT E;have h8:(vN E).length<=(ic E).length*1210:=yd (iU (cJ E)) 1210 (ic E) (fun z _=>aK (wG _ _) (by omega));unfold re;rw[aG];split
  ·omega
  ·simp;omega
theorem AN(E:List En)(v:Value)(g:Int)(w:World)(h:dR w v E)(h1: -9223372036854775808<=g)(h2:g<=9223372036854775807):
 Calls Tryz.prog 38 #[v,.int .i64 g] w fun e w'=>e=.returned (qW E g)/\Below w.heap.size w w':=by
 have qv:=af (C4 E v g w h h1 h2)
 have HP0:=af (show dq E g≠0->qW E g=.tuple #[.string ⟨#[]⟩,.int .i64 (dq E g)] from fun hv=>by unfold qW;rw[zo hv];rfl)
 have HP1:=af (show dq E g=0->qW E g=.tuple #[.string (bs (kP E g++dj (kP E g))),.int .i64 0] from fun hv=>by unfold qW;rw[xJ hv])
 have HVP:=af (qI (l:=E) (g:=g))
 have HBL:=af (Aw E g)
 have HBG:=af (show kP E g=if g=1 then EE E else re E g from rfl)
 have H:=af h
 clear h
 generalize qW E g=PV at*
 generalize dq E g=VV at*
 generalize kP E g=BD at*
 by_cases hv:VV=0
 ·subst hv;have HY:=af (HP1.out rfl);obtain⟨g1,g3,hE,_,hr⟩:=HVP.out rfl;have HR:=af (fun x hx=>(hr x hx).1);have hbl:=HBL.out rfl;have qt:=af (fun W=>mJ BD (by omega) W);have htl:=dP BD;have hadd:∀W,(Op.stringOp .add (bs BD) (bs (dj BD))).run Tryz.prog W=.ok (.string (bs (BD++dj BD))) W:=fun W=>aJ (P:=Tryz.prog) BD (dj BD) (by omega) W;clear HP0 HP1 HVP HBL hr;rcases(show g=1\/g=2\/g=3 by omega) with rfl|rfl|rfl
  ·have hB:=HBG.out;rw[if_pos rfl] at hB;have q:=af (fun W (hW:dR W v E)=>Ho E v W hW HR.out hE);rw[<-hB] at q;clear HBG hB;generalize dj BD=TB at*;go_enter Tryz.func38,Tryz.ntmps38
   go_wp2_with fail
   refine bL qv.out fun w1 b1=>?_;have H1:=af (H.out.below b1);clear qv;go_wp2_with fail
   refine(q.out _ H1.out).mono ?_;rintro e w2 ⟨rfl,b2⟩;have b3:=ay b1 b2;clear q b1 b2 H1;go_wp2_with fail
   refine(qt.out _).mono ?_;rintro e w3 ⟨rfl,b4⟩;have b5:=ay b3 b4;clear qt b3 b4;go_wp2_with fail
   go_ret2;exact⟨by rw[HY.out];rfl,b5⟩
  ·have hB:=HBG.out;rw[if_neg (by decide)] at hB;have q:=af (fun W (hW:dR W v E)=>EI E v W hW HR.out hE);rw[<-hB] at q;clear HBG hB;generalize dj BD=TB at*;go_enter Tryz.func38,Tryz.ntmps38
   go_wp2_with fail
   refine bL qv.out fun w1 b1=>?_;have H1:=af (H.out.below b1);clear qv;go_wp2_with fail
   refine(q.out _ H1.out).mono ?_;rintro e w2 ⟨rfl,b2⟩;have b3:=ay b1 b2;clear q b1 b2 H1;go_wp2_with fail
   refine(qt.out _).mono ?_;rintro e w3 ⟨rfl,b4⟩;have b5:=ay b3 b4;clear qt b3 b4;go_wp2_with fail
   go_ret2;exact⟨by rw[HY.out];rfl,b5⟩
  ·have hB:=HBG.out;rw[if_neg (by decide)] at hB;have q:=af (fun W (hW:dR W v E)=>EH E v W hW HR.out hE);rw[<-hB] at q;clear HBG hB;generalize dj BD=TB at*;go_enter Tryz.func38,Tryz.ntmps38
   go_wp2_with fail
   refine bL qv.out fun w1 b1=>?_;have H1:=af (H.out.below b1);clear qv;go_wp2_with fail
   refine(q.out _ H1.out).mono ?_;rintro e w2 ⟨rfl,b2⟩;have b3:=ay b1 b2;clear q b1 b2 H1;go_wp2_with fail
   refine(qt.out _).mono ?_;rintro e w3 ⟨rfl,b4⟩;have b5:=ay b3 b4;clear qt b3 b4;go_wp2_with fail
   go_ret2;exact⟨by rw[HY.out];rfl,b5⟩
 ·have HY:=af (HP0.out hv);have f1:decide (VV=0)=false:=by simpa using hv
  clear HP0 HP1 HVP HBL HBG;go_enter Tryz.func38,Tryz.ntmps38
  go_wp2_with fail
  refine bL qv.out fun w1 b1=>?_;go_wp2_with fail
  go_ret2;exact⟨by rw[HY.out];rfl,b1⟩
end
section
open Go.RowKit
def ex:List UInt8:=[65,66,76,75]
def Cq(b:nd):Nat:=(if b.gone=[] then 0 else 1)+(if 0<b.floor then 2 else 0)
def pT(f:Int)(g:Int):List UInt8:=if g=1 then Num.wide (aS f) else Num.small (aS f)
def eW(g:Int):Nat->List aO->List En
 |_,[]=>[]
 |o,x::l=>⟨x.labels,x.last,o,((fh x.samples g).1.length:Nat)⟩::eW g (o+(fh x.samples g).1.length) l
def ij(g:Int)(S:List aO):List UInt8:=S.flatMap fun x=>(fh x.samples g).1
def uC(b:nd)(g:Int)(gone:List UInt8):List UInt8:=
 (((eU ex g.toNat (Cq b)++bM (pT b.floor g))++bM gone)++bM (ls (eW g 0 b.ser) g).1)++ij g b.ser
def ia (b:nd)(g:Int):List UInt8×Int:=
 if dB b g≠0 then([],dB b g) else match dd g [] b.gone with
  |(_,none,_)=>([],7)
  |(gone,some _,_)=>(uC b g gone,0)
def nJ (g:Int)(C:List UInt8):List En->Option (List aO)
 |[]=>some []
 |x::l=>if (C.length:Int)<x.off+x.len then none
  else if (fZ ((C.drop x.off.toNat).take x.len.toNat) g).2≠0 then none else match nJ g C l with
   |none=>none
   |some S=>some (⟨x.labels,(fZ ((C.drop x.off.toNat).take x.len.toNat) g).1,x.last⟩::S)
def lL(s:List UInt8)(g:Int):Option nd:=
 let p:=aA s 10
 let q:=aA p.2.1 1048576
 let r:=aA q.2.1 1048576
 match ep (eU cv g.toNat 0++q.1) with
 |(none,_)=>none
 |(some sg,_)=>if p.2.2≠0\/q.2.2≠0\/r.2.2≠0\/sg.torn=true\/(jv r.1 g).2≠0 then none else match nJ g r.2.1 (jv r.1 g).1 with
  |none=>none
  |some S=>if nD (if g=1 then wN (p.1,false) else sN (p.1,false)) then some ⟨dH (if g=1 then wV (p.1,false) else sV (p.1,false)),sg.recs,S⟩ else none
def my (s:List UInt8):nd×Nat×Int:=match cW s ex with
 |(g,_,rest,e)=>if e≠0 then(aY,0,e) else match lL rest g with
  |none=>(aY,0,9)
  |some b=>if ia b g=(s,0) then(b,g,0) else(aY,0,9)
theorem ow{b:nd}{g:Int}(h:dB b g=0):(1<=g/\g<=3)/\aX b.floor=true/\b.gone.length<=400/\b.ser.length<=20/\(∀x∈b.gone,lu g x=false)/\(∀x∈b.ser,gD x=false)/\gC none b.ser=true/\(ey b:Int)<=cZ g:=by
 unfold dB at h;split at h
 ·cases h
 ·rename_i h1;split at h
  ·cases h
  ·rename_i h2;split at h
   ·cases h
   ·rename_i h3;simp only[not_or,Bool.not_eq_true] at h1 h2;obtain⟨a1,a2,a3,a4,a5,a6,a7⟩:=h1;refine⟨by omega,by simpa using a3,by omega,by omega,fun x hx=>?_,fun x hx=>?_,by simpa using h2,by omega⟩
    ·simpa using List.any_eq_false.1 (by simpa using a6) x hx
    ·simpa using List.any_eq_false.1 (by simpa using a7) x hx
theorem oQ{x:aO}(h:gD x=false):bD x.labels=0/\dh x.samples=true/\x.samples.length<=200/\aX x.last=true:=by
 unfold gD at h;simp only[Bool.or_eq_false_iff,Bool.not_eq_false',decide_eq_true_eq,decide_eq_false_iff_not] at h;exact⟨h.1,h.2.1,by omega,h.2.2.2⟩
theorem nX{α:Type}(f:α->Nat):∀(l:List α) (n:Nat),n<=l.foldl (fun n x=>max n (f x)) n/\∀x∈l,f x<=l.foldl (fun n x=>max n (f x)) n
 |[],n=>⟨aF _,fun x hx=>by cases hx⟩
 |y::l,n=>by
  obtain⟨h1,h2⟩:=nX f l (max n (f y));rw[List.foldl_cons];refine⟨by omega,fun x hx=>?_⟩;rcases List.mem_cons.1 hx with rfl|hx
  ·omega
  ·exact h2 x hx
theorem zL(b:nd):(∀x∈b.gone,a8 x.labels<=ey b)/\∀x∈b.ser,a8 x.labels<=ey b:=by
 obtain⟨h1,h2⟩:=nX (fun x:Rc=>a8 x.labels) b.gone 0;obtain⟨h3,h4⟩:=nX (fun x:aO=>a8 x.labels) b.ser (b.gone.foldl (fun n x=>max n (a8 x.labels)) 0);unfold ey;exact⟨fun x hx=>aK (h2 x hx) h3,h4⟩
theorem ye(g:Int):∀(S:List aO) (o:Nat),(eW g o S).map (fun x=>x.labels)=S.map fun x=>x.labels
 |[],_=>rfl
 |x::l,o=>by rw[eW,List.map_cons,List.map_cons,ye g l]
theorem wt(g:Int):∀(S:List aO) (o:Nat),(eW g o S).length=S.length
 |[],_=>rfl
 |x::l,o=>by rw[eW,cY,cY,wt g l]
theorem uz{l:List cH}{g:Int}(hl:l.length<=200):(fh l g).1.length<=5004:=by
 unfold fh;split
 ·have:=rG (l:=l) (g:=g) hl;have:=dP (dz l g);simp only[aG];omega
 ·exact Nat.zero_le _
theorem vY(g:Int):∀(S:List aO) (o:Nat) (p:Option (List Lb)),(∀x∈S,gD x=false)->gC p S=true->o+S.length*5004<=1000000->cO p (eW g o S)=true
 |[],_,_,_,_,_=>rfl
 |x::l,o,p,h,hr,ho=>by
  obtain⟨h1,h2,h3,h4⟩:=oQ (h x List.mem_cons_self);have hl:=uz (l:=x.samples) (g:=g) h3;unfold gC at hr;simp only[Bool.and_eq_true] at hr;rw[cY] at ho;have ih:=vY g l (o+(fh x.samples g).1.length) (some x.labels) (fun y hy=>h y (List.mem_cons_of_mem _ hy)) hr.2 (by omega);unfold aX at h4;simp only[Bool.and_eq_true,decide_eq_true_eq] at h4;rw[eW];unfold cO;have hR:dG (⟨x.labels,x.last,(o:Nat),((fh x.samples g).1.length:Nat)⟩:En)=true:=by
   unfold dG;simp only[Bool.and_eq_true,decide_eq_true_eq];exact⟨h1,by omega,by omega,by omega,by omega,by omega,by omega⟩
  rw[hR,ih];cases p with
  |none=>rfl
  |some q=>simpa using hr.1
theorem ES(g:Int)(S:List aO)(o:Nat)(h:∀x∈S,(a8 x.labels:Int)<=cZ g):kI (eW g o S) g=false:=by
 unfold kI;induction S generalizing o with
 |nil=>rfl
 |cons x l ih=>
  rw[eW,List.any_cons,ih _ fun y hy=>h y (List.mem_cons_of_mem _ hy),Bool.or_false];have:=h x List.mem_cons_self;simp;omega
theorem A3{b:nd}{g:Int}(h:dB b g=0):dq (eW g 0 b.ser) g=0:=by
 obtain⟨h1,h2,h3,h4,h5,h6,h7,h8⟩:=ow h;have hl:=(zL b).2;unfold dq;rw[if_neg (by rw[wt];omega),vY g b.ser 0 none h6 h7 (by omega),if_neg (by simp),ES g b.ser 0 fun x hx=>by have:=hl x hx;omega];rfl
theorem Co(f g:Int):(pT f g).length<=10:=by
 unfold pT;split
 ·rw[Num.wide_len];omega
 ·exact(Num.small_len _).2
theorem Jq{b:nd}{g:Int}(h:(ia b g).2=0):dB b g=0/\∃s K',dd g [] b.gone=(s,some K',0)/\(ia b g).1=uC b g s:=by
 unfold ia at h⊢;split at h
 ·rename_i h1;exact absurd h h1
 ·rename_i h1;rw[if_neg h1];split at h
  ·cases h
  ·rename_i s K' e hp;obtain⟨_,_,_,he⟩:=qG _ _ _ _ _ _ hp;subst he;exact⟨by simpa using h1,s,K',hp,rfl⟩
theorem wm:∀(R:List Rc),(∀x∈R,x.labels.length<=6)->(nY R).length=R.length*186
 |[],_=>rfl
 |x::R,h=>by
  have ih:=wm R fun y hy=>h y (List.mem_cons_of_mem _ hy);unfold nY at*;rw[List.flatMap_cons,aG,ih,zF x (h x List.mem_cons_self),cY];omega
theorem md:∀(R:List Rc) (K:List (List UInt8)) (s:List UInt8),(∀x∈R,(de x.labels).length<=2000)->(bp K R).1=some s->s.length<=R.length*2100
 |[],K,s,_,h=>by
  obtain rfl:=az h;simp
 |x::R,K,s,hk,h=>by
  unfold bp at h;split at h
  ·cases h
  ·simp only at h;cases hs:(bp (bI K x).2 R).1 with
   |none=>rw[hs] at h;cases h
   |some s2=>
    rw[hs] at h;obtain rfl:=az h;have ih:=md R _ s2 (fun y hy=>hk y (List.mem_cons_of_mem _ hy)) hs;have h1:=Num.small_len (bI K x).1.length;have h2:=oE K x;have h3:=hk x List.mem_cons_self;rw[aG,cY];unfold bM;rw[dA,Num.text_len];omega
theorem wY(g:Int)(K:List (List UInt8))(R:List Rc):(dd g K R).1.length<=20100+R.length*2100:=by
 unfold dd;split
 ·exact Nat.zero_le _
 ·split
  ·exact Nat.zero_le _
  ·rename_i hf;have hv:=jQ g R (by simpa using hf);split
   ·exact Nat.zero_le _
   ·rename_i s K' hp;simp only;unfold iP at hp;split at hp
    ·obtain⟨h1,_⟩:=Prod.mk.inj hp;obtain rfl:=az h1;rw[wm R fun x hx=>(nM x (l9 x g (hv x hx))).1.2];omega
    ·split at hp
     ·have:=md R K s (fun x hx=>aK (nM x (l9 x g (hv x hx))).2.2.2.1 (by omega)) (by rw[hp]);omega
     ·obtain⟨h1,_⟩:=Prod.mk.inj hp;split at h1
      ·rename_i hb;obtain rfl:=az h1;unfold gi at hb⊢;split
       ·exact Nat.zero_le _
       ·rename_i hne;rw[if_neg hne] at hb;have hb2:(Num.small R.length++(cN K 0 0 R).1).length<=20000:=by simpa using hb
        have h2:=Num.small_len (Num.small R.length++(cN K 0 0 R).1).length;simp only;unfold bM;rw[dA,Num.text_len];omega
      ·cases h1
theorem IY{g:Int}{R:List Rc}{s:List UInt8}{K':List (List UInt8)}(hR:R.length<=400)(h:dd g [] R=(s,some K',0)):s.length<=1048576:=by
 have h1:=wY g [] R;rw[h] at h1;simp only at h1;omega
def F0:List Lb:=[([97],[120])]
def IR:kt:=⟨[⟨F0,[(5,7)],5⟩],0⟩
def LB:kt:=⟨[⟨F0,[(5,7),(9,8)],9⟩],0⟩
def De:kt:=⟨[⟨F0,[(9,8)],9⟩],0⟩
def lI:nd:=⟨0,[⟨1,F0,5,5,0⟩],[⟨F0,[(9,8)],9⟩]⟩
theorem L4:(Fr ⟨[],0⟩ 0 F0 [] 5 0 7 3).1=IR:=by kernel_rfl
theorem L3:(Fr IR 0 F0 [] 9 0 8 3).1=LB:=by kernel_rfl
theorem L1:(Fr LB 1 [] [] 5 6 0 3).1=De:=by kernel_rfl
theorem LZ:lP IR De=lI:=by kernel_rfl
theorem LY:(ia aY 2).2=0/\(ia aY 2).1.length=32:=by constructor<;>kernel_rfl
def Ko:List UInt8:=(ia lI 1).1
theorem LX:(ia lI 1).2=0:=by kernel_rfl
theorem LO:my Ko=(lI,1,0):=by kernel_rfl
theorem LW:jN IR lI=(De,0):=by kernel_rfl
def JY:List En:=[⟨F0,9,0,23⟩]
theorem LG:eW 3 0 lI.ser=JY:=by kernel_rfl
theorem LF:gp JY=[[97],[120]]:=by
 unfold gp;rw[List.mergeSort_of_pairwise (by decide+kernel)];kernel_rfl
theorem LE:ic JY=[([97],[120])]:=by
 unfold ic jW;rw[show eG ((cJ JY).map fun p=>p.1)=[([97],[120])] by kernel_rfl];exact List.mergeSort_singleton _
theorem LD:(kP JY 3).length=16:=by
 unfold kP re nx vN;rw[LF,LE];kernel_rfl
theorem K9:(ia lI 3).2=0:=by kernel_rfl
theorem LC:(ls JY 3).1.length=20:=by
 rw[xJ (show dq JY 3=0 by kernel_rfl),aG,dP,LD]
theorem Hz(b:List UInt8):(bM b).length=(Num.small b.length).length+b.length+4:=by unfold bM;rw[dA,Num.text_len]
theorem LV:(ia lI 3).1.length=84:=by
 obtain⟨_,s,K',hp,hb⟩:=Jq K9;have h1:(dd 3 [] lI.gone).1.length=15:=by kernel_rfl
 rw[hp] at h1;rw[hb];unfold uC;rw[LG,aG,aG,aG,aG,Hz s,h1,Hz (ls JY 3).1,LC];decide+kernel
theorem Dd:(cW Ko ex).1=1:=by kernel_rfl
theorem wU:Ko.length=311:=by kernel_rfl
theorem LI:(my []).2.2=9:=by kernel_rfl
theorem LH:qR lI lI=true/\vG De De=true/\ey lI=1/\dB lI 1=0/\dB lI 0=1:=by refine⟨?_,?_,?_,?_,?_⟩<;>kernel_rfl
end
section
open Go Go.RowKit Go.Shelf
attribute [local go_sem] Oper.semAt_some
def LR (x:Int×Int):Array Value:=#[.int .i64 x.1,.int .i64 x.2]
theorem Gq(a:Option Addr)(n c f:Nat)(capt:Array Value)(w:World):Calls Tryz.prog 94 #[.slice a n c,.func (.func f) #[] capt] w fun e w'=>
 e=.returned (.func (.func 162) #[] #[.pointer (some ⟨w.heap.size,0,none⟩),.pointer (some ⟨w.heap.size+1,0,none⟩)])/\w'=(w.alloc (.cells #[.slice a n c] 86)).alloc (.cells #[.func (.func f) #[] capt] 150):=by
 go_enter Tryz.func94,Tryz.ntmps94
 go_wp2;go_ret;exact⟨by simp,rfl⟩
theorem Em(q rl ri f:Nat)(capt:Array Value)(lv:Value)(L:List cH)(p:cH->Bool)(Env:World->Prop)
 (hE:∀W,Env W->W.cell? ⟨rl,0,none⟩=some lv/\W.cell? ⟨ri,0,none⟩=some (.func (.func f) #[] capt)/\aI W lv L/\∀x:cH,Calls Tryz.prog f (#[.agg #[.int .i64 x.1,.int .u64 (x.2:Int)]]++capt) W fun e W'=>e=.returned (.bool (p x))/\Below W.heap.size W W')
 (hb:∀W W',Env W->Below W.heap.size W W'->Env W') (hcf:∀args W,(callFunc f args).run Tryz.prog W=.ok (.enter f args) W) (w:World) (h:Env w):
 JU (fun _=>False) Fence.wide q Tryz.prog 162 #[.pointer (some ⟨rl,0,none⟩),.pointer (some ⟨ri,0,none⟩)] LR (fun A B=>Env A->Env B) (en p L 0) w:=by
 intro l J W hW hJ hY h0
 have E0:=hb w W h hW
 have hJb:∀s A B,J s A->Below A.heap.size A B->J s B:=fun s A B h hb=>hJ s A B none h ⟨hb.os,hb.tape,hb.output,hb.size,fun k hk _=>hb.block k hk⟩ (fun r e=>by cases e)
 have HJb:=af hJb
 have HY:=af hY
 have HE:=af hE
 have HB:=af hb
 obtain⟨a,c,rfl,_⟩:=id (hE W E0).2.2.1
 have hlen:=(hE W E0).2.2.1.len
 have HEN:=af E0
 have H0:=af h0
 obtain⟨N,hN⟩:∃N,L.length=N:=⟨_,rfl⟩
 have HN:=af hN
 rw[hN] at HE hlen
 clear hE hb hJ hJb hY h0 hW h E0 hN
 refine callsIn_of_wp Tryz.func162 rfl trivial ?_ rfl
 simp only[Tryz.ntmps162,List.size_toArray,cY,List.length_nil,Nat.reduceAdd,Nat.reduceSub,Array.replicate_succ,Array.replicate_zero,List.push_toArray,List.append_toArray,List.nil_append,List.cons_append]
 gi_wp2_with fail
 gi_loopw [4] (fun si wr=>∃(pre:List (Int×Int)) (i:Nat),si=.int .i64 (i:Int)/\i<=N/\Hid (en p L 0=pre++en p L i)/\Hid (J pre wr)/\Hid (Env wr)) (fun si _=>N-(intOf si).toNat)
 case atStart=>exact⟨[],0,rfl,Nat.zero_le _,af rfl,H0,HEN⟩
 case round=>
  clear H0 HEN;obtain⟨pre,i,rfl,hi,HP,HJs,HEw⟩:=hrel;obtain⟨x1,x2,hs,hp⟩:=HE.out _ HEw.out;rcases(show i<N\/i=N by omega) with hiN|rfl
  ·have hiL:i<L.length:=by rw[HN.out];exact hiN
   obtain⟨g,o,rfl,hok,d0,d1⟩:=fO hs hiL (bR);have G1:=aj x1;have G2:=aj x2;have G3:=aj d0;have G4:=aj d1;have q:=af (fun W (hW:Below wr.heap.size wr W)=>(HE.out W (HB.out _ _ HEw.out hW)).2.2.2 L[i]);have HNo:=af (yZ hiL (p:=p));have HIn:=af (Gs hiL (p:=p));have HLi:=af (show L[i]?=some L[i] from aV hiL);generalize L[i]=y at*;have hw1:IntKind.i64.wrap ((i:Int)+1)=(i:Int)+1:=ct _ (by omega);have hlt:(i:Int)<(N:Int):=by omega
   clear hs hp hiL hok d0 d1;gi_wp2_with fail
   refine wpIn_wide.2 ?_;refine dY ?_;iterate 5 (refine bJ fun K hK=>?_;go_big_quiet_step (fail);refine hK _ ?_;clear hK K)
   (refine fS (f:=f) (args:=#[.agg #[.int .i64 y.1,.int .u64 (y.2:Int)]]++capt) (v:=.bool (p y)) ?_ ?_;exact fun W hW=>q.out W hW;intro K hK;go_big_quiet_step (fail);refine hK _ ?_;clear hK K)
   (refine bJ fun K hK=>?_;go_big_quiet_step (fail);refine hK _ ?_;clear hK K);refine eR ?_;intro w5 hb5;simp only[aB];have HJ5:=af (HJb.out _ _ _ HJs.out hb5);have HE5:=af (HB.out _ _ HEw.out hb5);clear q G1 G2 G3 G4 x1 x2 HJs HEw hb5;cases hpy:p y with
   |false=>
    have HP2:=af (show en p L 0=pre++en p L (i+1) by rw[HP.out,HNo.out hpy]);clear HNo HIn hpy;gi_wp2_with fail
    go_roundw
    case rel=>exact⟨pre,i+1,by go_num,hiN,HP2,HJ5,HE5⟩
    case measure=>simp[intOf];omega
   |true=>
    have HQ0:=af (show en p L 0=pre++lK p L y.1 y.1 (i+1) by rw[HP.out,HIn.out hpy]);clear HNo HIn hpy HP;gi_wp2_with fail
    gi_loopw [5] (fun sk wk=>∃(k:Nat) (z:cH),sk=.int .i64 (k:Int)/\i<=k/\k<N/\Hid (L[k]?=some z)/\Hid (en p L 0=pre++lK p L y.1 z.1 (k+1))/\Hid (J pre wk)/\Hid (Env wk)) (fun sk _=>N-(intOf sk).toNat)
    case atStart=>exact⟨i,y,rfl,aF _,hiN,HLi,HQ0,HJ5,HE5⟩
    case round=>
     clear HQ0 HJ5 HE5;obtain⟨k,z,rfl,hik,hkN,HZ,HQ,HJk,HEk⟩:=hrel;obtain⟨x1,x2,hs,hp⟩:=HE.out _ HEk.out;have G1:=aj x1;have G2:=aj x2;have hw2:IntKind.i64.wrap ((k:Int)+1)=(k:Int)+1:=ct _ (by omega);have hor:(∃u,L[k+1]?=some u/\p u=true)\/(∃u,L[k+1]?=some u/\p u=false)\/k+1=N:=by
      by_cases h1:k+1<L.length
      ·cases h2:p L[k+1] with
       |true=>exact .inl ⟨_,aV h1,h2⟩
       |false=>exact .inr (.inl ⟨_,aV h1,h2⟩)
      ·exact .inr (.inr (by have:=HN.out;omega))
     rcases hor with⟨u,hu,hpu⟩|⟨u,hu,hpu⟩|hkN2
     case' inl=>
      obtain⟨hkL,hue⟩:=List.getElem?_eq_some_iff.1 hu;have hkn:k+1<N:=by rw[<-HN.out];exact hkL
      obtain⟨g2,o2,e2,hoq,d0,d1⟩:=fO hs hkL (bR);cases e2;rw[hue] at d0 d1;have q:=af (fun W (hW:Below _ _ W)=>(HE.out W (HB.out _ _ HEk.out hW)).2.2.2 u);rw[hpu] at q;have hlt2:(k:Int)+1<(N:Int):=by omega
      have G3:=aj d0;have G4:=aj d1;have HQ2:=af (show en p L 0=pre++lK p L y.1 u.1 (k+1+1) by rw[HQ.out,Gt hkL (by rw[hue];exact hpu),hue]);have HU:=af hu;clear hs hp hoq hkL hue hu hpu d0 d1;gi_wp2_with fail
      refine wpIn_wide.2 ?_;refine dY ?_;iterate 3 (refine bJ fun K hK=>?_;go_big_quiet_step (fail);refine hK _ ?_;clear hK K)
      (refine nw (v:=.int .i64 (N:Int)) (fun _ _=>by go_simp) fun K hK=>?_;go_big_quiet_step (fail);refine hK _ ?_;clear hK K);iterate 8 (refine bJ fun K hK=>?_;go_big_quiet_step (fail);refine hK _ ?_;clear hK K)
      (refine fS (f:=f) (args:=#[.agg #[.int .i64 u.1,.int .u64 (u.2:Int)]]++capt) (v:=.bool true) ?_ ?_;exact fun W hW=>q.out W hW;intro K hK;go_big_quiet_step (fail);refine hK _ ?_;clear hK K)
      (refine bJ fun K hK=>?_;go_big_quiet_step (fail);refine hK _ ?_;clear hK K);refine eR ?_;intro w6 hb6;simp only[aB];have HJ6:=af (HJb.out _ _ _ HJk.out hb6);have HE6:=af (HB.out _ _ HEk.out hb6);clear q G1 G2 G3 G4 x1 x2 HJk HEk hb6 HQ;gi_wp2_with fail
      go_roundw
      case rel=>exact⟨k+1,u,by go_num,by omega,hkn,HU,HQ2,HJ6,HE6⟩
      case measure=>simp[intOf];omega
     case' inr.inl=>
      obtain⟨hkL,hue⟩:=List.getElem?_eq_some_iff.1 hu;have hkn:k+1<N:=by rw[<-HN.out];exact hkL
      obtain⟨g2,o2,e2,hoq,d0,d1⟩:=fO hs hkL (bR);cases e2;rw[hue] at d0 d1;have q:=af (fun W (hW:Below _ _ W)=>(HE.out W (HB.out _ _ HEk.out hW)).2.2.2 u);rw[hpu] at q;have hlt2:(k:Int)+1<(N:Int):=by omega
      have G3:=aj d0;have G4:=aj d1;have HQ2:=af (show en p L 0=(pre++[(y.1,z.1)])++en p L (k+1) by rw[HQ.out,Ek hkL (by rw[hue];exact hpu)];simp);clear hs hp hoq hkL hue hu hpu d0 d1;gi_wp2_with fail
      refine wpIn_wide.2 ?_;refine dY ?_;iterate 3 (refine bJ fun K hK=>?_;go_big_quiet_step (fail);refine hK _ ?_;clear hK K)
      (refine nw (v:=.int .i64 (N:Int)) (fun _ _=>by go_simp) fun K hK=>?_;go_big_quiet_step (fail);refine hK _ ?_;clear hK K);iterate 8 (refine bJ fun K hK=>?_;go_big_quiet_step (fail);refine hK _ ?_;clear hK K)
      (refine fS (f:=f) (args:=#[.agg #[.int .i64 u.1,.int .u64 (u.2:Int)]]++capt) (v:=.bool false) ?_ ?_;exact fun W hW=>q.out W hW;intro K hK;go_big_quiet_step (fail);refine hK _ ?_;clear hK K)
      (refine bJ fun K hK=>?_;go_big_quiet_step (fail);refine hK _ ?_;clear hK K);refine eR ?_;intro w6 hb6;simp only[aB];have HJ6:=af (HJb.out _ _ _ HJk.out hb6);have HE6:=af (HB.out _ _ HEk.out hb6);clear q G1 G2 G3 G4 x1 x2 HJk HEk hb6 HQ hkn hlt2;gi_wp2_with fail
     case' inr.inr=>
      have HQ2:=af (show en p L 0=(pre++[(y.1,z.1)])++en p L (k+1) by rw[HQ.out,El (by rw[HN.out];omega)];simp);have hlt2:¬((k:Int)+1<(N:Int)):=by omega
      have hd2:decide ((k:Int)+1<(N:Int))=false:=decide_eq_false hlt2;clear hs hp hkN2;gi_wp2_with fail
      refine wpIn_wide.2 ?_;refine dY ?_;iterate 3 (refine bJ fun K hK=>?_;go_big_quiet_step (fail);refine hK _ ?_;clear hK K)
      (refine nw (v:=.int .i64 (N:Int)) (fun _ _=>by go_simp) fun K hK=>?_;go_big_quiet_step (fail);refine hK _ ?_;clear hK K);iterate 2 (refine bJ fun K hK=>?_;go_big_quiet_step (fail);refine hK _ ?_;clear hK K)
      iterate 7 (refine Du fun K hK=>?_;go_big_quiet_step (fail);refine hK _ ?_;clear hK K)
      (refine bJ fun K hK=>?_;go_big_quiet_step (fail);refine hK _ ?_;clear hK K);refine eR ?_;intro w6 hb6;simp only[aB];have HJ6:=af (HJb.out _ _ _ HJk.out hb6);have HE6:=af (HB.out _ _ HEk.out hb6);clear G1 G2 x1 x2 HJk HEk hb6 HQ hlt2 hd2;gi_wp2_with fail
     all_goals
      obtain⟨hkL,hze⟩:=List.getElem?_eq_some_iff.1 HZ.out
      obtain⟨hiL,hye⟩:=List.getElem?_eq_some_iff.1 HLi.out
      obtain⟨x1,x2,hs,hp⟩:=HE.out _ HE6.out
      obtain⟨g3,o3,e3,ho3,a0,a1⟩:=fO hs hiL (bR)
      cases e3
      obtain⟨g4,o4,e4,ho4,b0,b1⟩:=fO hs hkL (bR)
      cases e4
      rw[hye] at a0
      rw[hze] at b0
      have G1:=aj x1
      have G3:=aj a0
      have G4:=aj b0
      clear hs hp ho3 ho4 a1 b1 hkL hze hiL hye x1 x2 a0 b0
      refine pE (R:=co) (by kernel_rfl) (by kernel_rfl) rfl rfl (by kernel_rfl) ?_
      iterate 11 (refine bJ fun K hK=>?_;go_big_quiet_step (fail);refine hK _ ?_;clear hK K)
      refine eR ?_
      intro w7 hb7
      simp only[aB]
      obtain⟨fn,tmps,assign,body,hy,hR⟩:=HY.out pre (y.1,z.1) (en p L (k+1)) w7 (by rw[HQ2.out];simp) (HJb.out _ _ _ HJ6.out hb7)
      unfold LR at hy
      dsimp only at hy
      have HE7:=af (HB.out _ _ HE6.out hb7)
      have hR2:=hR.mono (fun e W' h=>(show e=.returned (.bool true)/\Hid (J (pre++[(y.1,z.1)]) W'/\Env W') from⟨h.1,af ⟨h.2.1,h.2.2 HE7.out⟩⟩))
      have hw3:IntKind.i64.wrap ((k:Int)+1)=(k:Int)+1:=ct _ (by omega)
      clear hR G1 G3 G4 hb7 HJ6 HE6 HE7
      gi_wp2_with fail
      refine⟨fun h=>(by cases h),?_⟩
      refine hR2.mono ?_
      rintro e w8 ⟨rfl,hh⟩
      clear hR2 hy
      gi_wp2_with fail
      go_roundw
      case rel=>exact⟨pre++[(y.1,z.1)],k+1,by go_num,hkN,HQ2,af hh.out.1,af hh.out.2⟩
      case measure=>simp[intOf];omega
  ·have HP2:=af (show en p L 0=pre by rw[HP.out,vI p L (by rw[HN.out];exact aF _),List.append_nil]);gi_wp2_with fail
   go_end0
   exact⟨⟨_,rfl⟩,by rw[HP2.out];exact HJs.out⟩
end
section
open Go.RowKit
attribute [local go_sem] am aq
theorem GL(S T:List aO)(R:List Rc)(f fb:Int):jN ⟨S,f⟩ ⟨fb,R,T⟩=(let S3:=el (T.foldl fk (if f<fb then kM (R.foldl eC S) fb else R.foldl eC S)) (max f fb);if fx ⟨S3,max f fb⟩ then(⟨S3,max f fb⟩,0) else(⟨S,f⟩,9)):=rfl
theorem vm{S:List aO}{r:Rc}(h:cP S r.labels=none):eC S r=S:=by unfold eC;rw[h]
theorem nz{S:List aO}{r:Rc}{i:Nat}(h:cP S r.labels=some i)(hi:i<S.length):eC S r=mj S ⟨S[i].labels,bV S[i].samples r.t r.u,S[i].last⟩:=by
 unfold eC;rw[h];simp only[];rw[o8 hi]
theorem xy{S:List aO}{x:aO}(h:cP S x.labels=none):fk S x=mj S x:=by unfold fk;rw[h]
theorem xw{S:List aO}{x:aO}{i:Nat}(h:cP S x.labels=some i)(hi:i<S.length):fk S x=mj S ⟨x.labels,S[i].samples++x.samples,x.last⟩:=by
 unfold fk;rw[h];simp only[];rw[o8 hi]
theorem qB(sv gv bv:Value)(S T:List aO)(R:List Rc)(f fb:Int)(w:World)(h:aM w sv S)(hR:dw w gv R)(hT:aM w bv T)(hn:S.length+R.length+T.length<=900)(hTl:T.length<=60)(hSc:iE 1000 S)(hTc:iE 1000 T):
 Calls Tryz.prog 25 #[.agg #[sv,.int .i64 f],.agg #[.int .i64 fb,gv,bv]] w (dL w (jN ⟨S,f⟩ ⟨fb,R,T⟩)):=by
 obtain⟨sa,sc,rfl,_⟩:=id h
 obtain⟨ra,rc,rfl,_,hx⟩:=id hR
 obtain⟨ta,tc,rfl,_⟩:=id hT
 have HX:=af hx
 have H:=af h
 have HT:=af hT
 have HTc:=af hTc
 have HE:=af (GL S T R f fb)
 obtain⟨n,hn1⟩:∃n,S.length=n:=⟨_,rfl⟩
 obtain⟨M,hM1⟩:∃M,R.length=M:=⟨_,rfl⟩
 obtain⟨K,hK1⟩:∃K,T.length=K:=⟨_,rfl⟩
 have HM:=af hM1
 have HK:=af hK1
 have HN:=af hn1
 have b1:=ai w (.cells #[.slice sa S.length sc,.int .i64 f] 49)
 have b2:=b1.alloc b1.size (.cells #[.int .i64 fb,.slice ra R.length rc,.slice ta T.length tc] 25)
 have b3:=b2.alloc b2.size (.cells #[.slice none 0 0,.int .i64 0] 49)
 have b4:=b3.alloc b3.size (.cells #[.slice sa S.length sc,.int .i64 f] 49)
 have k1:=((ag.alloc (ag.new w 49 #[.slice sa S.length sc,.int .i64 f]) (.cells #[.int .i64 fb,.slice ra R.length rc,.slice ta T.length tc] 25)).alloc (.cells #[.slice none 0 0,.int .i64 0] 49)).alloc (.cells #[.slice sa S.length sc,.int .i64 f] 49)
 have k2:=((ag.new (w.alloc (.cells #[.slice sa S.length sc,.int .i64 f] 49)) 25 #[.int .i64 fb,.slice ra R.length rc,.slice ta T.length tc]).alloc (.cells #[.slice none 0 0,.int .i64 0] 49)).alloc (.cells #[.slice sa S.length sc,.int .i64 f] 49)
 have k3:=(ag.new ((w.alloc (.cells #[.slice sa S.length sc,.int .i64 f] 49)).alloc (.cells #[.int .i64 fb,.slice ra R.length rc,.slice ta T.length tc] 25)) 49 #[.slice none 0 0,.int .i64 0]).alloc (.cells #[.slice sa S.length sc,.int .i64 f] 49)
 have k4:=ag.new (((w.alloc (.cells #[.slice sa S.length sc,.int .i64 f] 49)).alloc (.cells #[.int .i64 fb,.slice ra R.length rc,.slice ta T.length tc] 25)).alloc (.cells #[.slice none 0 0,.int .i64 0] 49)) 49 #[.slice sa S.length sc,.int .i64 f]
 rw[aW] at k2
 rw[aW,aW] at k3
 rw[aW,aW,aW] at k4
 have hs4:w.heap.size+4<=((((w.alloc (.cells #[.slice sa S.length sc,.int .i64 f] 49)).alloc (.cells #[.int .i64 fb,.slice ra R.length rc,.slice ta T.length tc] 25)).alloc (.cells #[.slice none 0 0,.int .i64 0] 49)).alloc (.cells #[.slice sa S.length sc,.int .i64 f] 49)).heap.size:=by rw[aW,aW,aW,aW];exact aF _
 have I0:wQ w _ (.slice sa S.length sc) (.slice ra R.length rc) (.slice ta T.length tc) f fb (.slice sa S.length sc) f S:=⟨k1,k2,k3,k4,h.below b4,b4,hs4⟩
 rw[hn1,hM1,hK1] at hn
 rw[hK1] at hTl HT
 rw[hn1] at H
 rw[hn1,hM1,hK1] at I0⊢
 obtain⟨p0,p1,p2,p3,p4,p5,p6,p7,p8⟩:=I0.facts
 clear b1 b2 b3 b4 k1 k2 k3 k4 hs4 hx h hR hT hTc hn1 hM1 hK1
 go_enter Tryz.func25,Tryz.ntmps25
 go_wp2_with fail
 generalize hW0:(((w.alloc _).alloc _).alloc _).alloc _=W0 at*
 clear hW0 p0 p1 p2 p3 p4 p5 p6 p7 p8
 go_loopw [20] (fun vi wr=>∃(j:Nat) (S1:List aO) (v1:Value),j<=M/\vi=.int .i64 (j:Int)/\wQ w wr (.slice sa n sc) (.slice ra M rc) (.slice ta K tc) f fb v1 f S1/\iE 1000 S1/\S1.length<=n+j/\Hid (S1=(R.take j).foldl eC S)) (fun vi _=>M-(intOf vi).toNat)
 case atStart=>exact⟨0,S,_,Nat.zero_le _,rfl,I0,hSc,by rw[HN.out];exact aF _,af rfl⟩
 clear I0 hSc
 obtain⟨j,S1,v1,hj,rfl,I,hcap,hlen,HJ⟩:=hrel
 rcases(show j<M\/j=M by omega) with hjM|rfl
 ·have hjl:j<R.length:=by rw[HM.out];exact hjM
  obtain⟨b,o,rfl,hrec⟩:=HX.out j R[j] (aV hjl);obtain⟨_,sl,d0,d1,hlab,d2,d3,d4⟩:=rM.below hrec I.below;have HS:=af (wj eC S R hjl);clear hrec;generalize R[j]=x at*;rw[<-HJ.out] at HS;obtain⟨ya,yc,rfl,_⟩:=id hlab;obtain⟨va,vc,rfl,_⟩:=id I.ser;have b3:=ai wr (.cells #[.int .i64 x.kind,.slice ya x.labels.length yc,.int .i64 x.t,.int .i64 x.u,.int .u64 (x.v:Int)] 108);have k3:=ag.new wr 108 #[.int .i64 x.kind,.slice ya x.labels.length yc,.int .i64 x.t,.int .i64 x.u,.int .u64 (x.v:Int)];have I2:=I.next b3;have q:=af (jD _ _ S1 x.labels f _ I2.ser (hlab.below b3));obtain⟨p0,p1,p2,p3,p4,p5,p6,p7,p8⟩:=I2.facts;have e1:=ax k3 1 (.slice ya x.labels.length yc) rfl;have hw9:IntKind.i64.wrap ((j:Int)+1)=(j:Int)+1:=ct _ (by omega);clear hlab b3 I;go_wp2_with fail
  generalize hW1:wr.alloc _=W1 at*;clear hW1 p0 p1 p2 p3 p4 p5 p6 p7 p8 d0 d1 d2 d3 d4 e1;refine bL q.out fun w2 hb2=>?_;have I3:=I2.next hb2;have k4:=ag.below k3 hb2 k3.lt;have hr2:w2.heap.size>wr.heap.size:=k4.lt;clear q I2 k3 hb2;cases hf:cP S1 x.labels with
  |none=>
   have HG:=af (show S1=(R.take (j+1)).foldl eC S by rw[HS.out];exact(vm hf).symm);simp only[dU];clear hf HS;go_wp2_with fail
   go_roundw
   case rel=>exact⟨j+1,S1,_,hjM,by go_num,I3,hcap,by omega,HG⟩
   case measure=>simp[intOf];omega
  |some i=>
   have hi:=uk hf;have HG:=af (HS.out.trans (nz hf hi));have hc2:=xV hcap x;rw[nz hf hi] at hc2;have HC:=af hc2;obtain⟨gg,o2,sl2,sv2,e9,hV,c0,c1,c2⟩:=cq I3.ser hi (bR);obtain rfl:=e9;generalize S1[i]=y at*;obtain⟨yl,ys,yb⟩:=y;have hl2:aC w2 sl2 yl:=hV.2.1;have hs2:aI w2 sv2 ys:=hV.2.2;have hok:(⟨yl,ys,yb⟩:aO).ok:=hV.1;obtain⟨la,lc,rfl,_⟩:=id hl2;obtain⟨za,zc,rfl,_⟩:=id hs2;simp only at c0 c1 c2;have hlt:(0:Int)<=(i:Int):=by omega
   have hil:(i:Int)<(S1.length:Int):=by omega
   have b5:=ai w2 (.cells #[.slice la yl.length lc,.slice za ys.length zc,.int .i64 yb] 88);have k5:=ag.new w2 88 #[.slice la yl.length lc,.slice za ys.length zc,.int .i64 yb];have q2:=af (mI _ ys x.t x.u _ (hs2.below b5));have z1:=ax k5 1 (.slice za ys.length zc) rfl;have k6:=ag.alloc k4 (.cells #[.slice la yl.length lc,.slice za ys.length zc,.int .i64 yb] 88);have e2:=ax k6 2 (.int .i64 x.t) rfl;have e3:=ax k6 3 (.int .i64 x.u) rfl;obtain⟨p0,p1,p2,p3,p4,p5,p6,p7,p8⟩:=I3.facts;simp only[dU];clear hf HS hV hs2 hc2 k4;go_wp2_with fail
   generalize hW2:w2.alloc _=W2 at*;clear p0 p1 p2 p3 p4 p5 p6 p7 p8 c0 c1 c2 z1 e2 e3 k6;refine q2.out.mono ?_;rintro e w3 ⟨v3,rfl,hs3,hb3,hfr⟩;have k7:=ag.below k5 hb3 k5.lt;obtain⟨wa,wc2,rfl,_⟩:=id hs3;have hkk:ak w3 (w3.setCell ⟨w2.heap.size,1,none⟩ (.slice wa (bV ys x.t x.u).length wc2)) (fun k=>k=w2.heap.size):=ak.of_grown (ap _ _ _ _) fun k e=>(az e).symm;have hW2s:w2.heap.size<W2.heap.size:=k5.lt;have B3:=ay b5 hb3;have B4:=B3.trans (hkk.below B3.size fun k e=>Nat.le_of_eq e.symm);have hs4:=hs3.kept hkk fun k e e2=>by have:=hfr k e;omega
   have k8:ag (w3.setCell ⟨w2.heap.size,1,none⟩ (.slice wa (bV ys x.t x.u).length wc2)) w2.heap.size 88 #[.slice la yl.length lc,.slice wa (bV ys x.t x.u).length wc2,.int .i64 yb]:=ag.set_ k7 1 _;have f1:=ag.frozen k7 1;have z1:=ax k7 1 (.slice za ys.length zc) rfl;have y0:=ax k8 0 (.slice la yl.length lc) rfl;have y1:=ax k8 1 (.slice wa (bV ys x.t x.u).length wc2) rfl;have y2:=ax k8 2 (.int .i64 yb) rfl;have I4:=I3.next B4;obtain⟨p0,p1,p2,p3,p4,p5,p6,p7,p8⟩:=I4.facts;have q3:=af (AM _ _ _ S1 ⟨yl,bV ys x.t x.u,yb⟩ _ I4.ser ⟨⟨eq hs4,hok.2⟩,hl2.below B4,hs4⟩ (by omega));clear q2 hs3 hb3 hfr hkk hs4 hl2 hok B3 B4 I3 k5 k7 k8 b5;go_wp2_with fail
   generalize hW3:w3.setCell _ _=W3 at*;clear hW3 p0 p1 p2 p3 p4 p5 p6 p7 p8 y0 y1 y2 z1 f1;refine q3.out.mono ?_;rintro e w5 ⟨v5,rfl,hS5,hb5⟩;obtain⟨ua,uc,rfl,_⟩:=id hS5;have I5:=I4.next hb5;obtain⟨p0,p1,p2,p3,p4,p5,p6,p7,p8⟩:=I5.facts;have HI6:=af (I5.setS hS5);clear q3 I4 hb5 hS5 I5;go_wp2_with fail
   go_roundw
   case rel=>exact⟨j+1,_,_,hjM,by go_num,HI6.out,HC.out.1,by have:=HC.out.2;omega,af HG.out.symm⟩
   case measure=>simp[intOf];omega
 ·rw[List.take_of_length_le (by rw[HM.out];exact aF _)] at HJ;obtain⟨va,vc,rfl,_⟩:=id I.ser;obtain⟨p0,p1,p2,p3,p4,p5,p6,p7,p8⟩:=I.facts;clear HX HM;go_upto_if 53 with fail
  clear p0 p1 p3 p4;go_cut [] (fun wx=>∃(S2:List aO) (v2:Value),wQ w wx (.slice sa n sc) (.slice ra j rc) (.slice ta K tc) f fb v2 (max f fb) S2/\iE 1000 S2/\S2.length<=n+j/\Hid (S2=if f<fb then kM S1 fb else S1))
  case first=>
   by_cases hff:f<fb
   ·have HMX:=af (show max f fb=fb by omega);have HIF:=af hff;have I2:=I.setF fb;have q:=af (fQ _ S1 _ _ I2.ser (bR));obtain⟨s0,s1,s2,s3,s4,s5,s6,s7,s8⟩:=I2.facts;clear I;go_wp2_with fail
    generalize hW1:wr.setCell _ _=W1 at*;clear hW1 s0 s1 s2 s3 s4 s5 s6 s7 s8 p2 p5 p6 p7 p8;refine q.out.mono ?_;rintro e w2 ⟨v2,Z,rfl,hZ,hV,hrow,hb2⟩;have hZl:Z.length=S1.length:=by rw[<-hZ,List.length_map]
    obtain⟨ca,cc,rfl⟩:=aH hrow;have hsr:gH w2 W1.heap.size (.slice ca Z.length cc) Z:=⟨hrow,fun z hz=>(jf.old (hV z hz) fun k e=>(hrow.lt k e).1).below hb2⟩
    have hs1000:S1.length<=1000:=by omega
    have hrl:=hrow.lt;have I3:=I2.next hb2;have hat:aM w2 (.slice ca Z.length cc) (Z.map fun z=>z.1):=hsr.at (by omega);have hW1s:=I2.size;rw[hZ,<-vR fb S1] at hat;have HI4:=af (I3.setS hat);have hkk:ak w2 (w2.setCell ⟨w.heap.size+3,0,none⟩ (.slice ca Z.length cc)) (fun k=>k=w.heap.size+3):=ak.of_grown (ap _ _ _ _) fun k e=>(az e).symm;have hst3:∀v l,aI w2 v l->aI (w2.setCell ⟨w.heap.size+3,0,none⟩ (.slice ca Z.length cc)) v l:=fun v l hs=>hs.st I3.b3 hkk;have hlt3:∀v l,aC w2 v l->aC (w2.setCell ⟨w.heap.size+3,0,none⟩ (.slice ca Z.length cc)) v l:=fun v l hs=>hs.st I3.b3 hkk;have HR4:=af (show gH (w2.setCell ⟨w.heap.size+3,0,none⟩ (.slice ca Z.length cc)) W1.heap.size (.slice ca Z.length cc) Z from⟨aw hrow hkk fun b hb e=>by have:=(hrl b hb).1;omega,fun z hz=>⟨⟨(hsr.2 z hz).1.1,hlt3 _ _ (hsr.2 z hz).1.2.1,hst3 _ _ (hsr.2 z hz).1.2.2⟩,(hsr.2 z hz).2⟩⟩);obtain⟨s0,s1,s2,s3,s4,s5,s6,s7,s8⟩:=I3.facts;have HZ:=af hZ;have HZL:=af hZl;obtain⟨m,hm⟩:∃m,Z.length=m:=⟨_,rfl⟩
    have HMZ:=af hm;rw[hm] at HI4 HR4 HZL;rw[hm];obtain⟨t0,t1,t2,t3,t4,t5,t6,t7,t8⟩:=HI4.out.facts;clear q hZ hV hrow hb2 hsr hat hkk hst3 hlt3 hZl hm I2;go_wp2_with fail
    generalize hW4:w2.setCell _ _=W4 at*;clear hW4 s0 s1 s2 s3 s4 s5 s6 s7 s8 t0 t1 t2 t3 t4 t5 t6 t7 t8 I3;go_loopw [64] (fun vi wx=>∃(j2:Nat) (Y:List (aO×Value×Value)),j2<=m/\vi=.int .i64 (j2:Int)/\Y.length=m/\gH wx W1.heap.size (.slice ca m cc) Y/\wQ w wx (.slice sa n sc) (.slice ra j rc) (.slice ta K tc) f fb (.slice ca m cc) fb (rV fb S1 j2)/\Hid (Y.map (fun z=>z.1)=rV fb S1 j2)) (fun vi _=>m-(intOf vi).toNat)
    case atStart=>exact⟨0,Z,Nat.zero_le _,rfl,HMZ.out,HR4.out,HI4.out,af (by rw[HZ.out,vR])⟩
    clear HI4 HR4;obtain⟨j2,Y,hj2,rfl,hYl,hYR,I,HY⟩:=hrel;rcases(show j2<m\/j2=m by omega) with hjm|rfl
    ·have hjS:j2<S1.length:=by rw[<-HZL.out];exact hjm
     obtain⟨z,hz⟩:∃z,Y[j2]?=some z:=⟨_,aV (by rw[hYl];exact hjm)⟩
     have HZ1:=af (show z.1=S1[j2] by
      have e:=congrArg (fun l=>l[j2]?) HY.out
      simp only[List.getElem?_map,hz,GR fb S1 hjS,Option.map_some] at e
      exact az e)
     have HMS:=af (GQ fb S1 hjS);generalize S1[j2]=y0 at*;rcases hYR.1.2 with⟨_,h0⟩|⟨g,gc,cur,e9,_⟩
     ·omega
     obtain⟨rfl,e10,e11⟩:=Value.slice.inj e9;clear e9 e10 e11;obtain⟨c0,c1,c2⟩:=gH.cell hYR hz;have hF:=hYR.2 z (List.mem_of_getElem? hz);have hgl:=hYR.1.lt g rfl;have HYZ:=af hz;obtain⟨zs,zl,zv⟩:=z;have hl:aC wr zl zs.labels:=hF.1.2.1;have hs:aI wr zv zs.samples:=hF.1.2.2;obtain⟨ya,yc,rfl,_⟩:=id hl;obtain⟨za,zc,rfl,_⟩:=id hs;simp only at c0 c1 c2 HZ1;have b3:=ai wr (.cells #[.slice ya zs.labels.length yc,.slice za zs.samples.length zc,.int .i64 zs.last] 88);have k3:=ag.new wr 88 #[.slice ya zs.labels.length yc,.slice za zs.samples.length zc,.int .i64 zs.last];have I2:=I.next b3;have R2:=hYR.below b3;have QB:=af (fun W hb=>mL _ zs.samples fb 9223372036854775807 W ((hs.below b3).below hb));have G1:=aj (ax k3 1 (.slice za zs.samples.length zc) rfl);obtain⟨s0,s1,s2,s3,s4,s5,s6,s7,s8⟩:=I2.facts;have G2:=aj s5;have G3:=aj s6;have hw9:IntKind.i64.wrap ((j2:Int)+1)=(j2:Int)+1:=ct _ (by omega);have hlt0:(0:Int)<=(j2:Int):=by omega
     have hltm:(j2:Int)<(m:Int):=by omega
     have hwrs:=b3.size;clear hF hl hs hz b3 k3 I hYR s0 s1 s2 s3 s4 s5 s6 s7 s8;go_wp2_with fail
     generalize hW5:wr.alloc _=W5 at*;clear hW5;refine l6 ?_;iterate 7 (refine bJ fun K hK=>?_;go_big_quiet_step (fail);refine hK _ ?_;clear hK K)
     (refine pP (d:=76) (f:=87) (args:=#[.slice za zs.samples.length zc,.int .i64 fb,.int .i64 9223372036854775807]) (r:=fun y W=>aI W y (ek zs.samples fb 9223372036854775807)/\∀k,y.ownBlock=some k->W5.heap.size<=k) (fun x W W' hx hk=>⟨hx.1.below hk,hx.2⟩) (by kernel_rfl) (fun _ _ h=>by cases h) (by kernel_rfl) rfl (fun _=>by go_simp) (fun W hW=>(QB.out W hW).mono fun e w' ⟨y,h1,h2,h3,h4⟩=>⟨y,h1,h3,h2,fun k e=>aK hW.size (h4 k e)⟩) ?_);iterate 2 (refine bJ fun K hK=>?_;go_big_quiet_step (fail);refine hK _ ?_;clear hK K)
     refine eR ?_;intro w5 hb5;simp only[aB];rintro y ⟨hy1,hy2⟩;obtain⟨na,nc,rfl,_⟩:=id hy1;have R3:=R2.below hb5;have I3:=I2.next hb5;obtain⟨c0,c1,c2⟩:=gH.cell R3 HYZ.out;have fB:=bq (j:=j2*3+1) R3.1 rfl;have hfr:yD (.slice (some ⟨g,0,none⟩) m gc) (.slice na (ek zs.samples fb 9223372036854775807).length nc):=pd (n:=W5.heap.size) (fun k e=>by obtain rfl:=az e;exact dQ hgl.2 hwrs) hy2;have R4:=R3.setS HYZ.out hy1 hfr;have hat:=R4.at (by rw[List.length_set,hYl,HZL.out];omega);have HYN:=af (show (Y.set j2 (⟨zs.labels,ek zs.samples fb 9223372036854775807,zs.last⟩,.slice ya zs.labels.length yc,.slice na (ek zs.samples fb 9223372036854775807).length nc)).map (fun z=>z.1)=rV fb S1 (j2+1) by rw[List.map_set,HY.out,<-HMS.out,<-HZ1.out];rfl);rw[HYN.out] at hat;have HI4:=af (I3.far (b:=g) (j:=j2*3+1) (by have:=hgl.1;omega) hat);have HR4:=af R4;clear G1 G2 G3 QB R2 I2 R3 I3 R4 hat hfr hy1 hy2 hb5 HMS HZ1;go_wp2_with fail
     go_roundw
     case rel=>exact⟨j2+1,_,hjm,by go_num,by rw[List.length_set];exact hYl,HR4.out,HI4.out,HYN⟩
     case measure=>simp[intOf];omega
    ·rw[GS fb S1 (by rw[<-HZL.out];exact aF _)] at HY I;have hcB:=Iy hcap fb;have hcP:=vM hcB fb;have q:=af (uL _ _ fb _ I.ser);rw[<-xZ] at q hcP;have HCP:=af (And.intro hcP.1 (aK hcP.2 (by rw[List.length_map];exact hlen)));obtain⟨s0,s1,s2,s3,s4,s5,s6,s7,s8⟩:=I.facts;clear hYR hYl HY hcB hcP HMZ HZ HZL;go_wp2_with fail
     clear s0 s1 s2 s3 s4 s5 s6 s7 s8;refine q.out.mono ?_;rintro e w6 ⟨v6,rfl,hS6,hb6⟩;obtain⟨na,nc,rfl,_⟩:=id hS6;have I5:=I.next hb6;obtain⟨s0,s1,s2,s3,s4,s5,s6,s7,s8⟩:=I5.facts;have I6:=I5.setS hS6;obtain⟨t0,t1,t2,t3,t4,t5,t6,t7,t8⟩:=I6.facts;have HI7:=af (I6.setF fb);clear q I I5 I6 hS6 hb6;go_wp2_with fail
     go_meet;exact⟨kM S1 fb,_,by rw[HMX.out];exact HI7.out,HCP.out.1,HCP.out.2,af (if_pos HIF.out).symm⟩
   ·have HMX:=af (show max f fb=f by omega);have hffi:¬(f<fb):=hff;have HI:=af I;clear I;go_wp2_with fail
    go_meet;exact⟨S1,_,by rw[HMX.out];exact HI.out,hcap,hlen,af (by rw[if_neg (show ¬(f<fb) by omega)])⟩
  case rest=>
   clear I p2 p5 p6 p7 p8;obtain⟨S2,v2,I,hcap2,hlen2,H2⟩:=hcut;have HE2:=af (show jN ⟨S,f⟩ ⟨fb,R,T⟩=(if fx ⟨el (T.foldl fk S2) (max f fb),max f fb⟩ then(⟨el (T.foldl fk S2) (max f fb),max f fb⟩,0) else(⟨S,f⟩,9)) by rw[HE.out,H2.out,HJ.out]);generalize max f fb=F at*;obtain⟨va2,vc2,rfl,_⟩:=id I.ser;obtain⟨p0,p1,p2,p3,p4,p5,p6,p7,p8⟩:=I.facts;clear hcap hlen HE HJ H2;go_wp2_with fail
   clear p0 p1 p2 p3 p4 p5 p6 p7 p8;go_loopw [85] (fun vi wr=>∃(i:Nat) (S3:List aO) (v3:Value),i<=K/\vi=.int .i64 (i:Int)/\wQ w wr (.slice sa n sc) (.slice ra j rc) (.slice ta K tc) f fb v3 F S3/\iE (1000+i*1000) S3/\S3.length<=n+j+i/\Hid (S3=(T.take i).foldl fk S2)) (fun vi _=>K-(intOf vi).toNat)
   case atStart=>exact⟨0,S2,_,Nat.zero_le _,rfl,I,hcap2,hlen2,af rfl⟩
   clear I hcap2 hlen2;obtain⟨i,S3,v3,hi,rfl,I,hcap,hlen,HJ⟩:=hrel;obtain⟨vb,vd,rfl,_⟩:=id I.ser;rcases(show i<K\/i=K by omega) with hiK|rfl
   ·have hil:i<T.length:=by rw[HK.out];exact hiK
    have HL0:=af (show ∃sl0 sv0,jf w (T[i],sl0,sv0)/\∀sl,(∃g o,ta=some ⟨g,o,none⟩/\wr.cell? ⟨g,o+i*3,none⟩=some sl)->sl=sl0 from by
     obtain⟨gt,ot,sl,sv,e1,hV,d0,_,_⟩:=cq HT.out hil (Below.refl _ w)
     refine⟨sl,sv,hV,fun sl' ⟨g,o,e2,e3⟩=>?_⟩
     rw[e1] at e2
     cases e2
     exact(az ((cu I.below d0).symm.trans e3)).symm)
    obtain⟨gt,ot,sl,sv,rfl,hV,d0,d1,d2⟩:=cq HT.out hil I.below;have HL:=af (show aC w sl T[i].labels from by
     obtain⟨sl0,sv0,h1,h2⟩:=HL0.out
     rw[h2 sl ⟨_,_,rfl,d0⟩]
     exact h1.2.1)
    have HS:=af (wj fk S2 T hil);have hxc:T[i].samples.length<=1000:=HTc.out _ (dK hil);generalize T[i]=x at*;rw[<-HJ.out] at HS;obtain⟨xl,xs,xb⟩:=x;have hl:aC wr sl xl:=hV.2.1;have hs:aI wr sv xs:=hV.2.2;have hok:(⟨xl,xs,xb⟩:aO).ok:=hV.1;obtain⟨ya,yc,rfl,_⟩:=id hl;obtain⟨za,zc,rfl,_⟩:=id hs;simp only at d0 d1 d2 hxc;have b3:=ai wr (.cells #[.slice ya xl.length yc,.slice za xs.length zc,.int .i64 xb] 88);have k3:=ag.new wr 88 #[.slice ya xl.length yc,.slice za xs.length zc,.int .i64 xb];have I2:=I.next b3;have q:=af (jD _ _ S3 xl F _ I2.ser (hl.below b3));obtain⟨p0,p1,p2,p3,p4,p5,p6,p7,p8⟩:=I2.facts;have z0:=ax k3 0 (.slice ya xl.length yc) rfl;have hw9:IntKind.i64.wrap ((i:Int)+1)=(i:Int)+1:=ct _ (by omega);have hs:=hs.below b3;have HSER:=af I.ser;have hwsz:=I.size;clear hV I hl HL0;go_wp2_with fail
    generalize hW1:wr.alloc _=W1 at*;clear hW1 p0 p1 p2 p3 p4 p5 p6 p7 p8 d0 d1 d2 z0;refine bL q.out fun w2 hb2=>?_;have I3:=I2.next hb2;have k4:=ag.below k3 hb2 k3.lt;have hs:=hs.below hb2;have B2:=ay b3 hb2;obtain⟨p0,p1,p2,p3,p4,p5,p6,p7,p8⟩:=I3.facts;have z1:=ax k4 1 (.slice za xs.length zc) rfl;have hw2s:=k4.lt;clear q I2 k3 hb2 b3;go_upto_if 94 with fail
    go_cut [15] (fun _ wx=>∃(u:Value) (L':List cH),ag wx wr.heap.size 88 #[.slice ya xl.length yc,u,.int .i64 xb]/\aI wx u L'/\wQ w wx (.slice sa n sc) (.slice ra j rc) (.slice (some ⟨gt,ot,none⟩) K tc) f fb (.slice vb S3.length vd) F S3/\Hid (mj S3 ⟨xl,L',xb⟩=fk S3 ⟨xl,xs,xb⟩))
    case first=>
     cases hf:cP S3 xl with
     |none=>
      have HP:=af (xy (x:=⟨xl,xs,xb⟩) hf).symm;simp only[dU];clear hf;go_wp2_with fail
      go_meet;exact⟨_,xs,k4,hs,I3,HP⟩
     |some i2=>
      have hi2:=uk hf;obtain⟨gg,o2,sl2,sv2,e9,hV,c0,c1,c2⟩:=cq I3.ser hi2 (bR);obtain rfl:=e9;have hcy:S3[i2].samples.length<=1000+i*1000:=hcap _ (dK hi2);have HP:=af (xw (x:=⟨xl,xs,xb⟩) hf hi2).symm;generalize S3[i2]=y at*;obtain⟨yl,ys,yb⟩:=y;have hs2:aI w2 sv2 ys:=hV.2.2;obtain⟨zb,zd,rfl,_⟩:=id hs2;simp only at c0 c1 c2 hcy;have G1:=aj p5;have G2:=aj c1;have G3:=aj z1;have hlt:(0:Int)<=(i2:Int):=by omega
      have hil2:(i2:Int)<(S3.length:Int):=by omega
      simp only[dU];clear hf hV c0 c1 c2;go_wp2_with fail
      refine l6 ?_;iterate 8 (refine bJ fun K hK=>?_;go_big_quiet_step (fail);refine hK _ ?_;clear hK K)
      refine js 103 2 [.slice zb ys.length zd,.slice za xs.length zc] (by kernel_rfl) (fun _ _ h=>by cases h) (by kernel_rfl) rfl 86 (fun W=>by go_simp) ?_;refine BZ 103 (e:=104) (r:=eZ w2 2 [.slice zb ys.length zd,.slice za xs.length zc]) (s:=fun y W=>aI W y (ys++xs)/\∀k,y.ownBlock=some k->w2.heap.size<=k) (fun x W W' hx hk=>⟨hx.1.below hk,hx.2⟩) (by kernel_rfl) (fun _ _ h=>by cases h) rfl (by simp) (by kernel_rfl) (by kernel_rfl) (by kernel_rfl) rfl (fun x W hW hx=>by
       obtain⟨p,c,rfl,hp,hcells⟩:=hx
       have hc0:W.cell? ⟨p,0,none⟩=some (.slice zb ys.length zd):=by have:=hcells 0 _ rfl;rwa[du] at this
       have hc1:W.cell? ⟨p,1,none⟩=some (.slice za xs.length zc):=by have:=hcells 1 _ rfl;rwa[du] at this
       exact⟨89,#[.slice (some ⟨p,0,none⟩) 2 c],by go_simp,(C8 p c _ _ ys xs W (hs2.below hW) (hs.below hW) hc0 hc1 (by omega)).mono fun e w' ⟨y,h1,h2,h3,h4⟩=>⟨y,h1,h3,h2,fun k e=>aK hW.size (h4 k e)⟩⟩) ?_
      (refine bJ fun K hK=>?_;go_big_quiet_step (fail);refine hK _ ?_;clear hK K);refine eR ?_;intro w6 hb6;simp only[aB];rintro v6 ⟨hs6,hfr⟩ _ _;obtain⟨ua,uc,rfl,_⟩:=id hs6;clear G1 G2 G3 hs2 hs;generalize ys++xs=L2 at*;have k6:=ag.below k4 hb6 k4.lt;have hkk:ak w6 (w6.setCell ⟨wr.heap.size,1,none⟩ (.slice ua L2.length uc)) (fun k=>k=wr.heap.size):=ak.of_grown (ap _ _ _ _) fun k e=>(az e).symm;have B6:=ay B2 hb6;have B7:=B6.trans (hkk.below B6.size fun k e=>Nat.le_of_eq e.symm);have hs7:=hs6.kept hkk fun k e e2=>by have:=hfr k e;omega
      have HI7:=af ((I3.next hb6).far (b:=wr.heap.size) (j:=1) hwsz (HSER.out.below B7));have k7:ag (w6.setCell ⟨wr.heap.size,1,none⟩ (.slice ua L2.length uc)) wr.heap.size 88 #[.slice ya xl.length yc,.slice ua L2.length uc,.int .i64 xb]:=ag.set_ k6 1 _;have f1:=ag.frozen k6 1;have z1:=ax k6 1 (.slice za xs.length zc) rfl;clear hs6 hb6 hkk k4 k6 I3 B2 B6 B7;go_wp2_with fail
      go_meet;exact⟨_,L2,k7,hs7,HI7.out,HP⟩
    case rest=>
     clear I3 hs k4 B2 p0 p1 p2 p3 p4 p5 p6 p7 p8 z1;obtain⟨u,L',k5,hs5,I5,HP⟩:=hcut;obtain⟨ua,uc,rfl,_⟩:=id hs5;have hc2:=yY hcap ⟨xl,xs,xb⟩;have q:=af (AM _ _ _ S3 ⟨xl,L',xb⟩ _ I5.ser ⟨⟨eq hs5,hok.2⟩,HL.out.below I5.below,hs5⟩ (by omega));rw[HP.out] at q;rw[<-HS.out] at q hc2;have y0:=ax k5 0 (.slice ya xl.length yc) rfl;have y1:=ax k5 1 (.slice ua L'.length uc) rfl;have y2:=ax k5 2 (.int .i64 xb) rfl;obtain⟨p0,p1,p2,p3,p4,p5,p6,p7,p8⟩:=I5.facts;have HC2:=af hc2;clear hs5 k5 hc2;go_wp2_with fail
     clear p0 p1 p2 p3 p4 p5 p6 p7 p8 y0 y1 y2;refine q.out.mono ?_;rintro e w6 ⟨v6,rfl,hS6,hb6⟩;obtain⟨na,nc,rfl,_⟩:=id hS6;have I6:=I5.next hb6;obtain⟨p0,p1,p2,p3,p4,p5,p6,p7,p8⟩:=I6.facts;have HI7:=af (I6.setS hS6);clear q I5 hS6 hb6 I6;go_wp2_with fail
     go_roundw
     case rel=>exact⟨i+1,_,_,hiK,by go_num,HI7.out,FE HC2.out.1 (by show 1000+i*1000+xs.length<=_;omega),by have:=HC2.out.2;omega,af rfl⟩
     case measure=>simp[intOf];omega
   ·rw[List.take_of_length_le (by rw[HK.out];exact aF _)] at HJ;rw[<-HJ.out] at HE2;have q:=af (uL _ S3 F _ I.ser);have hpl:=(vM hcap F).2;obtain⟨p0,p1,p2,p3,p4,p5,p6,p7,p8⟩:=I.facts;go_wp2_with fail
    clear p0 p1 p2 p3 p4 p5 p6 p7 p8;refine q.out.mono ?_;rintro e w6 ⟨v6,rfl,hS6,hb6⟩;obtain⟨na,nc,rfl,_⟩:=id hS6;have I6:=I.next hb6;obtain⟨p0,p1,p2,p3,p4,p5,p6,p7,p8⟩:=I6.facts;have I7:=I6.setS hS6;obtain⟨t0,t1,t2,t3,t4,t5,t6,t7,t8⟩:=I7.facts;have I8:=I7.setF F;obtain⟨u0,u1,u2,u3,u4,u5,u6,u7,u8⟩:=I8.facts;have q2:=af (ol _ _ F _ I8.ser);have HE3:=af HE2.out;clear q I I6 I7 hS6 hb6 HE2 HJ hcap;generalize el S3 F=S4 at*;go_wp2_with fail
    generalize hW8:(w6.setCell _ _).setCell _ _=W8 at*;clear hW8 p0 p1 p2 p3 p4 p5 p6 p7 p8 t0 t1 t2 t3 t4 t5 t6 t7 t8 u0 u1 u2 u3 u4 u5 u6 u7 u8;refine bL q2.out fun w9 hb9=>?_;have I9:=I8.next hb9;obtain⟨p0,p1,p2,p3,p4,p5,p6,p7,p8⟩:=I9.facts;have f0:=ag.frozen I9.b2 0;have f1:=ag.frozen I9.b2 1;have c0:=ax I9.b2 0 (.slice none 0 0) rfl;have c1:=ax I9.b2 1 (.int .i64 0) rfl;clear q2 I8 hb9;cases hv:fx ⟨S4,F⟩ with
    |true=>
     rw[hv,if_pos rfl] at HE3;obtain⟨r1,r2,r3⟩:=iB I9.below (show w.heap.size<=w.heap.size+2 by omega) I9.b2 (.slice na S4.length nc) F;have hS9:=af (r3 _ _ I9.ser);clear I9 hv;go_wp2_with fail
     refine i6 r1 Tryz.underlying49 ?_;unfold dL;rw[HE3.out];exact⟨⟨_,rfl,hS9.out⟩,r2⟩
    |false=>
     rw[hv,if_neg (by decide)] at HE3;obtain⟨r1,r2,r3⟩:=iB I9.below (show w.heap.size<=w.heap.size+2 by omega) I9.b2 (.slice sa n sc) f;have hS9:=af (r3 _ _ (H.out.below I9.below));clear I9 hv;go_wp2_with fail
     refine i6 r1 Tryz.underlying49 ?_;unfold dL;rw[HE3.out];exact⟨⟨_,rfl,hS9.out⟩,r2⟩
end
section
open Go.RowKit
open Go.RowKit
open Go.RowKit
end
section
open Go.RowKit
def Ih (S:List aO):Nat:=(S.map fun x=>x.samples.length).sum
theorem tm(g:cH->Bool):∀L:List cH,(iy none (L.map fun y=>(y,g y))).length<=L.length/\∀p,(iy (some p) (L.map fun y=>(y,g y))).length<=L.length+1
 |[]=>⟨aF _,fun _=>aF _⟩
 |x::L=>by
  obtain⟨h1,h2⟩:=tm g L;cases hg:g x with
  |true=>
   refine⟨?_,fun p=>?_⟩
   ·have:=h2 (x.1,x.1);rw[List.map_cons,hg,iy,cY];omega
   ·have:=h2 (p.1,x.1);rw[List.map_cons,hg,iy,cY];omega
  |false=>
   refine⟨?_,fun p=>?_⟩
   ·rw[List.map_cons,hg,iy,cY];omega
   ·rw[List.map_cons,hg,iy,cY,cY];omega
theorem Hx(s t:kt):(lP s t).gone.length<=Ih s.ser:=by
 have e:(lP s t).gone=s.ser.flatMap fun x=>(iy none (x.samples.map fun z=>(z,decide ((lP s t).floor<=z.1)&& !decide (z∈gK t.ser x.labels)))).map fun p=>(⟨1,x.labels,p.1,p.2,0⟩:Rc):=rfl;rw[e];generalize (lP s t).floor=f;unfold Ih;induction s.ser with
 |nil=>exact aF _
 |cons x S ih=>
  have:=(tm (fun z=>decide (f<=z.1)&& !decide (z∈gK t.ser x.labels)) x.samples).1;rw[List.flatMap_cons,aG,List.length_map,List.map_cons,List.sum_cons];omega
end
section
open Go Go.RowKit
attribute [local go_sem] am aq
def GV(D:Nat):Deferred:={target:=.collected D,args:=#[]}
theorem oW{F:Fence}{n:Nat}{P:Program}{fn:Func}{tmps:Array Value}{R:Ending->World->Prop}:∀(ds:List Nat) (w:World),ds.Nodup->(∀D∈ds,w.heap[D]?=some (.deferred (some [])))->(∀w',ak w w' (fun k=>k∈ds)->∃v,(results fn tmps).run P w'=.ok v w'/\R (.returned v) w')->LeavesInM F n P fn tmps R (ds.map GV) .returning w
 |[],w,_,_,h=>h w (ak.refl _ _)
 |D::ds,w,hn,hW,h=>by
  obtain⟨hn1,hn2⟩:=List.nodup_cons.1 hn;have hk:ak w (w.putObj D (.deferred none)) (fun k=>k=D):=ak.of_grown (grownBy_putObj' w D _) fun k e=>(az e).symm;refine⟨by simp,.inl ⟨D,_,rfl,run_takeDeferred (hW D List.mem_cons_self),oW ds _ hn2 (fun E hE=>?_) fun w' hk'=>h w' ?_⟩⟩
  ·rw[World.putObj_heap_other (fun e=>hn1 (by subst e;exact hE))];exact hW E (List.mem_cons_of_mem _ hE)
  ·exact(hk.weaken fun k e=>by subst e;exact List.mem_cons_self).trans (hk'.weaken fun k e=>List.mem_cons_of_mem _ e)
def iK(w:World)(B:Nat)(ds:List Nat):Prop:=ds.Nodup/\∀D∈ds,B<=D/\w.heap[D]?=some (.deferred (some []))
theorem EL(w:World)(B:Nat):iK w B []:=⟨List.nodup_nil,fun D h=>by cases h⟩
theorem iK.kept{w w':World}{B:Nat}{ds:List Nat}{S:Nat->Prop}(h:iK w B ds)(hk:ak w w' S)(hS:∀k,S k->k∉ds):iK w' B ds:=
 ⟨h.1,fun D hD=>⟨(h.2 D hD).1,(hk.block D (Array.getElem?_eq_some_iff.1 (h.2 D hD).2).1 fun e=>hS D e hD).trans (h.2 D hD).2⟩⟩
theorem iK.cons{w:World}{B D:Nat}{ds:List Nat}(h:iK w B ds)(hD:w.heap[D]?=some (.deferred (some [])))(hB:B<=D)(hn:D∉ds):iK w B (D::ds):=
 ⟨List.nodup_cons.2 ⟨hn,h.1⟩,fun E hE=>by
  rcases List.mem_cons.1 hE with rfl|hE
  ·exact⟨hB,hD⟩
  ·exact h.2 E hE⟩
structure yE(w wr:World)(fv tv:Value)(ff tf f:Int)(gv sv:Value)(Z:List (Rc×Value))(Y:List (aO×Value×Value)):Prop where
 b0:ag wr w.heap.size 49 #[fv,.int .i64 ff]
 b1:ag wr (w.heap.size+1) 49 #[tv,.int .i64 tf]
 b2:ag wr (w.heap.size+2) 25 #[.int .i64 0,.slice none 0 0,.slice none 0 0]
 b3:ag wr (w.heap.size+3) 25 #[.int .i64 f,gv,sv]
 below:Below w.heap.size w wr
 size:w.heap.size+4<=wr.heap.size
 grow:wr.ownsRow (w.heap.size+4) 108 5 gv Z.length (aU Z)
 glab:∀z∈Z,z.1.ok/\aC w z.2 z.1.labels
 srow:wr.ownsRow (w.heap.size+4) 88 3 sv Y.length (aL eT Y)
 sser:∀z∈Y,ix wr sv z
section
variable {w wr w':World} {fv tv gv sv:Value} {ff tf f:Int} {Z:List (Rc×Value)} {Y:List (aO×Value×Value)}
theorem yE.next(h:yE w wr fv tv ff tf f gv sv Z Y)(hb:Below wr.heap.size wr w'):yE w w' fv tv ff tf f gv sv Z Y:=
 ⟨ag.below h.b0 hb h.b0.lt,ag.below h.b1 hb h.b1.lt,ag.below h.b2 hb h.b2.lt,ag.below h.b3 hb h.b3.lt,h.below.trans (hb.mono h.below.size),aK h.size hb.size,
  aw h.grow (ak.of_below (S:=fun _=>False) hb) (fun _ _ e=>e),h.glab,aw h.srow (ak.of_below (S:=fun _=>False) hb) (fun _ _ e=>e),fun z hz=>(h.sser z hz).below hb⟩
end
theorem pJ{W:World}{B n sz r:Nat}{T:TypeId}{v:Value}{xs:List Value}{o:Obj}(h:W.ownsRow B T sz v n xs)(hr:W.heap[r]?=some o)(ho:o.isCells=false):v.ownBlock≠some r:=fun e=>by
 have:=bg h e;unfold ng at this;rw[hr] at this;cases o<;>simp_all [Obj.isCells,Ge]
theorem ll{W:World}{B n sz g:Nat}{T U:TypeId}{v:Value}{xs:List Value}{cs:Array Value}(h:W.ownsRow B T sz v n xs)(hb:ag W g U cs)(hne:T≠U):v.ownBlock≠some g:=fun e=>by
 have h1:=bg h e;rw[aP hb] at h1;exact hne (az (az h1)).symm
theorem zU{W W':World}{A B n sz:Nat}{T:TypeId}{v:Value}{xs:List Value}(h:W.ownsRow B T sz v n xs)(hg:W.grownBy W' v.ownBlock):KeepsFrom A W W':=
 ⟨hg.size,fun k _ _ hk ho=>(hg.block k (Array.getElem?_eq_some_iff.1 hk).1 fun e=>pJ h hk ho e.symm).trans hk⟩
section
variable {w wr w':World} {fv tv gv:Value} {ff tf f:Int} {Z:List (Rc×Value)}
theorem yE.turn(h:yE w wr fv tv ff tf f gv (.slice none 0 0) Z []){row:Option Nat}(hg:wr.grownBy w' row)(hr:∀r,row=some r->w.heap.size+4<=r/\∃o,wr.heap[r]?=some o/\o.isCells=false):yE w w' fv tv ff tf f gv (.slice none 0 0) Z []:=by
 have hne:∀k,k<w.heap.size+4->some k≠row:=fun k hk e=>by have:=(hr k e.symm).1;omega
 refine⟨ag.grown h.b0 hg (hne _ (by omega)),ag.grown h.b1 hg (hne _ (by omega)),ag.grown h.b2 hg (hne _ (by omega)),ag.grown h.b3 hg (hne _ (by omega)),h.below.trans ((ak.of_grown (S:=fun k=>row=some k) hg fun k e=>e).below h.below.size fun k e=>by have:=(hr k e).1;omega),aK h.size hg.size,
  aw h.grow (ak.of_grown (S:=fun k=>row=some k) hg fun k e=>e) (fun b hb e=>?_),h.glab,eE,by simp⟩
 obtain⟨_,o,ho,hc⟩:=hr b e;exact pJ h.grow ho hc hb
theorem yE.putG(h:yE w wr fv tv ff tf f gv (.slice none 0 0) Z []){w5:World}{u sl:Value}{r:Rc}(hg:wr.grownBy w5 gv.ownBlock)(hrow:w5.ownsRow (w.heap.size+4) 108 5 u (Z.length+1) (aU Z++gq r sl))(hl:r.ok/\aC w sl r.labels):
 yE w (w5.setCell ⟨w.heap.size+3,1,none⟩ u) fv tv ff tf f u (.slice none 0 0) (Z++[(r,sl)]) []:=by
 have hlt:=h.grow.lt
 have hne:∀k,k<w.heap.size+4->some k≠gv.ownBlock:=fun k hk e=>by have:=(hlt k e.symm).1;omega
 have hkk:ak w5 (w5.setCell ⟨w.heap.size+3,1,none⟩ u) (fun k=>k=w.heap.size+3):=ak.of_grown (ap _ _ _ _) fun k e=>(az e).symm
 have hB:Below w.heap.size w w5:=h.below.trans ((ak.of_grown (S:=fun k=>gv.ownBlock=some k) hg fun k e=>e).below h.below.size fun k e=>by have:=(hlt k e).1;omega)
 refine⟨ag.far (ag.grown h.b0 hg (hne _ (by omega))) (by simp) _,ag.far (ag.grown h.b1 hg (hne _ (by omega))) (by simp) _,ag.far (ag.grown h.b2 hg (hne _ (by omega))) (by simp) _,ag.set_ (ag.grown h.b3 hg (hne _ (by omega))) 1 _,hB.trans (hkk.below hB.size fun k e=>by omega),aK (aK h.size hg.size) hkk.size,?_,fun z hz=>?_,eE,by simp⟩
 ·rw[aG];have:=aw hrow hkk fun b hb e=>by have:=(hrow.lt b hb).1;omega
  unfold aU at this⊢;rw[List.flatMap_append,List.flatMap_cons,List.flatMap_nil,List.append_nil];exact this
 ·rcases List.mem_append.1 hz with hz|hz
  ·exact h.glab z hz
  ·obtain rfl:=List.mem_singleton.1 hz;exact hl
end
def lU(w:World)(rl ri lb:Nat)(f0 qb:Int)(lv fv sl mv:Value)(W:World):Prop:=
 Below w.heap.size w W/\ag W rl 86 #[lv]/\ag W ri 150 #[fv]/\ag W lb 88 #[sl,mv,.int .i64 qb]/\∃gv sv,ag W (w.heap.size+3) 25 #[.int .i64 f0,gv,sv]
section
variable {w W W':World} {rl ri lb:Nat} {f0 qb:Int} {lv fv sl mv:Value}
theorem lU.next(h:lU w rl ri lb f0 qb lv fv sl mv W)(hb:Below W.heap.size W W'):lU w rl ri lb f0 qb lv fv sl mv W':=by
 obtain⟨h1,h2,h3,h4,gv,sv,h5⟩:=h;exact⟨ay h1 hb,ag.below h2 hb h2.lt,ag.below h3 hb h3.lt,ag.below h4 hb h4.lt,gv,sv,ag.below h5 hb h5.lt⟩
theorem lU.grown(h:lU w rl ri lb f0 qb lv fv sl mv W){row:Option Nat}(hg:W.grownBy W' row)(hr:∀k,row=some k->w.heap.size+4<=k/\k≠rl/\k≠ri/\k≠lb):lU w rl ri lb f0 qb lv fv sl mv W':=by
 obtain⟨h1,h2,h3,h4,gv,sv,h5⟩:=h;exact⟨h1.trans ((ak.of_grown (S:=fun k=>row=some k) hg fun k e=>e).below h1.size fun k e=>by have:=(hr k e).1;omega),ag.grown h2 hg fun e=>(hr rl e.symm).2.1 rfl,ag.grown h3 hg fun e=>(hr ri e.symm).2.2.1 rfl,ag.grown h4 hg fun e=>(hr lb e.symm).2.2.2 rfl,gv,sv,ag.grown h5 hg fun e=>by have:=(hr _ e.symm).1;omega⟩
theorem lU.setG(h:lU w rl ri lb f0 qb lv fv sl mv W)(hn:w.heap.size+4<=rl/\w.heap.size+4<=ri/\w.heap.size+4<=lb)(u:Value):lU w rl ri lb f0 qb lv fv sl mv (W.setCell ⟨w.heap.size+3,1,none⟩ u):=by
 obtain⟨h1,h2,h3,h4,gv,sv,h5⟩:=h;exact⟨h1.trans ((ak.of_grown (S:=fun k=>k=w.heap.size+3) (ap W (w.heap.size+3) 1 u) fun k e=>(az e).symm).below h1.size fun k e=>by omega),ag.far h2 (by simp;omega) _,ag.far h3 (by simp;omega) _,ag.far h4 (by simp;omega) _,u,sv,ag.set_ h5 1 _⟩
end
theorem Jm{p:cH->Bool}{L:List cH}(h:∀x∈L,ew x):(∀i,∀q∈en p L i,(-9223372036854775808<=q.1/\q.1<=9223372036854775807)/\ -9223372036854775808<=q.2/\q.2<=9223372036854775807):=by
 have key:∀(M:List (cH×Bool)),(∀x∈M,ew x.1)->(∀q∈iy none M,(-9223372036854775808<=q.1/\q.1<=9223372036854775807)/\ -9223372036854775808<=q.2/\q.2<=9223372036854775807)/\∀a b:Int,(-9223372036854775808<=a/\a<=9223372036854775807)->(-9223372036854775808<=b/\b<=9223372036854775807)->∀q∈iy (some (a,b)) M,(-9223372036854775808<=q.1/\q.1<=9223372036854775807)/\ -9223372036854775808<=q.2/\q.2<=9223372036854775807:=by
  intro M;induction M with
  |nil=>
   intro _;refine⟨fun q hq=>(by cases hq),fun a b ha hb q hq=>?_⟩;obtain rfl:=List.mem_singleton.1 hq;exact⟨ha,hb⟩
  |cons x M ih=>
   intro hM;obtain⟨i1,i2⟩:=ih fun y hy=>hM y (List.mem_cons_of_mem _ hy);have hx:=(hM x List.mem_cons_self).1;obtain⟨x,c⟩:=x;cases c with
   |true=>exact⟨fun q hq=>i2 _ _ hx hx q hq,fun a b ha _ q hq=>i2 _ _ ha hx q hq⟩
   |false=>
    refine⟨fun q hq=>i1 q hq,fun a b ha hb q hq=>?_⟩;rcases List.mem_cons.1 hq with rfl|hq
    ·exact⟨ha,hb⟩
    ·exact i1 q hq
 intro i q hq;exact(key _ fun x hx=>by
  obtain⟨y,hy,rfl⟩:=List.mem_map.1 hx
  exact h y (List.mem_of_mem_drop hy)).1 q hq
theorem Cp{α β:Type}(g:α->List β)(L:List α){j:Nat}(h:j<L.length):(L.take (j+1)).flatMap g=(L.take j).flatMap g++g L[j]:=by
 rw[eM h,List.flatMap_append,List.flatMap_cons,List.flatMap_nil,List.append_nil]
theorem aC.bk{w w':World}{b:Nat}{T:TypeId}{a1 a2:Option Addr}{n1 n2 c1 c2:Nat}{ik:IntKind}{f:Int}{v:Value}{L:List Lb}(h:aC w v L)(hB:ag w b T #[.int ik f,.slice a1 n1 c1,.slice a2 n2 c2])(hk:ak w w' (fun k=>k=b)):aC w' v L:=by
 obtain⟨a',c',rfl,h2,h3⟩:=h;refine⟨a',c',rfl,h2,fun i x hx=>?_⟩;obtain⟨k1,k2,g,o,e,k3,k4⟩:=h3 i x hx;have hne:g≠b:=fun e=>by
  subst e;rw[ag.cell hB] at k3;generalize o+i*2=j at k3;match j with
  |0=>simp at k3
  |1=>simp at k3
  |2=>simp at k3
  |j+3=>simp at k3
 exact⟨k1,k2,g,o,e,hk.cell k3 hne,hk.cell k4 hne⟩
theorem aI.bk{w w':World}{b:Nat}{T:TypeId}{a1 a2:Option Addr}{n1 n2 c1 c2:Nat}{ik:IntKind}{f:Int}{v:Value}{L:List cH}(h:aI w v L)(hB:ag w b T #[.int ik f,.slice a1 n1 c1,.slice a2 n2 c2])(hk:ak w w' (fun k=>k=b)):aI w' v L:=by
 obtain⟨a',c',rfl,h2,h3,h4,h5⟩:=h;refine⟨a',c',rfl,h2,h3,h4,fun i x hx=>?_⟩;obtain⟨g,o,e,k1,k2,k3⟩:=h5 i x hx;have hne:g≠b:=fun e=>by
  subst e;rw[ag.cell hB] at k2 k3;generalize o+i*2=j at k2 k3;match j with
  |0=>simp at k3
  |1=>simp at k2
  |2=>simp at k2
  |j+3=>simp at k2
 exact⟨g,o,e,k1,hk.cell k2 hne,hk.cell k3 hne⟩
section
variable {w wr:World} {fv tv gv sv:Value} {ff tf f:Int} {Z:List (Rc×Value)} {Y:List (aO×Value×Value)}
theorem yE.putS(h:yE w wr fv tv ff tf f gv sv Z Y)(hsep:∀k,sv.ownBlock=some k->gv.ownBlock≠some k){w5:World}{na:Option Addr}{nc:Nat}{z:aO×Value×Value}(hk:ak wr w5 (fun k=>sv.ownBlock=some k))(hrow:w5.ownsRow (w.heap.size+4) 88 3 (.slice na (Y.length+1) nc) (Y.length+1) (aL eT Y++eT z))(hloc:(Value.slice na (Y.length+1) nc).ownBlock=sv.ownBlock\/∀k,(Value.slice na (Y.length+1) nc).ownBlock=some k->wr.heap.size<=k)(hz:ix wr sv z):
 yE w (w5.setCell ⟨w.heap.size+3,2,none⟩ (.slice na (Y.length+1) nc)) fv tv ff tf f gv (.slice na (Y.length+1) nc) Z (Y++[z])/\∀k,(Value.slice na (Y.length+1) nc).ownBlock=some k->gv.ownBlock≠some k:=by
 have hlt:=h.srow.lt
 have hne:∀k,k<w.heap.size+4->¬(sv.ownBlock=some k):=fun k hk e=>by have:=(hlt k e).1;omega
 have hkk:ak w5 (w5.setCell ⟨w.heap.size+3,2,none⟩ (.slice na (Y.length+1) nc)) (fun k=>k=w.heap.size+3):=ak.of_grown (ap _ _ _ _) fun k e=>(az e).symm
 have hB:Below w.heap.size w w5:=h.below.trans (hk.below h.below.size fun k e=>by have:=(hlt k e).1;omega)
 obtain⟨ga,gc,rfl⟩:=aH h.grow
 obtain⟨sa,sc,rfl⟩:=aH h.srow
 have k3:=ag.keptK h.b3 hk (hne _ (by omega))
 refine⟨⟨ag.far (ag.keptK h.b0 hk (hne _ (by omega))) (by simp) _,ag.far (ag.keptK h.b1 hk (hne _ (by omega))) (by simp) _,ag.far (ag.keptK h.b2 hk (hne _ (by omega))) (by simp) _,ag.set_ k3 2 _,hB.trans (hkk.below hB.size fun k e=>by omega),aK (aK h.size hk.size) hkk.size,aw (aw h.grow hk fun b hb e=>hsep b e hb) hkk (fun b hb e=>by have:=(h.grow.lt b hb).1;omega),h.glab,?_,fun y hy=>?_⟩,fun k e e2=>?_⟩
 ·rw[aG,dO,gE];exact aw hrow hkk fun b hb e=>by have:=(hrow.lt b hb).1;omega
 ·have key:∀y,ix wr (.slice sa Y.length sc) y->ix (w5.setCell ⟨w.heap.size+3,2,none⟩ (.slice na (Y.length+1) nc)) (.slice na (Y.length+1) nc) y:=fun y hy=>by
   have h1:=hy.turn hloc;have h2:=hy.kept hk;exact⟨⟨h2.1.1,h2.1.2.1.bk k3 hkk,h2.1.2.2.bk k3 hkk⟩,h1.2⟩
  rcases List.mem_append.1 hy with hy|hy
  ·exact key y (h.sser y hy)
  ·obtain rfl:=List.mem_singleton.1 hy;exact key _ hz
 ·rcases hloc with hl|hl
  ·exact hsep k (hl▸e) e2
  ·have:=hl k e;have:=(h.grow.lt k e2).2;omega
end
theorem xC(S:List aO)(l:List Lb):gK S l=(oq S l).1.samples:=by
 unfold gK oq;cases cP S l<;>rfl
theorem Hj(S:List aO)(l:List Lb)(t:Int):(tQ S l≠some t)↔((oq S l).2=false\/(oq S l).1.last≠t):=by
 unfold tQ oq;cases cP S l with
 |none=>simp
 |some i=>simp
def EF (S:List aO)(x:aO):Option aO:=if 0<(x.samples.filter fun y=> !decide (y∈(oq S x.labels).1.samples)).length\/(oq S x.labels).2=false\/(oq S x.labels).1.last≠x.last then some ⟨x.labels,x.samples.filter fun y=> !decide (y∈(oq S x.labels).1.samples),x.last⟩ else none
theorem ul{α β:Type}(g:α->Option β)(L:List α){j:Nat}(h:j<L.length):(L.take (j+1)).filterMap g=(L.take j).filterMap g++(g L[j]).toList:=by
 rw[eM h,List.filterMap_append];congr 1
def pS(f0:Int)(T:List aO)(x:aO):List Rc:=(en (fun y=>decide (f0<=y.1)&& !decide (y∈(oq T x.labels).1.samples)) x.samples 0).map fun p=>⟨1,x.labels,p.1,p.2,0⟩
theorem Ie(S T:List aO)(ff tf:Int):lP ⟨S,ff⟩ ⟨T,tf⟩=⟨if ff<tf then tf else 0,S.flatMap (pS (if ff<tf then tf else 0) T),T.filterMap (EF S)⟩:=by
 have e:(fun x:aO=>if (x.samples.filter fun y=> !decide (y∈(oq S x.labels).1.samples))≠[]\/tQ S x.labels≠some x.last then some (⟨x.labels,x.samples.filter fun y=> !decide (y∈(oq S x.labels).1.samples),x.last⟩:aO) else none)=EF S:=by
  funext x;unfold EF;have h1:((x.samples.filter fun y=> !decide (y∈(oq S x.labels).1.samples))≠[]\/tQ S x.labels≠some x.last)↔(0<(x.samples.filter fun y=> !decide (y∈(oq S x.labels).1.samples)).length\/(oq S x.labels).2=false\/(oq S x.labels).1.last≠x.last):=by
   rw[Hj,List.length_pos_iff]
  by_cases h:0<(x.samples.filter fun y=> !decide (y∈(oq S x.labels).1.samples)).length\/(oq S x.labels).2=false\/(oq S x.labels).1.last≠x.last
  ·rw[if_pos h,if_pos (h1.2 h)]
  ·rw[if_neg h,if_neg fun h2=>h (h1.1 h2)]
 unfold lP;simp only[xC];rw[<-e];rfl
theorem zj{w:World}{B n:Nat}{T:TypeId}{v:Value}{Z:List (Rc×Value)}(h:w.ownsRow B T 5 v n (aU Z))(hzn:Z.length=n)(hn:Z.length<=100000)(hl:∀z∈Z,z.1.ok/\aC w z.2 z.1.labels):dw w v (Z.map fun z=>z.1):=by
 obtain⟨a,c,h1,_,h3,_,h5⟩:=s9 (sz:=5) (enc:=fun z:Rc×Value=>gq z.1 z.2) (At:=rM) (val:=fun z=>z.1) (fun _=>rfl) h hzn hn fun z hz b o hc=>by
  obtain⟨h1,h2⟩:=hl z hz;exact⟨h1,z.2,by have:=hc 0 _ rfl;simpa using this,hc 1 _ rfl,h2,hc 2 _ rfl,hc 3 _ rfl,hc 4 _ rfl⟩
 exact⟨a,c,h1,by omega,h5⟩
theorem mW{w w':World}{ds:List Nat}(hk:ak w w' (fun k=>k∈ds))(hd:∀D∈ds,∃o,w.heap[D]?=some o/\o.isCells=false){p:Addr}{u:Value}(h:w.cell? p=some u):w'.cell? p=some u:=hk.cell h fun hm=>by
 obtain⟨o,h1,h2⟩:=hd _ hm;unfold World.cell? at h;rw[h1] at h;cases o<;>simp_all [Obj.isCells]
theorem aC.ck{w w':World}{ds:List Nat}{v:Value}{L:List Lb}(h:aC w v L)(hk:ak w w' (fun k=>k∈ds))(hd:∀D∈ds,∃o,w.heap[D]?=some o/\o.isCells=false):aC w' v L:=by
 obtain⟨a',c',rfl,h2,h3⟩:=h;refine⟨a',c',rfl,h2,fun i x hx=>?_⟩;obtain⟨k1,k2,g,o,e,k3,k4⟩:=h3 i x hx;exact⟨k1,k2,g,o,e,mW hk hd k3,mW hk hd k4⟩
theorem aI.ck{w w':World}{ds:List Nat}{v:Value}{L:List cH}(h:aI w v L)(hk:ak w w' (fun k=>k∈ds))(hd:∀D∈ds,∃o,w.heap[D]?=some o/\o.isCells=false):aI w' v L:=by
 obtain⟨a',c',rfl,h2,h3,h4,h5⟩:=h;refine⟨a',c',rfl,h2,h3,h4,fun i x hx=>?_⟩;obtain⟨g,o,e,k1,k2,k3⟩:=h5 i x hx;exact⟨g,o,e,k1,mW hk hd k2,mW hk hd k3⟩
end
section
open Go Go.RowKit Go.Shelf
attribute [local go_sem] am aq
attribute [local go_sem] Oper.semAt_some
def KW(w:World)(b:nd)(e:Ending)(w':World):Prop:=∃gv sv,e=.returned (.agg #[.int .i64 b.floor,gv,sv])/\jE w' gv sv b/\Below w.heap.size w w'
theorem wR(fv tv:Value)(S T:List aO)(ff tf:Int)(w:World)(h:aM w fv S)(hT:aM w tv T)(hS:S.length<=300)(hTl:T.length<=300)(hSc:iE 1000 S)(hTc:iE 1000 T)(htf: -9223372036854775808<=tf/\tf<=9223372036854775807)(hcnt:Ih S<=100000):
 Calls Tryz.prog 27 #[.agg #[fv,.int .i64 ff],.agg #[tv,.int .i64 tf]] w (KW w (lP ⟨S,ff⟩ ⟨T,tf⟩)):=by
 obtain⟨sa,sc,rfl,_⟩:=id h
 obtain⟨ta,tc,rfl,_⟩:=id hT
 have H:=af h
 have HT:=af hT
 have HC:=af (And.intro hSc hTc)
 have HF:=af htf
 have HDK:=af (And.intro (Ie S T ff tf) (aK (Hx ⟨S,ff⟩ ⟨T,tf⟩) hcnt))
 clear hcnt
 obtain⟨n,hn1⟩:∃n,S.length=n:=⟨_,rfl⟩
 obtain⟨m,hm1⟩:∃m,T.length=m:=⟨_,rfl⟩
 have HN:=af hn1
 have HM:=af hm1
 have b1:=ai w (.cells #[.slice sa S.length sc,.int .i64 ff] 49)
 have b2:=b1.alloc b1.size (.cells #[.slice ta T.length tc,.int .i64 tf] 49)
 have b3:=b2.alloc b2.size (.cells #[.int .i64 0,.slice none 0 0,.slice none 0 0] 25)
 have b4:=b3.alloc b3.size (.cells #[.int .i64 0,.slice none 0 0,.slice none 0 0] 25)
 have k1:=((ag.alloc (ag.new w 49 #[.slice sa S.length sc,.int .i64 ff]) (.cells #[.slice ta T.length tc,.int .i64 tf] 49)).alloc (.cells #[.int .i64 0,.slice none 0 0,.slice none 0 0] 25)).alloc (.cells #[.int .i64 0,.slice none 0 0,.slice none 0 0] 25)
 have k2:=((ag.new (w.alloc (.cells #[.slice sa S.length sc,.int .i64 ff] 49)) 49 #[.slice ta T.length tc,.int .i64 tf]).alloc (.cells #[.int .i64 0,.slice none 0 0,.slice none 0 0] 25)).alloc (.cells #[.int .i64 0,.slice none 0 0,.slice none 0 0] 25)
 have k3:=(ag.new ((w.alloc (.cells #[.slice sa S.length sc,.int .i64 ff] 49)).alloc (.cells #[.slice ta T.length tc,.int .i64 tf] 49)) 25 #[.int .i64 0,.slice none 0 0,.slice none 0 0]).alloc (.cells #[.int .i64 0,.slice none 0 0,.slice none 0 0] 25)
 have k4:=ag.new (((w.alloc (.cells #[.slice sa S.length sc,.int .i64 ff] 49)).alloc (.cells #[.slice ta T.length tc,.int .i64 tf] 49)).alloc (.cells #[.int .i64 0,.slice none 0 0,.slice none 0 0] 25)) 25 #[.int .i64 0,.slice none 0 0,.slice none 0 0]
 rw[aW] at k2
 rw[aW,aW] at k3
 rw[aW,aW,aW] at k4
 have hs4:w.heap.size+4<=((((w.alloc (.cells #[.slice sa S.length sc,.int .i64 ff] 49)).alloc (.cells #[.slice ta T.length tc,.int .i64 tf] 49)).alloc (.cells #[.int .i64 0,.slice none 0 0,.slice none 0 0] 25)).alloc (.cells #[.int .i64 0,.slice none 0 0,.slice none 0 0] 25)).heap.size:=by rw[aW,aW,aW,aW];exact aF _
 have y0:=ax k1 1 (.int .i64 ff) rfl
 have y1:=ax k2 1 (.int .i64 tf) rfl
 have f3:=ag.frozen k4 0
 have y3:=ax k4 0 (.int .i64 0) rfl
 rw[hn1] at hS H b1 b2 b3 b4 k1 k2 k3 k4 hs4 y0 y1 f3 y3
 rw[hm1] at hTl HT b2 b3 b4 k1 k2 k3 k4 hs4 y0 y1 f3 y3
 rw[hn1,hm1]
 clear b1 b2 b3 h hT hSc hTc htf hn1 hm1
 refine(callsIn_wide (n:=8)).1 (callsIn_of_wp_marks (n:=8) Tryz.func27 rfl trivial (wpIn_wide.2 ?_) rfl)
 simp only[Tryz.ntmps27,List.size_toArray,cY,List.length_nil,Nat.reduceAdd,Nat.reduceSub,Array.replicate_succ,Array.replicate_zero,List.push_toArray,List.append_toArray,List.nil_append,List.cons_append]
 go_upto_if 21 with fail
 generalize hW0:(((w.alloc _).alloc _).alloc _).alloc _=W0 at*
 clear hW0
 go_cut [] from 17 to 24 (fun wx=>yE w wx (.slice sa n sc) (.slice ta m tc) ff tf (if ff<tf then tf else 0) (.slice none 0 0) (.slice none 0 0) [] [])
 case first=>
  by_cases hff:ff<tf
  ·have hkk:ak W0 (W0.setCell ⟨w.heap.size+3,0,none⟩ (.int .i64 tf)) (fun k=>k=w.heap.size+3):=ak.of_grown (ap _ _ _ _) fun k e=>(az e).symm;have HD:Hid (yE w (W0.setCell ⟨w.heap.size+3,0,none⟩ (.int .i64 tf)) (.slice sa n sc) (.slice ta m tc) ff tf (if ff<tf then tf else 0) (.slice none 0 0) (.slice none 0 0) [] []):=af (by
    rw[if_pos hff]
    exact⟨ag.far k1 (by simp) _,ag.far k2 (by simp) _,ag.far k3 (by simp) _,ag.set_ k4 0 _,b4.trans (hkk.below b4.size fun k e=>by omega),aK hs4 hkk.size,eE,by simp,eE,by simp⟩)
   clear k1 k2 k3 k4 b4 hs4 hkk;go_wp2_with fail
   go_meet;exact HD.out
  ·have HD:Hid (yE w W0 (.slice sa n sc) (.slice ta m tc) ff tf (if ff<tf then tf else 0) (.slice none 0 0) (.slice none 0 0) [] []):=af (by
    rw[if_neg hff]
    exact⟨k1,k2,k3,k4,b4,hs4,eE,by simp,eE,by simp⟩)
   clear k1 k2 k3 k4 b4 hs4;go_wp2_with fail
   go_meet;exact HD.out
 case rest=>
  clear k1 k2 k3 k4 b4 hs4 y0 y1 y3 f3;have I:=hcut;clear hcut;have HFL:=af (show (if ff<tf then tf else 0)=(if ff<tf then tf else 0) from rfl);generalize hf0:(if ff<tf then tf else 0)=f0 at*;have x0:=ax I.b0 0 (.slice sa n sc) rfl;go_wp2_with fail
  obtain⟨INV,HINV⟩:∃INV:Act->World->Prop,Hid (INV=fun a' wr=>∃(x7 x8 x9 x10 x11 x12 x28 x29 x30 x31 x32 x33 x34 x35 x36 x37 x38 x39 x40 x41 x42 x43 x44 x45 x46 x47 x48 x49 x50 x51 x52 x53 x54 x55 x56:Value) (dl:List Deferred),(∃(j:Nat) (gv:Value) (Z:List (Rc×Value)) (ds:List Nat),j<=n/\x28=.int .i64 (j:Int)/\dl=ds.map GV/\iK wr (w.heap.size+4) ds/\yE w wr (.slice sa n sc) (.slice ta m tc) ff tf f0 gv (.slice none 0 0) Z []/\Hid (Z.map (fun z=>z.1)=(S.take j).flatMap (pS f0 T))/\Z.length<=j*1000)/\a'={tmps:=#[.agg #[.slice sa n sc,.int .i64 ff],.agg #[.slice ta m tc,.int .i64 tf],.pointer (some ⟨w.heap.size,0,none⟩),.pointer (some ⟨w.heap.size+1,0,none⟩),.pointer (some ⟨w.heap.size+1+1,0,none⟩),.pointer (some ⟨w.heap.size+1+1+1,0,none⟩),undef,x7,x8,x9,x10,x11,x12,undef,undef,undef,undef,u17,u18,u19,u20,u21,u22,u23,u24,.pointer (some ⟨w.heap.size,0,none⟩),.slice sa n sc,.int .i64 (n:Int),x28,x29,x30,x31,x32,x33,x34,x35,x36,x37,x38,x39,x40,x41,x42,x43,x44,x45,x46,x47,x48,x49,x50,x51,x52,x53,x54,x55,x56,undef,undef,undef,undef,undef,undef,undef,undef,undef,undef,undef,undef,undef,undef,undef,undef,undef,undef,undef,undef,undef,undef,undef,undef,undef,undef,undef,undef,undef,undef,undef,undef,undef,undef,undef,undef,undef,undef,undef,undef,undef,undef,undef],defers:=dl}):=⟨_,af rfl⟩
  obtain⟨MU,HMU⟩:∃MU:Act->World->Nat,Hid (MU=fun a' _=>n-(intOf (a'.tmps.getD 28 undef)).toNat):=⟨_,af rfl⟩
  refine wp_loop INV MU ?_ ?_
  ·rw[HINV.out]
   (repeat apply Exists.intro);refine⟨?_,rfl⟩;exact⟨0,_,[],[],Nat.zero_le _,rfl,rfl,EL _ _,I,af rfl,by simp⟩
  clear I x0;intro a' wr hinv;rw[HINV.out] at hinv;obtain⟨x7,x8,x9,x10,x11,x12,x28,x29,x30,x31,x32,x33,x34,x35,x36,x37,x38,x39,x40,x41,x42,x43,x44,x45,x46,x47,x48,x49,x50,x51,x52,x53,x54,x55,x56,dl,⟨j,gv,Z,ds,hj,rfl,rfl,hmk,I,HZ,hZl⟩,rfl⟩:=hinv;rcases(show j<n\/j=n by omega) with hjn|rfl
  ·have hjl:j<S.length:=by rw[HN.out];exact hjn
   obtain⟨gs,os,sl,sv,rfl,hV,d0,d1,d2⟩:=cq H.out hjl (Below.refl _ w);have HS:=af (Cp (pS f0 T) S hjl);have hcj:S[j].samples.length<=1000:=HC.out.1 _ (dK hjl);generalize S[j]=x at*;clear hjl;obtain⟨xl,xs,xb⟩:=x;have hl:aC w sl xl:=hV.2.1;have hs:aI w sv xs:=hV.2.2;obtain⟨ya,yc,rfl,_⟩:=id hl;obtain⟨za,zc,rfl,_⟩:=id hs;simp only at d0 d1 d2 hcj;have d0:=cu I.below d0;have d1:=cu I.below d1;have d2:=cu I.below d2;have b3:=ai wr (.cells #[.slice ya xl.length yc,.slice za xs.length zc,.int .i64 xb] 88);have k3:=ag.new wr 88 #[.slice ya xl.length yc,.slice za xs.length zc,.int .i64 xb];have I2:=I.next b3;have hmk2:=hmk.kept (ak.of_below (S:=fun _=>False) b3) fun k e=>e.elim;have q:=af (DT _ _ T xl tf w _ HT.out I2.below (hl.below I2.below));have y0:=ax I2.b1 0 (.slice ta m tc) rfl;have y1:=ax I2.b1 1 (.int .i64 tf) rfl;have z0:=ax k3 0 (.slice ya xl.length yc) rfl;have hwsz:=I.size;obtain⟨X,hX⟩:∃X,(oq T xl).1=X:=⟨_,rfl⟩
   obtain⟨bo,hbo⟩:∃bo,(oq T xl).2=bo:=⟨_,rfl⟩
   rw[hX,hbo] at q;have HX:=af hX;clear hX hbo hV b3 hmk I;go_wp2_with fail
   generalize hW1:wr.alloc _=W1 at*;clear hW1 y0 y1 z0 d0 d1 d2;refine q.out.mono ?_;rintro e w2 ⟨sl2,sv2,rfl,hV2,hb2⟩;obtain⟨ql,qs,qb⟩:=X;have hl2:aC w sl2 ql:=hV2.2.1;have hM:aI w sv2 qs:=hV2.2.2;obtain⟨la,lc,rfl,_⟩:=id hl2;obtain⟨ma,mc,rfl,_⟩:=id hM;have b5:=ai w2 (.cells #[.slice la ql.length lc,.slice ma qs.length mc,.int .i64 qb] 88);have k5:=ag.new w2 88 #[.slice la ql.length lc,.slice ma qs.length mc,.int .i64 qb];have k4:=ag.alloc (ag.below k3 hb2 k3.lt) (.cells #[.slice la ql.length lc,.slice ma qs.length mc,.int .i64 qb] 88);have I4:=(I2.next hb2).next b5;have hmk4:=(hmk2.kept (ak.of_below (S:=fun _=>False) hb2) fun k e=>e.elim).kept (ak.of_below (S:=fun _=>False) b5) fun k e=>e.elim;have hw2s:wr.heap.size<w2.heap.size:=(ag.below k3 hb2 k3.lt).lt;have z1:=ax k4 1 (.slice za xs.length zc) rfl;have qr:=af (fun W=>Gq za xs.length zc 92 #[.pointer (some ⟨w.heap.size+1+1+1,0,none⟩),.pointer (some ⟨w2.heap.size,0,none⟩)] W);clear q k3 I2 hb2 b5 hl2 hV2;go_wp2_with fail
   generalize hW5:w2.alloc _=W5 at*;have hW5s:W5.heap.size=w2.heap.size+1:=by rw[<-hW5,aW]
   refine(qr.out _).mono ?_;rintro e W6 ⟨rfl,hW6⟩;have b7:=ai W5 (.cells #[.slice za xs.length zc] 86);have b8:=b7.alloc b7.size (.cells #[.func (.func 92) #[] #[.pointer (some ⟨w.heap.size+1+1+1,0,none⟩),.pointer (some ⟨w2.heap.size,0,none⟩)]] 150);have k7:=ag.alloc (ag.new W5 86 #[.slice za xs.length zc]) (.cells #[.func (.func 92) #[] #[.pointer (some ⟨w.heap.size+1+1+1,0,none⟩),.pointer (some ⟨w2.heap.size,0,none⟩)]] 150);have k8:=ag.new (W5.alloc (.cells #[.slice za xs.length zc] 86)) 150 #[.func (.func 92) #[] #[.pointer (some ⟨w.heap.size+1+1+1,0,none⟩),.pointer (some ⟨w2.heap.size,0,none⟩)]];rw[aW] at k8;rw[<-hW6] at b8 k7 k8;have I6:=I4.next b8;have hmk6:=hmk4.kept (ak.of_below (S:=fun _=>False) b8) fun k e=>e.elim;have k6:=ag.below k4 b8 k4.lt;have k9:=ag.below k5 b8 k5.lt;have hW6s:W6.heap.size=w2.heap.size+3:=by rw[hW6,aW,aW,hW5s]
   have hE0:lU w W5.heap.size (W5.heap.size+1) w2.heap.size f0 qb (.slice za xs.length zc) (.func (.func 92) #[] #[.pointer (some ⟨w.heap.size+1+1+1,0,none⟩),.pointer (some ⟨w2.heap.size,0,none⟩)]) (.slice la ql.length lc) (.slice ma qs.length mc) W6:=⟨I6.below,k7,k8,k9,_,_,I6.b3⟩
   have hseq:=af (Em 7 W5.heap.size (W5.heap.size+1) 92 #[.pointer (some ⟨w.heap.size+1+1+1,0,none⟩),.pointer (some ⟨w2.heap.size,0,none⟩)] (.slice za xs.length zc) xs (fun y=>decide (f0<=y.1)&& !decide (y∈qs)) (lU w W5.heap.size (W5.heap.size+1) w2.heap.size f0 qb (.slice za xs.length zc) (.func (.func 92) #[] #[.pointer (some ⟨w.heap.size+1+1+1,0,none⟩),.pointer (some ⟨w2.heap.size,0,none⟩)]) (.slice la ql.length lc) (.slice ma qs.length mc))
    (fun W hE=>⟨ag.cell hE.2.1 0,ag.cell hE.2.2.1 0,hs.below hE.1,fun y=>Fv f0 qs _ _ _ y W (hM.below hE.1) (by obtain⟨_,_,_,_,_,_,h5⟩:=hE;exact ag.cell h5 0) (ag.cell hE.2.2.2.1 1)⟩) (fun W W' h hb=>h.next hb) (fun args W=>by go_simp) W6 hE0)
   have HSZ:=af (And.intro hW5s hW6s);clear hW5 hW6 qr b7 b8 k4 k5 k7 k8 k9 I4 hmk4 hmk2 z1 hW5s hW6s;have HLT:=af (show ∀D∈ds,D<W6.heap.size from fun D hD=>(Array.getElem?_eq_some_iff.1 (hmk6.2 D hD).2).1);have hE0':=af hE0;have hcs:=af (show (en (fun y=>decide (f0<=y.1)&& !decide (y∈qs)) xs 0).length<=1000 from aK (tm _ xs).1 hcj);have hrk:=af (Jm (p:=fun y=>decide (f0<=y.1)&& !decide (y∈qs)) (eq hs) 0);have HG:=af (show pS f0 T ⟨xl,xs,xb⟩=(en (fun y=>decide (f0<=y.1)&& !decide (y∈qs)) xs 0).map fun p=>⟨1,xl,p.1,p.2,0⟩ from by unfold pS;rw[HX.out]);clear hE0 HX;generalize (fun y:cH=>decide (f0<=y.1)&& !decide (y∈qs))=pp at*;go_wp2_with fail
   refine(wpIn_wide (n:=8)).1 ?_;refine jH (α:=Int×Int) 11 12 (e0:=fun x=>.int .i64 x.1) (e1:=fun x=>.int .i64 x.2) (fun _=>False) (fun k hk=>hk.elim) rfl (by decide) (gf:=162) (lb:=#[.pointer (some ⟨W5.heap.size,0,none⟩),.pointer (some ⟨W5.heap.size+1,0,none⟩)]) rfl trivial (enters_of Tryz.func162 (by kernel_rfl) rfl)
    hseq.out (fun h k e=>k (h e)) (fun W l o o' hl ho h1 h2 hE=>hE.grown (grownBy_putObj' W l o') fun k e=>by obtain⟨h8,h9⟩:=HSZ.out;cases e;omega) (bR)
    (fun pre W=>∃gv' Z',yE w W (.slice (some ⟨gs,os,none⟩) n sc) (.slice ta m tc) ff tf f0 gv' (.slice none 0 0) Z' []/\iK W (w.heap.size+4) ds/\lU w W5.heap.size (W5.heap.size+1) w2.heap.size f0 qb (.slice za xs.length zc) (.func (.func 92) #[] #[.pointer (some ⟨w.heap.size+1+1+1,0,none⟩),.pointer (some ⟨w2.heap.size,0,none⟩)]) (.slice la ql.length lc) (.slice ma qs.length mc) W/\ag W wr.heap.size 88 #[.slice ya xl.length yc,.slice za xs.length zc,.int .i64 xb]/\Z'.length=Z.length+pre.length/\Hid (Z'.map (fun z=>z.1)=Z.map (fun z=>z.1)++pre.map fun p=>⟨1,xl,p.1,p.2,0⟩))
    (fun s A B row hI hg hr=>by
     obtain⟨gv',Z',h1,h2,h3,h4,h5,h6⟩:=hI
     have hr':∀r,row=some r->W6.heap.size<=r/\∃o,A.heap[r]?=some o/\o.isCells=false:=fun r e=>(hr r e).elim False.elim id
     have hk:ak A B (fun k=>row=some k):=ak.of_grown hg fun k e=>e
     exact⟨gv',Z',h1.turn hg fun r e=>⟨by obtain⟨h8,h9⟩:=HSZ.out;have:=(hr' r e).1;omega,(hr' r e).2⟩,h2.kept hk fun k e hm=>by have:=(hr' k e).1;have:=HLT.out k hm;omega,h3.grown hg fun k e=>by obtain⟨h8,h9⟩:=HSZ.out;have:=(hr' k e).1;omega,ag.grown h4 hg fun e=>by obtain⟨h8,h9⟩:=HSZ.out;have:=(hr' _ e.symm).1;omega,h5,h6⟩)
    ⟨gv,Z,I6,hmk6,hE0'.out,k6,by simp,af (by simp)⟩ ?assign ?body ?done
   case assign=>
    intro l x W K hK;gi_wp2;first|exact hK|simpa using hK
   case body=>
    have hl0:=hl;rintro l pre p rest W hxs hl ⟨gv',Z',I,hmk,hE,hk,hZn,hZ'⟩;obtain⟨h8,h9⟩:=HSZ.out;have hpl:pre.length+1<=1000:=by have:=hcs.out;rw[hxs] at this;simp at this;omega
    have hpo:=hrk.out p (by rw[hxs];simp);obtain⟨p1,p2⟩:=p;obtain⟨ga,gc,rfl⟩:=aH I.grow;have c1:=ax I.b3 1 (.slice ga Z'.length gc) rfl;have z0:=ax hk 0 (.slice ya xl.length yc) rfl;obtain⟨i0,z0',hin,hz0,hz1,hz2,hz3⟩:=ww.info;have hbW:=ai W (.cells #[.int .i64 1,.slice ya xl.length yc,.int .i64 p1,.int .i64 p2,.int .u64 0] 108);have HIA:=af (I.next hbW);have HEA:=af (hE.next hbW);have HKA:=af (ag.below hk hbW hk.lt);have HMA:=af (hmk.kept (ak.of_below (S:=fun _=>False) hbW) fun k e=>e.elim);have HKF:=af (show KeepsFrom W6.heap.size W (W.alloc (.cells #[.int .i64 1,.slice ya xl.length yc,.int .i64 p1,.int .i64 p2,.int .u64 0] 108)) from KeepsFrom.of_grownBy (World.grownBy_alloc W _ none) fun j e=>by cases e);have hnl:Z'.length+1<=400000:=by omega
    have hbsz:w.heap.size+4<=(W.alloc (.cells #[.int .i64 1,.slice ya xl.length yc,.int .i64 p1,.int .i64 p2,.int .u64 0] 108)).heap.size:=by have:=I.size;rw[aW];omega
    have HZN:=af hZn;clear h8 h9 hxs I hE hk hmk hbW hZn;gi_wp2_with (gi_at_builtin;refine wpListIn_append_own _ rfl _ _ 22 rfl (w.heap.size+4) 108 i0 z0' 5 56 ww.und hin hz0 hz1 hz2 hz3 (by decide) _ _ _ rfl HIA.out.grow ⟨W.heap.size,0,none⟩ 1 1 [.int .i64 1,.slice ya xl.length yc,.int .i64 p1,.int .i64 p2,.int .u64 0] rfl rfl (iD _ _ _ _ rfl) (by simp[Value.oneCell']) (by unfold maxLen;omega) (by omega) hbsz ?_;intro v' w5 hown' hgrow hnil;obtain⟨na,nc,rfl⟩:=aH hown';have kb3:=ag.grown HIA.out.b3 hgrow (fun e=>by have:=(HIA.out.grow.lt _ e.symm).1;omega);have fz:=ag.frozen kb3 1;have c1':=ax kb3 1 (.slice ga Z'.length gc) rfl)
    have hne:∀k,(Value.slice ga Z'.length gc).ownBlock=some k->w.heap.size+4<=k/\k≠W5.heap.size/\k≠W5.heap.size+1/\k≠w2.heap.size:=fun k e=>⟨(HIA.out.grow.lt k e).1,fun e2=>ll HIA.out.grow HEA.out.2.1 (by decide) (e.trans (congrArg some e2)),fun e2=>ll HIA.out.grow HEA.out.2.2.1 (by decide) (e.trans (congrArg some e2)),fun e2=>ll HIA.out.grow HEA.out.2.2.2.1 (by decide) (e.trans (congrArg some e2))⟩
    have hszn:w.heap.size+4<=wr.heap.size:=hwsz;refine⟨HKF.out.trans ((zU HIA.out.grow hgrow).trans (KeepsFrom.of_grownBy (ap w5 (w.heap.size+3) 1 _) fun j e=>by obtain⟨h8,h9⟩:=HSZ.out;cases e;omega)),fun _=>(HEA.out.grown hgrow hne).setG (by obtain⟨h8,h9⟩:=HSZ.out;omega) _,_,Z'++[(⟨1,xl,p1,p2,0⟩,.slice ya xl.length yc)],HIA.out.putG (r:=⟨1,xl,p1,p2,0⟩) hgrow hown' ⟨⟨by simp,by simp,hpo.1.1,hpo.1.2,hpo.2.1,hpo.2.2,by simp⟩,hl0⟩,?_,(HEA.out.grown hgrow hne).setG (by obtain⟨h8,h9⟩:=HSZ.out;omega) _,ag.far (ag.grown HKA.out hgrow fun e=>ll HIA.out.grow HKA.out (by decide) e.symm) (by simp;omega) _,by rw[aG,aG,HZN.out];rfl,af (by rw[List.map_append,List.map_append,hZ'.out,List.append_assoc];rfl)⟩;exact(HMA.out.kept (ak.of_grown (S:=fun k=>(Value.slice ga Z'.length gc).ownBlock=some k) hgrow fun k e=>e) fun k e hm=>pJ HIA.out.grow (HMA.out.2 k hm).2 rfl e).kept (ak.of_grown (S:=fun k=>k=w.heap.size+3) (ap _ _ _ _) fun k e=>(az e).symm) fun k e hm=>by have:=(HMA.out.2 k hm).1;omega
   case done=>
    rintro D W hD ⟨gv',Z',I,hmk,hE,hk,hZn,hZ'⟩ hKD;have hcs':=hcs.out;have HZL:=af (show Z'.length<=(j+1)*1000 by omega);have HZZ:=af (show Z'.map (fun z=>z.1)=(S.take (j+1)).flatMap (pS f0 T) by rw[hZ'.out,HS.out,HZ.out,HG.out]);have HMD:=af (hmk.cons hKD (by obtain⟨h8,h9⟩:=HSZ.out;omega) fun hm=>by have:=HLT.out D hm;omega);have HI:=af I;have hw9:IntKind.i64.wrap ((j:Int)+1)=(j:Int)+1:=ct _ (by omega);clear I hmk hE hk hZn hcs' hKD;go_wp2_with fail
    refine⟨?_,?_⟩
    ·rw[HINV.out]
     (repeat apply Exists.intro);refine⟨?_,rfl⟩;exact⟨j+1,gv',Z',D::ds,hjn,by go_num,rfl,HMD.out,HI.out,HZZ,HZL.out⟩
    ·rw[HMU.out];simp[intOf];omega
  ·rw[List.take_of_length_le (by rw[HN.out];exact aF _)] at HZ;have y0:=ax I.b1 0 (.slice ta m tc) rfl;clear HINV HMU;obtain⟨dl,hdl⟩:∃dl,ds.map GV=dl:=⟨_,rfl⟩
   rw[hdl];have HDL:=af hdl;clear hdl;go_wp2_with fail
   go_loopw [60] (fun vi wr=>∃(i:Nat) (sv:Value) (Y:List (aO×Value×Value)),i<=m/\vi=.int .i64 (i:Int)/\iK wr (w.heap.size+4) ds/\yE w wr (.slice sa j sc) (.slice ta m tc) ff tf f0 gv sv Z Y/\(∀k,sv.ownBlock=some k->gv.ownBlock≠some k)/\Hid (Y.map (fun z=>z.1)=(T.take i).filterMap (EF S))/\Y.length<=i) (fun vi _=>m-(intOf vi).toNat)
   case atStart=>exact⟨0,_,[],Nat.zero_le _,rfl,hmk,I,fun k e=>(by cases e),af rfl,aF _⟩
   clear I hmk y0;obtain⟨i,sv,Y,hi,rfl,hmk,I,hsep,HY,hYl⟩:=hrel;rcases(show i<m\/i=m by omega) with him|rfl
   ·have hil:i<T.length:=by rw[HM.out];exact him
    obtain⟨gs,os,sl,sv0,rfl,hV,d0,d1,d2⟩:=cq HT.out hil (Below.refl _ w);have HS:=af (ul (EF S) T hil);generalize T[i]=x at*;clear hil;obtain⟨xl,xs,xb⟩:=x;have hl:aC w sl xl:=hV.2.1;have hs:aI w sv0 xs:=hV.2.2;have hok:(⟨xl,xs,xb⟩:aO).ok:=hV.1;obtain⟨ya,yc,rfl,_⟩:=id hl;obtain⟨za,zc,rfl,_⟩:=id hs;simp only at d0 d1 d2;have d0:=cu I.below d0;have d1:=cu I.below d1;have d2:=cu I.below d2;have b3:=ai wr (.cells #[.slice ya xl.length yc,.slice za xs.length zc,.int .i64 xb] 88);have k3:=ag.new wr 88 #[.slice ya xl.length yc,.slice za xs.length zc,.int .i64 xb];have I2:=I.next b3;have q:=af (DT _ _ S xl ff w _ H.out I2.below (hl.below I2.below));have y0:=ax I2.b0 0 (.slice sa j sc) rfl;have y1:=ax I2.b0 1 (.int .i64 ff) rfl;have z0:=ax k3 0 (.slice ya xl.length yc) rfl;have hwsz:=I.size;obtain⟨X,hX⟩:∃X,(oq S xl).1=X:=⟨_,rfl⟩
    obtain⟨bo,hbo⟩:∃bo,(oq S xl).2=bo:=⟨_,rfl⟩
    rw[hX,hbo] at q;have HNW:=af (show EF S ⟨xl,xs,xb⟩=if 0<(xs.filter fun y=> !decide (y∈X.samples)).length\/bo=false\/X.last≠xb then some ⟨xl,xs.filter fun y=> !decide (y∈X.samples),xb⟩ else none from by rw[<-hX,<-hbo];rfl);have hs2:=hs.below I2.below;clear hX hbo hV;go_wp2_with fail
    generalize hW1:wr.alloc _=W1 at*;clear hW1 y0 y1 z0 d0 d1 d2;refine q.out.mono ?_;rintro e w2 ⟨sl2,sv2,rfl,hV2,hb2⟩;obtain⟨ql,qs,qb⟩:=X;have hl2:aC w sl2 ql:=hV2.2.1;have hM:aI w sv2 qs:=hV2.2.2;obtain⟨la,lc,rfl,_⟩:=id hl2;obtain⟨ma,mc,rfl,_⟩:=id hM;have b5:=ai w2 (.cells #[.slice la ql.length lc,.slice ma qs.length mc,.int .i64 qb] 88);have k5:=ag.new w2 88 #[.slice la ql.length lc,.slice ma qs.length mc,.int .i64 qb];have k4:=ag.alloc (ag.below k3 hb2 k3.lt) (.cells #[.slice la ql.length lc,.slice ma qs.length mc,.int .i64 qb] 88);have B5:=(ay b3 hb2).trans (b5.mono (ay b3 hb2).size);have I5:=I.next B5;have hw2s:wr.heap.size<w2.heap.size:=(ag.below k3 hb2 k3.lt).lt;have z1:=ax k4 1 (.slice za xs.length zc) rfl;have q2:=af (pk _ xs _ (hs.below I5.below));have hw5s:w2.heap.size<(w2.alloc (.cells #[.slice la ql.length lc,.slice ma qs.length mc,.int .i64 qb] 88)).heap.size:=k5.lt;clear q k3 I2 hb2 b5 hl2 hV2 b3 hs2;go_wp2_with fail
    generalize hW5:w2.alloc _=W5 at*;clear hW5 z1;refine q2.out.mono ?_;rintro e w6 ⟨v6,rfl,row6,hb6⟩;obtain⟨ca,cc,rfl⟩:=aH row6;have q3:=af (Cz 97 #[.pointer (some ⟨w2.heap.size,0,none⟩)] _ _ xs W5 w6 W5.heap.size row6 (eq hs) hb6 (aF _) hs.len (Fu qs _ w2.heap.size W5 (hM.below I5.below) (ag.cell k5 1)) (fun args W=>by go_simp));have HLN:=af hs.len;clear q2 row6;go_wp2_with fail
    refine q3.out.mono ?_;rintro e w7 ⟨v7,rfl,hs7,hb7,hfr⟩;have hln7:=hs7.len;generalize (xs.filter fun y=> !decide (y∈qs))=L at*;obtain⟨va,vc,rfl,_⟩:=id hs7;have k7:=ag.below k4 hb7 k4.lt;have k8:=ag.below k5 hb7 k5.lt;have B7:=ay B5 hb7;have hkk:ak w7 (w7.setCell ⟨wr.heap.size,1,none⟩ (.slice va L.length vc)) (fun k=>k=wr.heap.size):=ak.of_grown (ap _ _ _ _) fun k e=>(az e).symm;have B8:=B7.trans (hkk.below B7.size fun k e=>Nat.le_of_eq e.symm);have I8:=I.next B8;have hmk8:=hmk.kept (ak.of_below (S:=fun _=>False) B8) fun k e=>e.elim;have hs8:=hs7.kept hkk fun k e e2=>by have:=hfr k e;omega
    have k9:ag (w7.setCell ⟨wr.heap.size,1,none⟩ (.slice va L.length vc)) wr.heap.size 88 #[.slice ya xl.length yc,.slice va L.length vc,.int .i64 xb]:=ag.set_ k7 1 _;have k10:=ag.far (u:=.slice va L.length vc) (p:=⟨wr.heap.size,1,none⟩) k8 (by simp;omega);have f1:=ag.frozen k7 1;have z1:=ax k7 1 (.slice za xs.length zc) rfl;have x0:=ax k9 0 (.slice ya xl.length yc) rfl;have x1:=ax k9 1 (.slice va L.length vc) rfl;have x2:=ax k9 2 (.int .i64 xb) rfl;have y2:=ax k10 2 (.int .i64 qb) rfl;have hw9:IntKind.i64.wrap ((i:Int)+1)=(i:Int)+1:=ct _ (by omega);obtain⟨ea,ec,rfl⟩:=aH I8.srow;have n2:=ax I8.b3 2 (.slice ea Y.length ec) rfl;have hF:ix (w7.setCell ⟨wr.heap.size,1,none⟩ (.slice va L.length vc)) (.slice ea Y.length ec) (⟨xl,L,xb⟩,.slice ya xl.length yc,.slice va L.length vc):=⟨⟨⟨eq hs8,hok.2⟩,hl.below I8.below,hs8⟩,mp hl fun k e=>by have:=(I.srow.lt k e).1;omega,pd (n:=wr.heap.size) (fun k e=>(I.srow.lt k e).2) fun k e=>by have:=hfr k e;omega⟩
    have HI:=af I8;have HM8:=af hmk8;have HF:=af hF;have HSEP:=af hsep;clear q3 hs7 hb7 hfr hkk k7 k8 k9 k10 B5 B7 B8 I5 I hmk hmk8 hs8 I8 hF k4 k5 hb6 hs hM hok hl hln7 hsep;have hbase:w.heap.size+4<=(w7.setCell ⟨wr.heap.size,1,none⟩ (.slice va L.length vc)).heap.size:=HI.out.size;go_upto_region 19 with fail
    generalize hW8:w7.setCell _ _=W8 at*;clear hW8 f1 z1;generalize L.length=N at*;have hor:(0<N)\/(¬0<N/\bo=false)\/(¬0<N/\bo=true/\qb≠xb)\/(¬0<N/\bo=true/\qb=xb):=by
     by_cases h1:0<N
     ·exact .inl h1
     ·cases bo with
      |false=>exact .inr (.inl ⟨h1,rfl⟩)
      |true=>
       by_cases h2:qb=xb
       ·exact .inr (.inr (.inr ⟨h1,rfl,h2⟩))
       ·exact .inr (.inr (.inl ⟨h1,rfl,h2⟩))
    rcases hor with h1|⟨h1,rfl⟩|⟨h1,rfl,h2⟩|⟨h1,rfl,h2⟩
    case' inl=>
     have h1i:(0:Int)<(N:Int):=by omega
     have HKP:=af (HNW.out.trans (if_pos (.inl h1)));clear HNW h1
    case' inr.inl=>
     have h1i:¬((0:Int)<(N:Int)):=by omega
     obtain rfl:N=0:=by omega
     have HKP:=af (HNW.out.trans (if_pos (.inr (.inl rfl))));clear HNW h1
    case' inr.inr.inl=>
     have h1i:¬((0:Int)<(N:Int)):=by omega
     obtain rfl:N=0:=by omega
     have hne:(qb != xb)=true:=by simpa using h2
     have HKP:=af (HNW.out.trans (if_pos (.inr (.inr h2))));clear HNW h1
    case inr.inr.inr=>
     subst h2;have h1i:¬((0:Int)<(N:Int)):=by omega
     obtain rfl:N=0:=by omega
     have HKP:=af (HNW.out.trans (if_neg fun h=>h.elim h1 fun h=>h.elim (fun h=>absurd h (by decide)) fun h=>h rfl));clear HNW h1;go_wp2_with fail
     go_roundw
     case rel=>exact⟨i+1,_,Y,him,by go_num,HM8.out,HI.out,HSEP.out,af (by rw[HS.out,HKP.out,HY.out];simp),by omega⟩
     case measure=>simp[intOf];omega
    all_goals
     go_wp2_with (at_builtin;go_loud (refine l7 ii rfl _ _ rfl rfl HI.out.srow [.slice ya xl.length yc,.slice va _ vc,.int .i64 xb] rfl rfl rfl (by simp[Value.oneCell']) (by omega) hbase ?_);intro sa' sc' w9 hown' hk9 hloc;have kb3:=ag.keptK HI.out.b3 hk9 (fun e=>by have:=(HI.out.srow.lt _ e).1;omega);have fz:=ag.frozen kb3 2;have c2':=ax kb3 2 (.slice ea Y.length ec) rfl)
     have HP:=af (HI.out.putS HSEP.out hk9 hown' hloc HF.out)
     have HM9:=af ((HM8.out.kept hk9 fun k e hm=>pJ HI.out.srow (HM8.out.2 k hm).2 rfl e).kept (ak.of_grown (S:=fun k=>k=w.heap.size+3) (ap w9 (w.heap.size+3) 2 (.slice sa' (Y.length+1) sc')) fun k e=>(az e).symm) fun k e hm=>by have:=(HM8.out.2 k hm).1;omega)
     clear hown' hk9 hloc kb3 fz c2'
     go_roundw
     case rel=>exact⟨i+1,_,_,him,by go_num,HM9.out,HP.out.1,HP.out.2,af (by rw[HS.out,HKP.out,List.map_append,HY.out];rfl),by rw[aG];simp;omega⟩
     case measure=>simp[intOf];omega
   ·rw[List.take_of_length_le (by rw[HM.out];exact aF _)] at HY;obtain⟨ga,gc,rfl⟩:=aH I.grow;obtain⟨ea,ec,rfl⟩:=aH I.srow;have c0:=ax I.b3 0 (.int .i64 f0) rfl;have c1:=ax I.b3 1 (.slice ga Z.length gc) rfl;have c2:=ax I.b3 2 (.slice ea Y.length ec) rfl;have g0:=ag.frozen I.b2 0;have g1:=ag.frozen I.b2 1;have g2:=ag.frozen I.b2 2;have r0:=ax I.b2 0 (.int .i64 0) rfl;have r1:=ax I.b2 1 (.slice none 0 0) rfl;have r2:=ax I.b2 2 (.slice none 0 0) rfl;have HK:Hid (lP ⟨S,ff⟩ ⟨T,tf⟩=⟨f0,Z.map (fun z=>z.1),Y.map fun z=>z.1⟩):=af (by rw[HDK.out.1,HZ.out,HY.out]);have hZ1:Z.length<=100000:=by have:=HDK.out.2;rw[HK.out] at this;simpa using this
    have n9:=((ag.set_ I.b2 0 (.int .i64 f0)).set_ 1 (.slice ga Z.length gc)).set_ 2 (.slice ea Y.length ec);have hkk:=((ak.of_grown (S:=fun k=>k=w.heap.size+2) (ap wr (w.heap.size+2) 0 (.int .i64 f0)) fun k e=>(az e).symm).trans (ak.of_grown (ap _ (w.heap.size+2) 1 (.slice ga Z.length gc)) fun k e=>(az e).symm)).trans (ak.of_grown (ap _ (w.heap.size+2) 2 (.slice ea Y.length ec)) fun k e=>(az e).symm);have HFIN:=af (show ∀w',ak (((wr.setCell ⟨w.heap.size+2,0,none⟩ (.int .i64 f0)).setCell ⟨w.heap.size+2,1,none⟩ (.slice ga Z.length gc)).setCell ⟨w.heap.size+2,2,none⟩ (.slice ea Y.length ec)) w' (fun k=>k∈ds)->ag w' (w.heap.size+2) 25 #[.int .i64 f0,.slice ga Z.length gc,.slice ea Y.length ec]/\dw w' (.slice ga Z.length gc) (Z.map fun z=>z.1)/\aM w' (.slice ea Y.length ec) (Y.map fun z=>z.1)/\Below w.heap.size w w' from fun w' hk'=>by
     have hB9:=I.below.trans (hkk.below I.below.size fun k e=>by omega)
     have hB:=hB9.trans (hk'.below hB9.size fun k e=>by have:=(hmk.2 k e).1;omega)
     refine⟨ag.keptK n9 hk' fun e=>by have:=(hmk.2 _ e).1;omega,zj (aw (aw I.grow hkk fun b hb e=>by have:=(I.grow.lt b hb).1;omega) hk' fun b hb e=>pJ I.grow (hmk.2 b e).2 rfl hb) rfl hZ1 (fun z hz=>⟨(I.glab z hz).1,(I.glab z hz).2.below hB⟩),?_,hB⟩
     have hmk9:=hmk.kept hkk fun k e hm=>by have:=(hmk.2 k hm).1;omega
     have hd:∀D∈ds,∃o,(((wr.setCell ⟨w.heap.size+2,0,none⟩ (.int .i64 f0)).setCell ⟨w.heap.size+2,1,none⟩ (.slice ga Z.length gc)).setCell ⟨w.heap.size+2,2,none⟩ (.slice ea Y.length ec)).heap[D]?=some o/\o.isCells=false:=fun D hD=>⟨_,(hmk9.2 D hD).2,rfl⟩
     exact cV (aw (aw I.srow hkk fun b hb e=>by have:=(I.srow.lt b hb).1;omega) hk' fun b hb e=>pJ I.srow (hmk.2 b e).2 rfl hb) rfl (by omega) fun z hz=>⟨(I.sser z hz).1.1,((I.sser z hz).1.2.1.bk I.b2 hkk).ck hk' hd,((I.sser z hz).1.2.2.bk I.b2 hkk).ck hk' hd⟩)
    have HMK:=af (hmk.kept hkk fun k e hm=>by have:=(hmk.2 k hm).1;omega);have HFB:=af (show-9223372036854775808<=f0/\f0<=9223372036854775807 from by have:=HF.out;rw[<-hf0];split<;>omega);clear I hmk hsep n9 hkk;go_wp2_with fail
    show LeavesInM _ _ _ _ _ _ dl .returning _;rw[<-HDL.out];refine oW ds _ HMK.out.1 (fun D hD=>(HMK.out.2 D hD).2) fun w' hk'=>?_;obtain⟨n9,hR9,hS9,hB9⟩:=HFIN.out w' hk';refine⟨_,results_cell_row rfl _ _ (w.heap.size+1+1) 25 #[.int .i64 f0,.slice ga Z.length gc,.slice ea Y.length ec] (0,0) _ rfl n9 Tryz.underlying25 rfl (by kernel_rfl),?_⟩;rw[HK.out];exact⟨_,_,rfl,⟨HFB.out,hR9,hS9⟩,hB9⟩
end
section
open Go.RowKit
attribute [local go_sem] am aq
theorem tH(gs gok:Nat)(s:List UInt8)(ok:Bool)(m:Nat)(w:World)(hs:ag w gs 9 #[.string (bs s)])(ho:ag w gok 4 #[.bool ok])(hne:gs≠gok)(hl:s.length<=1048576)(hm:m<=1048576):
 Calls Tryz.prog 197 #[.int .i64 (m:Int),.pointer (some ⟨gs,0,none⟩),.pointer (some ⟨gok,0,none⟩)] w fun e w'=>e=.returned (.string (bs (aA s m).1))/\ag w' gs 9 #[.string (bs (aA s m).2.1)]/\ag w' gok 4 #[.bool (ok&&decide ((aA s m).2.2=0))]/\ak w w' (fun k=>k=gs\/k=gok):=by
 have x0:=ax hs 0 (.string (bs s)) rfl
 have q:=af (JX s m hl hm w)
 go_enter Tryz.func197,Tryz.ntmps197
 go_wp2_with fail
 refine bL q.out fun w1 hb=>?_
 unfold nW
 obtain⟨⟨b,r,sh⟩,hp⟩:∃p,aA s m=p:=⟨_,rfl⟩
 rw[hp]
 have HP:=af hp
 clear hp
 simp only
 have k1:=ag.below hs hb hs.lt
 have k2:=ag.below ho hb ho.lt
 have y0:=ax k1 0 (.string (bs s)) rfl
 have y1:=ax k2 0 (.bool ok) rfl
 have f1:=ag.frozen k1 0
 have f2:=ag.frozen k2 0
 have HB:=af hb
 clear q x0 hs ho hb
 have fin:∀bo,ag ((w1.setCell ⟨gok,0,none⟩ (.bool bo)).setCell ⟨gs,0,none⟩ (.string (bs r))) gs 9 #[.string (bs r)]/\ag ((w1.setCell ⟨gok,0,none⟩ (.bool bo)).setCell ⟨gs,0,none⟩ (.string (bs r))) gok 4 #[.bool bo]/\ak w ((w1.setCell ⟨gok,0,none⟩ (.bool bo)).setCell ⟨gs,0,none⟩ (.string (bs r))) (fun k=>k=gs\/k=gok):=fun bo=>
  ⟨ag.set_ (ag.far k1 hne _) 0 _,ag.far (ag.set_ k2 0 (.bool bo)) (fun e=>hne e.symm) _,((ak.of_below HB.out).trans (ak.of_grown (ap w1 gok 0 (.bool bo)) fun k e=>.inr (az e).symm)).trans (ak.of_grown (ap _ gs 0 (.string (bs r))) fun k e=>.inl (az e).symm)⟩
 have HFIN:=af fin
 clear fin k1 k2
 cases ok with
 |true=>
  go_wp2_with fail
  go_ret;rw[HP.out];have e:(sh==0)=(true&&decide (sh=0)):=by by_cases h:sh=0<;>simp[h]
  rw[<-e];exact⟨rfl,HFIN.out _⟩
 |false=>
  go_wp2_with fail
  go_ret;rw[HP.out];exact⟨rfl,HFIN.out _⟩
theorem Bu{P:Program}{fn:Func}{t u v x p:Tmp}{ty:TypeId}(h:fn.results=#[.tmp t,.tmp u,.tmp v,.tmp x,.cell p ty])(tmps:Array Value)(w:World)(g:Nat)(z:Value)(hp:tmps.getD p undef=.pointer (some ⟨g,0,none⟩))(hl:(loadVar ty ⟨g,0,none⟩).run P w=.ok z w):
 (results fn tmps).run P w=.ok (.tuple #[tmps.getD t undef,tmps.getD u undef,tmps.getD v undef,tmps.getD x undef,z]) w:=by
 have hp':tmps[p]?.getD undef=.pointer (some ⟨g,0,none⟩):=by simpa using hp
 simp[results,h,hp',asAddr,hl]
def oH(s:List UInt8):Bool:=((true&&decide ((aA s 10).2.2=0))&&decide ((aA (aA s 10).2.1 1048576).2.2=0))&&decide ((aA (aA (aA s 10).2.1 1048576).2.1 1048576).2.2=0)
def Jk (s:List UInt8):Value:=.tuple #[.string (bs (aA s 10).1),.string (bs (aA (aA s 10).2.1 1048576).1),.string (bs (aA (aA (aA s 10).2.1 1048576).2.1 1048576).1),.string (bs (aA (aA (aA s 10).2.1 1048576).2.1 1048576).2.1),.bool (oH s)]
theorem xB(s:List UInt8)(w:World)(hl:s.length<=1048576):
 Calls Tryz.prog 137 #[.string (bs s)] w fun e w'=>e=.returned (Jk s)/\Below w.heap.size w w':=by
 have h1:=(ig s 10).2
 have h2:=(ig (aA s 10).2.1 1048576).2
 have b1:=ai w (.cells #[.string (bs s)] 9)
 have b2:=b1.alloc b1.size (.cells #[.bool true] 4)
 have k1:=ag.alloc (ag.new w 9 #[.string (bs s)]) (.cells #[.bool true] 4)
 have k2:=ag.new (w.alloc (.cells #[.string (bs s)] 9)) 4 #[.bool true]
 rw[aW] at k2
 have HV:=af (show Jk s=Jk s from rfl)
 have q1:=af (tH w.heap.size (w.heap.size+1) s true 10 _ k1 k2 (by omega) hl (by omega))
 go_enter Tryz.func137,Tryz.ntmps137
 go_wp2_with fail
 generalize hW:(w.alloc _).alloc _=W at*
 clear hW
 refine q1.out.mono ?_
 rintro e w1 ⟨rfl,m1,m2,hk1⟩
 have q2:=af (tH w.heap.size (w.heap.size+1) _ _ 1048576 w1 m1 m2 (by omega) (by omega) (by omega))
 have B1:=b2.trans (hk1.below b2.size fun k e=>by omega)
 clear q1 hk1 m1 m2 k1 k2 b2
 go_wp2_with fail
 refine q2.out.mono ?_
 rintro e w2 ⟨rfl,m1,m2,hk2⟩
 have q3:=af (tH w.heap.size (w.heap.size+1) _ _ 1048576 w2 m1 m2 (by omega) (by omega) (by omega))
 have B2:=B1.trans (hk2.below B1.size fun k e=>by omega)
 clear q2 hk2 m1 m2 B1
 go_wp2_with fail
 refine q3.out.mono ?_
 rintro e w3 ⟨rfl,m1,m2,hk3⟩
 have B3:=B2.trans (hk3.below B2.size fun k e=>by omega)
 have G1:=aj (ax m1 0 (.string (bs (aA (aA (aA s 10).2.1 1048576).2.1 1048576).2.1)) rfl)
 have G2:=aj (ax m2 0 (.bool (oH s)) rfl)
 clear q3 hk3 B2
 go_wp2_with fail
 refine l6 ?_
 iterate 9 (refine bJ fun K hK=>?_;go_big_quiet_step (fail);refine hK _ ?_;clear hK K)
 refine eR ?_
 intro w5 hb5
 simp only[aB]
 have n2:=ag.below m2 hb5 m2.lt
 have f0:=ag.frozen n2 0
 have c0:=ax n2 0 (.bool (oH s)) rfl
 have n9:ag (w5.setCell ⟨w.heap.size+1,0,none⟩ (.bool (oH s))) (w.heap.size+1) 4 #[.bool (oH s)]:=ag.set_ n2 0 _
 have c9:=ax n9 0 (.bool (oH s)) rfl
 have B5:=ay B3 hb5
 have B9:=B5.trans ((ak.of_grown (S:=fun k=>k=w.heap.size+1) (ap w5 (w.heap.size+1) 0 (.bool (oH s))) fun k e=>(az e).symm).below B5.size fun k e=>by omega)
 clear G1 G2 m1 m2 n2 B3 hb5 B5 n9
 go_wp2_with fail
 refine bodyPost_ret (Bu rfl _ _ (w.heap.size+1) (.bool (oH s)) rfl (by
  unfold loadVar
  go_simp)) rfl ?_
 exact⟨rfl,B9⟩
end
section
open Go.RowKit Go.Maps Go.WideMaps
attribute [local go_sem] am aq
def LN (c:CS)(gen:Int)(sy av:Value)(a:En):Array Value:=#[.string (bs c.1),.bool c.2,.int .i64 gen,sy,av,.int .i64 a.last,.int .i64 a.off,.int .i64 a.len]
def Rd (w:World)(q:Nat)(c:CS)(gen:Int)(sy av:Value)(a:En):Prop:=ag w q 278 (LN c gen sy av a)
theorem Lz(q:Nat)(c:CS)(gen:Int)(sy av:Value)(a:En)(w:World)(h:Rd w q c gen sy av a)(hs:c.1.length<=1099511627776):
 Calls Tryz.prog 141 #[.pointer (some ⟨q,0,none⟩)] w fun e w'=>e=.returned (.int .u64 (wV c))/\Rd w' q (wN c) gen sy av a/\w.grownBy w' (some q):=lV q 0 _ _ c.1 c.2 w h rfl rfl hs
theorem LU(q:Nat)(c:CS)(gen:Int)(sy av:Value)(a:En)(w:World)(h:Rd w q c gen sy av a)(hs:c.1.length<=1099511627776):
 Calls Tryz.prog 282 #[.pointer (some ⟨q,0,none⟩),.int .i64 12] w fun e w'=>e=.returned (.string (bs (IW c)))/\Rd w' q (vp c) gen sy av a/\w.grownBy w' (some q):=by
 refine(kS q 0 _ _ c.1 c.2 12 w h rfl rfl hs (by decide) (by decide)).mono ?_
 rintro e w' ⟨rfl,h1,h2⟩
 refine⟨?_,h1,h2⟩
 unfold IW Num.ans
 cases c.2<;>cases Num.getFixed c.1 12<;>simp[gR]
theorem Ma(q:Nat)(c:CS)(gen:Int)(sy av:Value)(a:En)(w:World)(h:Rd w q c gen sy av a)(hs:c.1.length<=1099511627776):
 Calls Tryz.prog 243 #[.pointer (some ⟨q,0,none⟩),.int .i64 1] w fun e w'=>e=.returned (.string (bs (Jf c)))/\Rd w' q (Be c) gen sy av a/\w.grownBy w' (some q):=by
 refine(lW q 0 _ _ c.1 c.2 1 w h rfl rfl hs (by decide) (by decide)).mono ?_
 rintro e w' ⟨rfl,h1,h2⟩
 refine⟨?_,h1,h2⟩
 unfold Jf Num.ans
 cases c.2<;>cases Num.getTake c.1 1<;>simp[gR]
theorem sw(c:CS):(vp c).1.length<=c.1.length:=eu c _
theorem Dh(c:CS):(Be c).1.length<=c.1.length:=eu c _
theorem zK(q:Nat)(n:Nat)(most:Nat)(c:CS)(gen:Int)(sy av:Value)(a:En)(w:World)(h:Rd w q c gen sy av a)(hn:n<18446744073709551616)(hm:most<=1000000000000):
 Calls Tryz.prog 247 #[.pointer (some ⟨q,0,none⟩),.int .u64 (n:Int),.int .i64 (most:Int)] w fun e w'=>e=.returned (.int .i64 ((gP n most c).1:Nat))/\Rd w' q (gP n most c).2 gen sy av a/\w.grownBy w' (some q):=by
 have hu:=dF (most:Int)
 have hu2:aS (most:Int)=most:=by unfold aS;omega
 rw[hu2] at hu
 have HN:=af (show gP n most c=if (most:Int)<n then(0,(c.1,true)) else((n:Int).toNat,c) from rfl)
 generalize gP n most c=R at*
 have d1:=ax h 1 (.bool c.2) rfl
 have fz:=ag.frozen h 1
 go_enter Tryz.func247,Tryz.ntmps247
 by_cases hlt:(most:Int)<(n:Int)
 ·have f2:decide ((most:Int)<(n:Int))=true:=by simpa using hlt
  have f2':decide (most<n)=true:=by simp;omega
  have HR:=af (show R=(0,(c.1,true)) by rw[HN.out,if_pos hlt]);clear HN hlt;go_wp2_with fail
  go_ret;rw[HR.out];exact⟨rfl,ag.set_ h 1 (.bool true),ap _ _ _ _⟩
 ·have f2:decide ((most:Int)<(n:Int))=false:=by simpa using hlt
  have f2':decide (most<n)=false:=by simp;omega
  have HR:=af (show R=(n,c) by rw[HN.out,if_neg hlt,Int.toNat_natCast]);have hw:IntKind.i64.wrap (n:Int)=(n:Int):=ct _ (by omega);clear HN hlt;go_wp2_with fail
  go_ret;rw[HR.out];exact⟨rfl,h,⟨rfl,rfl,rfl,aF _,fun _ _ _=>rfl⟩⟩
end
section
open Go.RowKit Go.Maps Go.WideMaps
attribute [local go_sem] am aq
end
section
open Go.RowKit
end
section
open Go.RowKit
section
variable {w0 w:World} {g q:Nat} {gen:Int} {sy av:Value} {a:En} {cs:List CS} {c0:CS} {h0:cs[0]?=some c0} {hR:Rd w0 g c0 gen sy av a}
end
end
section
open Go.RowKit Go.Maps Go.WideMaps
attribute [local go_sem] am aq
theorem xQ(n:Int)(most:Nat)(c:CS)(h0:0<=n):(gP n most c).1<=most/\(gP n most c).2.1.length=c.1.length:=by
 unfold gP;split
 ·exact⟨Nat.zero_le _,rfl⟩
 ·exact⟨by simp only;omega,rfl⟩
end
section
open Go.RowKit
def pV (v:Value)(a:En):Array Value:=#[v,.int .i64 a.last,.int .i64 a.off,.int .i64 a.len]
theorem ak.then_over{a b c:World}{S T:Nat->Prop}(h:ak a b S)(k:ak b c T)(hs:∀i,i<a.heap.size->T i->S i):ak a c S:=
 ⟨k.os.trans h.os,k.tape.trans h.tape,k.output.trans h.output,aK h.size k.size,fun i hi hn=>(k.block i (dQ hi h.size) fun e=>hn (hs i hi e)).trans (h.block i hi hn)⟩
def KY (g:Nat)(vl:Value):Nat->Prop:=fun k=>k=g\/vl.ownBlock=some k
def iT(w0:World)(g:Nat)(gen:Int)(sy av:Value)(a0:En)(cs:List CS)(c0:CS)(h0:cs[0]?=some c0)(hC:Rd w0 g c0 gen sy av a0)(vl:Value)(fin:Option Obj)(m:Nat)(hlt:∀k,vl.ownBlock=some k->k<w0.heap.size):fK where
 ph q w:=ak w0 w (KY g vl)/\(∃c,cs[q]?=some c/\Rd w g c gen sy av a0)/\∀k,vl.ownBlock=some k->(q<=m->w.heap[k]?=w0.heap[k]?)
 K a b:=ak a b (KY g vl)/\∀k,vl.ownBlock=some k->k<a.heap.size->b.heap[k]?=a.heap[k]?\/b.heap[k]?=fin
 w0:=w0
 start:=⟨ak.refl _ _,⟨c0,h0,hC⟩,fun _ _ _=>rfl⟩
 refl w:=⟨ak.refl w _,fun _ _ _=>.inl rfl⟩
 trans h k:=⟨h.1.trans k.1,fun i hi hl=>by
  rcases k.2 i hi (dQ hl h.1.size) with e|e
  ·rw[e];exact h.2 i hi hl
  ·exact .inr e⟩
 grow h:=⟨ak.of_below h,fun k _ hl=>.inl (h.block k hl)⟩
 stay h k:=⟨h.1.trans (ak.of_below k),(by obtain⟨c,h1,h2⟩:=h.2.1;exact⟨c,h1,ag.below h2 k h2.lt⟩),fun i hi hq=>(k.block i (dQ (hlt i hi) h.1.size)).trans (h.2.2 i hi hq)⟩
section
variable {P:Program} {w0:World} {g:Nat} {cs:List CS} {c0:CS} {h0:cs[0]?=some c0} {gen:Int} {sy av:Value} {a0:En} {hC:Rd w0 g c0 gen sy av a0} {vl:Value} {fin:Option Obj} {m:Nat} {hlt:∀k,vl.ownBlock=some k->k<w0.heap.size}
theorem tp{f:FuncId}{args:Array Value}{w:World}{q:Nat}{c c':CS}{v:Value}(hg:vl.ownBlock≠some g)(hw:(iT w0 g gen sy av a0 cs c0 h0 hC vl fin m hlt).ph q w)(hc:cs[q]?=some c)(hc':cs[q+1]?=some c')(hq:q+1<=m)
 (h:Rd w g c gen sy av a0->ak w0 w (KY g vl)->Calls P f args w fun e w'=>e=.returned v/\Rd w' g c' gen sy av a0/\w.grownBy w' (some g)):
 Calls P f args w fun e w'=>e=.returned v/\(iT w0 g gen sy av a0 cs c0 h0 hC vl fin m hlt).K w w'/\(iT w0 g gen sy av a0 cs c0 h0 hC vl fin m hlt).ph (q+1) w':=by
 obtain⟨h1,⟨c2,h2,h3⟩,h6⟩:=hw
 obtain rfl:c2=c:=by rw[hc] at h2;exact(az h2).symm
 refine(h h3 h1).mono ?_
 rintro e w' ⟨rfl,h4,h5⟩
 have hk:ak w w' (KY g vl):=ak.of_grown h5 fun k e=>.inl (az e).symm
 have hr:∀k,vl.ownBlock=some k->k<w.heap.size->w'.heap[k]?=w.heap[k]?:=fun k hk hl=>h5.block k hl (fun e=>hg (hk.trans e))
 exact⟨rfl,⟨hk,fun k hk hl=>.inl (hr k hk hl)⟩,h1.trans hk,⟨c',hc',h4⟩,fun k hk _=>(hr k hk (dQ (hlt k hk) h1.size)).trans (h6 k hk (by omega))⟩
theorem BO{n:Nat}{news:List Value}:(eZ w0 n news).keeps (iT w0 g gen sy av a0 cs c0 h0 hC vl fin m hlt).K:=by
 rintro x W W' ⟨p,c,rfl,hp,hc⟩ hR;exact⟨p,c,rfl,hp,fun j u hu=>ak.cell hR.1 (hc j u hu) fun e=>by
  rw[qi] at e
  rcases e with e|e
  ·have:=hC.lt
   simp only at e
   omega
  ·have:=hlt p e
   omega⟩
theorem CT{B:Nat}{e:TypeId}{size n:Nat}{xs:List Value}:(lG w0 B e size vl.ownBlock fin n xs).keeps (iT w0 g gen sy av a0 cs c0 h0 hC vl fin m hlt).K:=by
 rintro v W W' ⟨h1,h2⟩ hR;rcases h2 with⟨h2,h3⟩|⟨k,h2,h3⟩
 ·have hs:∀k,vl.ownBlock=some k->W'.heap[k]?=W.heap[k]?:=fun k hk=>by
   rcases hR.2 k hk (jM h1 (h2.trans hk)) with e|e
   ·exact e
   ·rw[e,h3 k hk]
  exact⟨gM h1 fun k hk=>hs k (h2▸hk),.inl ⟨h2,fun k hk=>(hs k hk).trans (h3 k hk)⟩⟩
 ·exact⟨gM h1 fun i hi=>hR.1.block i (jM h1 hi) fun e=>by
   rw[h2] at hi
   obtain rfl:=az hi
   rcases e with e|e
   ·have:=hC.lt;omega
   ·have:=hlt _ e;omega,.inr ⟨k,h2,h3⟩⟩
theorem zN{ch:List Nat}{ops:Array Oper}{n k:Nat}{ds:List Deferred}{F:Act->World->Prop}{rest:List Oper}{H:List (Tmp×bn)}{a:Act}{o:Oper}{d:Tmp}{mm:Nat}{news:List Value}
 (hi:ch.contains k=false) (hw:Region.wanted o (yielded ops a.tmps)=true) (hns:∀cs b,o.op≠.select cs b) (hl:bi ops H o=true) (hd:o.dst=some d) (E:TypeId)
 (hr:∀w,(execOp a.eval o).run P w=.ok (.value (.slice (some ⟨w.heap.size,0,none⟩) mm mm)) (w.alloc (.cells news.toArray E)))
 (h:bS (iT w0 g gen sy av a0 cs c0 h0 hC vl fin m hlt) ch P ops n ds F (k+1) rest ((d,eZ w0 mm news)::H) a):bS (iT w0 g gen sy av a0 cs c0 h0 hC vl fin m hlt) ch P ops n ds F k (o::rest) H a:=by
 refine pO hi BO hw hns hl hd (fun w hW=>⟨_,_,hr w,ai w _,w.heap.size,mm,rfl,?_,fun j u hu=>?_⟩) h
 ·obtain⟨q,hk,_⟩:=hW;exact hk.size
 ·rw[eY,World.cell?_alloc_new];simpa using hu
theorem EX{ch:List Nat}{ops:Array Oper}{nn k:Nat}{ds:List Deferred}{F:Act->World->Prop}{rest:List Oper}{H:List (Tmp×bn)}{a:Act}{o:Oper}{s x d:Tmp}{t e:TypeId}{i:TypeInfo}{z:Value}{size bytes B n mm:Nat}{xs news:List Value}{c:CS}
 (hfin:fin=bj w0 vl size n news) (hi:ch.contains k=true) (hq:ch.idxOf k=m) (hgd:o.guard=none) (ho:o.op=.call {callee:=.builtin .append,args:=#[.tmp s,.tmp x],argTypes:=#[t,t]}) (hd:o.dst=some d)
 (ht:P.underlying t=some (.slice e)) (hin:P.info? e=some i) (hz:i.zero=some z) (hsize:i.size=size) (hby:i.bytes=bytes) (hzs:z.cells.size=size) (hsz:0<size)
 (hsn:cw H s=none) (hs:a.eval (.tmp s)=vl) (hx:cw H x=some (eZ w0 mm news)) (hown:w0.ownsRow B e size vl n xs) (hl:news.length=mm*size)
 (h1:∀u∈news,u.oneCell'=true) (h63:n+mm<=maxLen) (hbytes:(n+mm)*bytes<=140737488355328) (hbase:B<=w0.heap.size) (hg:vl.ownBlock≠some g) (hc:cs[m]?=some c) (hc':cs[m+1]?=some c)
 (h:bS (iT w0 g gen sy av a0 cs c0 h0 hC vl fin m hlt) ch P ops nn ds F (k+1) rest ((d,lG w0 B e size vl.ownBlock fin (n+mm) (xs++news))::H) a):
 bS (iT w0 g gen sy av a0 cs c0 h0 hC vl fin m hlt) ch P ops nn ds F k (o::rest) H a:=by
 refine pN m hi hq CT (fun cc w hW hf=>⟨?_,fun K Q' hK=>?_⟩) hd h
 ·unfold Region.wanted;rw[hgd]
 ·have hes:=hf s (by simp[Oper.looksAt,ho,hgd,Op.operands,Call.operands]);have hex:=hf x (by simp[Oper.looksAt,ho,hgd,Op.operands,Call.operands]);unfold em at hes hex;rw[hsn] at hes;rw[hx] at hex;obtain⟨p,c',hex,hp,hcl⟩:=hex;simp only at hes;obtain⟨hk,⟨c2,hc2,hC2⟩,hrow⟩:=hW;obtain rfl:c2=c:=by rw[hc] at hc2;exact(az hc2).symm
  have hrow':∀k,vl.ownBlock=some k->w.heap[k]?=w0.heap[k]?:=fun k hk=>hrow k hk (aF _);have hownw:w.ownsRow B e size vl n xs:=gM hown hrow';have hap:bj w vl size n news=fin:=by
   rw[hfin];unfold bj;cases vl with
   |slice av al ac=>
    cases av with
    |none=>rfl
    |some ad=>
     simp only;rw[hrow' ad.block rfl]
   |_=>rfl
  obtain⟨v',w',hr,h2,h3⟩:=jl (P:=P) t o.type e i z size bytes ht hin hz hsize hby hzs hsz B w w vl n xs hownw mm c' ⟨p,0,none⟩ news hl hcl h1 h63 hbytes (aK hbase hk.size) (bE.refl w);rw[hap] at h2 h3;have hk2:ak w w' (KY g vl):=ak.of_grown h2.1 fun k e=>.inr e;unfold Oper.wp execOp;simp only[ho,resolve,invoke,builtin,Sem.run_bind,Sem.run_pure,Result.andThen_ok,List.map_toArray,List.map_cons,List.map_nil,hes,hs,hex,hr];refine hK _ _ ⟨hk2,fun k hk _=>h2.2 k hk⟩ ⟨hk.trans hk2,⟨c2,hc',ag.grown hC2 h2.1 (fun e=>hg e.symm)⟩,fun k _ hq=>by omega⟩ ?_;refine⟨h3.1,h3.2.imp id fun ⟨k,e1,e2⟩=>⟨k,e1,aK hk.size e2⟩⟩
theorem Bp{T:TypeId}{xs:Array Value}{b:Nat}(hb:ag w0 b T xs)(h1:b≠g)(h2:vl.ownBlock≠some b){i:Nat}{v:Value}(hv:xs[i]?=some v):∀x:PW (iT w0 g gen sy av a0 cs c0 h0 hC vl fin m hlt),x.w.cell? ⟨b,i,none⟩=some v:=fun x=>by
 obtain⟨q,hk,_⟩:=x.2;exact((hb.keptK hk (fun e=>e.elim h1 h2)).cell i).trans hv
end
def Bw (w0:World)(g e:Nat)(T:TypeId)(gen:Int)(sy av:Value)(a:En)(cs:List CS)(es:List (Array Value))(c0:CS)(z0:Array Value)(h0:cs[0]?=some c0)(hz:es[0]?=some z0)(hR:Rd w0 g c0 gen sy av a)(hE:ag w0 e T z0):fK where
 ph q w:=ak w0 w (fun k=>k=g\/k=e)/\(∃c,cs[q]?=some c/\Rd w g c gen sy av a)/\∃z,es[q]?=some z/\ag w e T z
 K a b:=ak a b (fun k=>k=g\/k=e)
 w0:=w0
 start:=⟨ak.refl _ _,⟨c0,h0,hR⟩,z0,hz,hE⟩
 refl w:=ak.refl w _
 trans h k:=h.trans k
 grow h:=ak.of_below h
 stay h k:=⟨h.1.trans (ak.of_below k),by obtain⟨c,h1,h2⟩:=h.2.1;exact⟨c,h1,ag.below h2 k h2.lt⟩,by obtain⟨c,h1,h2⟩:=h.2.2;exact⟨c,h1,ag.below h2 k h2.lt⟩⟩
section
variable {w0 w:World} {g e q:Nat} {T:TypeId} {gen:Int} {sy av:Value} {a:En} {cs:List CS} {es:List (Array Value)} {c0:CS} {z0:Array Value} {h0:cs[0]?=some c0} {hz:es[0]?=some z0} {hR:Rd w0 g c0 gen sy av a} {hE:ag w0 e T z0}
theorem tt{P:Program}{f:FuncId}{args:Array Value}{c c':CS}{v:Value}{z:Array Value}(hne:e≠g)(hw:(Bw w0 g e T gen sy av a cs es c0 z0 h0 hz hR hE).ph q w)(hc:cs[q]?=some c)(hc':cs[q+1]?=some c')(hz1:es[q]?=some z)(hz2:es[q+1]?=some z)
 (h:Rd w g c gen sy av a->Calls P f args w fun e w'=>e=.returned v/\Rd w' g c' gen sy av a/\w.grownBy w' (some g)):
 Calls P f args w fun x w'=>x=.returned v/\(Bw w0 g e T gen sy av a cs es c0 z0 h0 hz hR hE).K w w'/\(Bw w0 g e T gen sy av a cs es c0 z0 h0 hz hR hE).ph (q+1) w':=by
 obtain⟨h1,⟨c2,h2,h3⟩,z2,h4,h5⟩:=hw
 obtain rfl:c2=c:=by rw[hc] at h2;exact(az h2).symm
 obtain rfl:z2=z:=by rw[hz1] at h4;exact(az h4).symm
 refine(h h3).mono ?_
 rintro x w' ⟨rfl,h6,h7⟩
 have hk:ak w w' (fun k=>k=g\/k=e):=ak.of_grown h7 fun k e=>.inl (az e).symm
 exact⟨rfl,hk,h1.trans hk,⟨c',hc',h6⟩,z2,hz2,ag.grown h5 h7 (fun e'=>hne (az e'))⟩
theorem tr{c:CS}{z:Array Value}{i:Nat}{v:Value}(hne:e≠g)(hw:(Bw w0 g e T gen sy av a cs es c0 z0 h0 hz hR hE).ph q w)(hc:cs[q]?=some c)(hc':cs[q+1]?=some c)(hz1:es[q]?=some z)(hz2:es[q+1]?=some (z.setIfInBounds i v)):
 (Bw w0 g e T gen sy av a cs es c0 z0 h0 hz hR hE).K w (w.setCell ⟨e,i,none⟩ v)/\(Bw w0 g e T gen sy av a cs es c0 z0 h0 hz hR hE).ph (q+1) (w.setCell ⟨e,i,none⟩ v):=by
 obtain⟨h1,⟨c2,h2,h3⟩,z2,h4,h5⟩:=hw
 obtain rfl:c2=c:=by rw[hc] at h2;exact(az h2).symm
 obtain rfl:z2=z:=by rw[hz1] at h4;exact(az h4).symm
 have hk:ak w (w.setCell ⟨e,i,none⟩ v) (fun k=>k=g\/k=e):=ak.of_grown (ap w e i v) fun k e=>.inr (az e).symm
 exact⟨hk,h1.trans hk,⟨c2,hc',ag.grown h3 (ap w e i v) (fun e'=>hne (az e').symm)⟩,_,hz2,ag.set_ h5 i v⟩
end
theorem xY(c:CS):(IW c).length<=12:=by
 unfold IW Num.ans;cases h:c.2 with
 |true=>simp
 |false=>
  cases hg:Num.getFixed c.1 12 with
  |none=>simp
  |some p=>
   obtain⟨t,k⟩:=p;unfold Num.getFixed at hg;cases hb:c.1[Num.szN 12]? with
   |none=>rw[hb] at hg;cases hg
   |some b=>
    rw[hb] at hg;simp only at hg;split at hg
    ·cases hg
    ·simp only[Option.some.injEq,Prod.mk.injEq] at hg;obtain⟨rfl,_⟩:=hg;simp only[Bool.false_eq_true,if_false,dp];have:Num.szN 12=12:=rfl;omega
theorem zR:∀(n:Nat) (c:CS),(eN n c).1.length=n/\(eN n c).2.1.length<=c.1.length/\∀y∈(eN n c).1,y.1.length<=12/\y.2.length<=12
 |0,c=>⟨rfl,aF _,fun y h=>by cases h⟩
 |n+1,c=>by
  obtain⟨h1,h2,h3⟩:=zR n (vp (vp c));have:=sw c;have:=sw (vp c);refine⟨by rw[eN,cY,h1],by rw[eN];simp only;omega,fun y hy=>?_⟩;rw[eN] at hy;rcases List.mem_cons.1 hy with rfl|hy
  ·exact⟨xY _,xY _⟩
  ·exact h3 y hy
theorem sE(n:Int): -9223372036854775808<=gk n/\gk n<=9223372036854775807:=by
 unfold gk IntKind.wrap;simp[IntKind.bits,IntKind.signed];omega
theorem DI(c:CS):(dy c).1.ok/\(dy c).1.labels.length<=6/\(dy c).2.1.length<=c.1.length/\∀y∈(dy c).1.labels,y.1.length<=12/\y.2.length<=12:=by
 have h1:=Dh c;unfold dy;split
 ·exact⟨by unfold En.ok aR;simp,Nat.zero_le _,h1,fun y h=>by cases h⟩
 ·have hm:=xQ (((Jf c).getD 0 0).toNat:Int) 6 (Be c) (by omega);simp only;generalize gP (((Jf c).getD 0 0).toNat:Int) 6 (Be c)=M at*;obtain⟨k1,k2,k3⟩:=zR M.1 M.2;generalize eN M.1 M.2=R at*;have w1:=jU R.2;have w2:=jU (wN R.2);have w3:=jU (wN (wN R.2));exact⟨⟨sE _,sE _,sE _⟩,by omega,by omega,k3⟩
def fH(f:En->CS->En×CS):Nat->En->CS->Option (List En)×CS
 |0,_,c=>(some [],c)
 |q+1,a,c=>if (f a c).2.2 then(none,(f a c).2) else((fH f q (f a c).1 (f a c).2).1.map ((f a c).1::·),(fH f q (f a c).1 (f a c).2).2)
theorem DH:∀(n:Nat) (a:En) (c:CS),yf n c=fH (fun _ c=>dy c) n a c
 |0,_,_=>rfl
 |n+1,a,c=>by
  rw[yf,fH,DH n (dy c).1 (dy c).2];split
  ·rfl
  ·generalize fH (fun _ c=>dy c) n (dy c).1 (dy c).2=R;obtain⟨r,d⟩:=R;cases r<;>rfl
def xL (A:List En)(r:Option (List En)×CS):Option (List En)×CS:=(r.1.map (A++·),r.2)
theorem GF(r:Option (List En)×CS):xL [] r=r:=by
 obtain⟨r,d⟩:=r;cases r<;>rfl
theorem Fo{f:En->CS->En×CS}{n:Nat}{a:En}{c:CS}(A:List En)(h:(f a c).2.2=true):xL A (fH f (n+1) a c)=(none,(f a c).2):=by
 rw[fH,if_pos h];rfl
theorem Cs{f:En->CS->En×CS}{n:Nat}{a:En}{c:CS}(A:List En)(h:(f a c).2.2=false):xL A (fH f (n+1) a c)=xL (A++[(f a c).1]) (fH f n (f a c).1 (f a c).2):=by
 rw[fH,if_neg (by rw[h];simp)];unfold xL;simp only[Option.map_map];congr 1;cases (fH f n (f a c).1 (f a c).2).1<;>simp
theorem Fn{f:En->CS->En×CS}{a:En}{c:CS}(A:List En):xL A (fH f 0 a c)=(some A,c):=by
 unfold xL fH;simp
def eh(Z:List (En×Value)):List Value:=Z.flatMap fun z=>FY z.2 z.1
theorem nC(Z:List (En×Value))(x:En)(v:Value):eh Z++FY v x=eh (Z++[(x,v)]):=by unfold eh;simp
theorem lz:∀(Z:List (En×Value)) (i:Nat) (z:En×Value),Z[i]?=some z->∀j u,(FY z.2 z.1)[j]?=some u->(eh Z)[i*4+j]?=some u
 |[],i,z,h,_,_,_=>by simp at h
 |y::Z,0,z,h,j,u,hj=>by
  obtain rfl:y=z:=by simpa using h
  unfold eh;rw[List.flatMap_cons,Nat.zero_mul,Nat.zero_add,List.getElem?_append_left,hj];exact(List.getElem?_eq_some_iff.1 hj).1
 |y::Z,i+1,z,h,j,u,hj=>by
  have ih:=lz Z i z (by simpa using h) j u hj;unfold eh at*;rw[List.flatMap_cons,show (i+1)*4+j=4+(i*4+j) by omega,show 4+(i*4+j)=(FY y.2 y.1).length+(i*4+j) from rfl,List.getElem?_append_right (by omega),Nat.add_sub_cancel_left];exact ih
theorem Ct{w:World}{B n:Nat}{v:Value}{Z:List (En×Value)}(h:w.ownsRow B 92 4 v n (eh Z))(hzn:Z.length=n)(hn:Z.length<=100000)(hl:∀z∈Z,z.1.ok/\cT w z.2 z.1.labels):dR w v (Z.map (·.1)):=by
 subst hzn;have hcells:∀g,v.ownBlock=some g->∀j u,(eh Z)[j]?=some u->w.cell? ((⟨g,0,none⟩:Addr).add j)=some u:=fun g hg=>h.cells (g:=g) hg;rcases h.2 with⟨e,e0⟩|⟨g,cap,cur,e,e1,e2,e3,_⟩
 ·refine⟨none,0,by rw[e,List.length_map,e0],fun _=>rfl,by rwa[List.length_map],by rw[List.length_map,e0];exact aF _,fun i x hx=>?_⟩;rw[List.length_eq_zero_iff.1 e0] at hx;simp at hx
 ·refine⟨some ⟨g,0,none⟩,cap,by rw[List.length_map];exact e,(fun e=>by cases e),by rwa[List.length_map],by rw[List.length_map];exact e3,fun i x hx=>?_⟩;rw[List.getElem?_map] at hx;cases hz:Z[i]? with
  |none=>rw[hz] at hx;cases hx
  |some z=>
   rw[hz] at hx;obtain rfl:z.1=x:=by simpa using hx
   obtain⟨hok,hL⟩:=hl z (List.mem_of_getElem? hz);have hc:∀j u,(FY z.2 z.1)[j]?=some u->w.cell? ⟨g,0+i*4+j,none⟩=some u:=fun j u hj=>by
    have:=hcells g (by rw[e];rfl) (i*4+j) u (lz Z i z hz j u hj);rw[eY] at this;rw[show 0+i*4+j=i*4+j by omega];simpa using this
   obtain⟨⟨la,lc,hv,h2,h3⟩,h4⟩:=hL;exact⟨hok,g,0,rfl,la,lc,by rw[<-hv];exact hc 0 _ rfl,⟨la,lc,rfl,h2,by rw[<-hv] at*;exact h3⟩,hc 1 _ rfl,hc 2 _ rfl,hc 3 _ rfl⟩
end
section
open Go.RowKit Go.Maps Go.WideMaps
attribute [local go_sem] am aq
theorem vK{P:Program}{fn:Func}{p:Tmp}{ty:TypeId}(h:fn.results=#[.cell p ty])(tmps:Array Value)(w:World)(g:Nat)(tb:TypeId)(cs:Array Value)(d:TypeDesc)
 (hp:tmps.getD p undef=.pointer (some ⟨g,0,none⟩)) (hg:ag w g tb cs)
 (hu:P.underlying ty=some d) (hd:(match d with|.struct _|.array _ _=>true|_=>false)=true) (hi:(P.info? ty).map (·.size)=some cs.size):
 (results fn tmps).run P w=.ok (.agg cs) w:=by
 have hp':tmps[p]?.getD undef=.pointer (some ⟨g,0,none⟩):=by simpa using hp
 simp[results,h,hp',asAddr,run_loadVar_row w g tb ty cs (0,0) d hg hu hd hi]
def KJ (R:List Lb×CS):En×CS:=(⟨R.1,gk (wV R.2),gk (wV (wN R.2)),gk (wV (wN (wN R.2)))⟩,wN (wN (wN R.2)))
theorem Ib(c:CS)(h:(Be c).2=false):dy c=KJ (eN (gP (((Jf c).getD 0 0).toNat:Int) 6 (Be c)).1 (gP (((Jf c).getD 0 0).toNat:Int) 6 (Be c)).2):=by
 unfold dy;rw[if_neg (by rw[h];simp)];rfl
theorem Ic(c:CS)(h:(Be c).2=true):dy c=(aR,Be c):=by
 unfold dy;rw[if_pos h]
theorem Je(c:CS)(h:(Be c).2=false):∃b,Jf c=[b]:=by
 unfold Be Num.nxt at h;unfold Jf Num.ans;cases hb:c.2 with
 |true=>rw[hb] at h;simp[hb] at h
 |false=>
  cases hg:Num.getTake c.1 1 with
  |none=>rw[hb,hg] at h;simp at h
  |some p=>
   obtain⟨t,k⟩:=p;simp only[Bool.false_eq_true,if_false];unfold Num.getTake at hg;split at hg
   ·cases hg
   ·rename_i hc;simp only[Option.some.injEq,Prod.mk.injEq] at hg;obtain⟨rfl,_⟩:=hg;cases hl:c.1 with
    |nil=>rw[hl] at hc;simp at hc
    |cons b r=>exact⟨b,rfl⟩
theorem Cv(q:Nat)(c:CS)(gen:Int)(sy av:Value)(a:En)(w:World)(h:Rd w q c gen sy av a)(hl:c.1.length<=1000000):
 Calls Tryz.prog 245 #[.pointer (some ⟨q,0,none⟩)] w fun e w'=>∃vl,e=.returned (Kb vl (dy c).1)/\Rd w' q (dy c).2 gen sy av a/\cT w' vl (dy c).1.labels/\ak w w' (fun k=>k=q):=by
 have ⟨i0,hin,hz0,hz1,hz2⟩:=info_parts (show (Tryz.prog.info? 73).map (fun i=>(i.zero,i.size,i.bytes))=some (some (.agg #[.string ⟨#[]⟩,.string ⟨#[]⟩]),2,32) by kernel_rfl)
 have HB:=af (DI c)
 have q1:=af (fun W (hR:Rd W q c gen sy av a)=>Ma q c gen sy av a W hR (by omega))
 have hkl:=Dh c
 have HR1:=af (Ic c)
 have HR2:=af (Ib c)
 have HV:=af (Je c)
 generalize dy c=X at*
 generalize Be c=cA at*
 have hqw:=h.lt
 have bW:ak w ((w.alloc (.cells #[.slice none 0 0,.int .i64 0,.int .i64 0,.int .i64 0] 92)).alloc (.cells #[.slice none 0 0,.int .i64 0,.int .i64 0,.int .i64 0] 92)) (fun k=>k=q):=(ak.alloc w _ _).trans (ak.alloc _ _ _)
 have hR0:Rd ((w.alloc (.cells #[.slice none 0 0,.int .i64 0,.int .i64 0,.int .i64 0] 92)).alloc (.cells #[.slice none 0 0,.int .i64 0,.int .i64 0,.int .i64 0] 92)) q c gen sy av a:=ag.alloc (ag.alloc h _) _
 have r0:ag ((w.alloc (.cells #[.slice none 0 0,.int .i64 0,.int .i64 0,.int .i64 0] 92)).alloc (.cells #[.slice none 0 0,.int .i64 0,.int .i64 0,.int .i64 0] 92)) w.heap.size 92 #[.slice none 0 0,.int .i64 0,.int .i64 0,.int .i64 0]:=(ag.new w _ _).alloc _
 have e0:ag ((w.alloc (.cells #[.slice none 0 0,.int .i64 0,.int .i64 0,.int .i64 0] 92)).alloc (.cells #[.slice none 0 0,.int .i64 0,.int .i64 0,.int .i64 0] 92)) (w.heap.size+1) 92 #[.slice none 0 0,.int .i64 0,.int .i64 0,.int .i64 0]:=by
  have:=ag.new (w.alloc (.cells #[.slice none 0 0,.int .i64 0,.int .i64 0,.int .i64 0] 92)) 92 #[.slice none 0 0,.int .i64 0,.int .i64 0,.int .i64 0];rw[aW] at this;exact this
 have hsz0:w.heap.size+2<=((w.alloc (.cells #[.slice none 0 0,.int .i64 0,.int .i64 0,.int .i64 0] 92)).alloc (.cells #[.slice none 0 0,.int .i64 0,.int .i64 0,.int .i64 0] 92)).heap.size:=by rw[aW,aW];omega
 go_enter Tryz.func245,Tryz.ntmps245
 go_wp2_with fail
 generalize (w.alloc (.cells #[.slice none 0 0,.int .i64 0,.int .i64 0,.int .i64 0] 92)).alloc (.cells #[.slice none 0 0,.int .i64 0,.int .i64 0,.int .i64 0] 92)=W0 at*
 refine(q1.out W0 hR0).mono ?_
 rintro e w1 ⟨rfl,hR1,hgA⟩
 have kA:ak W0 w1 (fun k=>k=q):=ak.of_grown hgA fun k e=>(az e).symm
 have r1:=r0.keptK kA (by omega)
 have e1:=e0.keptK kA (by omega)
 have k1:=bW.trans kA
 have hsz1:=aK hsz0 kA.size
 clear r0 e0 bW q1 hgA hR0 kA hsz0 h W0
 have d1:=ax hR1 1 (.bool cA.2) rfl
 cases hbad:cA.2 with
 |true=>
  rw[hbad] at d1;have HX:=af (HR1.out hbad);clear HR2 HV HR1 HB hbad;obtain⟨⟨x0,x1,x2,x3⟩,_⟩:=dt e1;obtain⟨⟨u0,u1,u2,u3⟩,v0,v1,v2,v3⟩:=dt r1;obtain⟨rE,hkE⟩:=Ji r1 (.slice none 0 0) (.int .i64 0) (.int .i64 0) (.int .i64 0);have hRE:Rd _ q cA gen sy av a:=ag.keptK hR1 hkE (by omega);have hKE:=k1.then_over hkE (fun i hi h=>by omega);go_wp2_with fail
  (try simp only[Exit.inBlock,Exit.then]);refine bodyPost_ret (vK rfl _ _ w.heap.size 92 _ _ rfl rE Tryz.underlying92 rfl (by kernel_rfl)) rfl ?_;rw[HX.out];exact⟨.slice none 0 0,rfl,hRE,mq (B:=0) (L:=[]) (eE) (Nat.zero_le _) (fun x h=>by cases h),hKE⟩
 |false=>
  rw[hbad] at d1;have HR:=af (HR2.out hbad);obtain⟨y,hy⟩:=HV.out hbad;rw[hy] at HR⊢;have hyn:=y.toNat_lt;have hy0:∀W,(Instr.index 9 (.string (bs [y])) (.int .i64 0)).run Tryz.prog W=.ok (.int .u8 (y.toNat:Int)) W:=fun W=>cE (P:=Tryz.prog) 9 Tryz.underlying9 [y] 0 y rfl .i64 W;have hyw:IntKind.u64.wrap (y.toNat:Int)=(y.toNat:Int):=by simp[IntKind.wrap,IntKind.bits,IntKind.signed];omega
  rw[show ([y].getD 0 0).toNat=y.toNat from rfl] at HR;have q2:=af (fun W (hR:Rd W q cA gen sy av a)=>zK q y.toNat 6 cA gen sy av a W hR (by omega) (by omega));have hml:=xQ (y.toNat:Int) 6 cA (by omega);generalize gP (y.toNat:Int) 6 cA=M at*;obtain⟨N,c0⟩:=M;simp only at hml q2 HR;clear HR1 HR2 HV hy;generalize y.toNat=yn at*;go_wp2_with fail
  refine(q2.out _ hR1).mono ?_;rintro e w2 ⟨rfl,hR2,hgB⟩;have kB:ak w1 w2 (fun k=>k=q):=ak.of_grown hgB fun k e=>(az e).symm;have r2:=r1.keptK kB (by omega);have e2:=e1.keptK kB (by omega);have k2:=k1.trans kB;have rw0:w2.ownsRow (w.heap.size+2) 73 2 (.slice none 0 0) ([]:List Lb).length (aQ []):=eE;have hsz2:w.heap.size+2<=w2.heap.size:=aK hsz1 kB.size;clear r1 e1 k1 kB hgB q2 hR1 hsz1 hy0 hyw hyn d1 hbad;go_wp2_with fail
  go_loopw [20] (fun vi wr=>∃(i:Nat) (T:List Lb) (c1:CS) (vl:Value),i<=N/\vi=.int .i64 (i:Int)/\T.length=i/\c1.1.length<=1000000/\Rd wr q c1 gen sy av a/\ag wr (w.heap.size+1) 92 (pV vl aR)/\ag wr w.heap.size 92 #[.slice none 0 0,.int .i64 0,.int .i64 0,.int .i64 0]/\
   wr.ownsRow (w.heap.size+2) 73 2 vl T.length (aQ T)/\ak w wr (fun k=>k=q)/\w.heap.size+2<=wr.heap.size/\Hid (eN N c0=(T++(eN (N-i) c1).1,(eN (N-i) c1).2))) (fun vi _=>N-(intOf vi).toNat)
  case atStart=>exact⟨0,[],c0,_,Nat.zero_le _,rfl,rfl,by omega,hR2,e2,r2,rw0,k2,hsz2,af rfl⟩
  clear hR2 e2 r2 rw0 k2 hsz2;obtain⟨i,T,c1,vl,hi,rfl,hTi,hcl,hR,hB,r0,hrow,hk,hsz,HI⟩:=hrel;subst hTi;have hvq:vl.ownBlock≠some q:=fun e=>by have h1:=bg hrow e;rw[aP hR] at h1;simp at h1
  have hve:vl.ownBlock≠some (w.heap.size+1):=fun e=>by have h1:=bg hrow e;rw[aP hB] at h1;simp at h1
  have hvr:vl.ownBlock≠some w.heap.size:=fun e=>by have h1:=bg hrow e;rw[aP r0] at h1;simp at h1
  have hltr:∀k,vl.ownBlock=some k->k<wr.heap.size:=fun k hk=>jM hrow hk;obtain⟨va,vc,rfl⟩:=aH hrow;rcases(show T.length<N\/T.length=N by omega) with hil|hiN
  ·have HI2:=af (show eN N c0=(T++[(IW c1,IW (vp c1))]++(eN (N-(T.length+1)) (vp (vp c1))).1,(eN (N-(T.length+1)) (vp (vp c1))).2) by
    rw[HI.out,show N-T.length=N-(T.length+1)+1 by omega]
    conv=>lhs;unfold eN
    simp)
   have s1:=sw c1;have s2:=sw (vp c1);have K1:=af (fun W (hR:Rd W q c1 gen sy av a)=>LU q c1 gen sy av a W hR (by omega));have K2:=af (fun W (hR:Rd W q (vp c1) gen sy av a)=>LU q (vp c1) gen sy av a W hR (by omega));have hl1:=xY c1;have hl2:=xY (vp c1);generalize IW c1=t1 at*;generalize vp c1=c2 at*;generalize IW c2=t2 at*;generalize vp c2=c3 at*;have HOV:=af (fun W (hk':ak wr W (KY q (.slice va T.length vc)))=>hk.then_over hk' (fun i hi hT=>by
    rcases hT with e|e
    ·exact e
    ·have:=(hrow.lt i e).1
     omega))
   have hcell:∀x:PW (iT wr q gen sy av a [c1,c2,c3,c3] c1 rfl hR (.slice va T.length vc) (bj wr (.slice va T.length vc) 2 T.length [.string (bs t1),.string (bs t2)]) 2 hltr),x.w.cell? ⟨w.heap.size+1,0,none⟩=some (.slice va T.length vc):=Bp hB (by omega) hve rfl;clear HI;go_wp2_with fail
   refine fu (iT wr q gen sy av a [c1,c2,c3,c3] c1 rfl hR (.slice va T.length vc) (bj wr (.slice va T.length vc) 2 T.length [.string (bs t1),.string (bs t2)]) 2 hltr) [5,9,12] rfl (by kernel_rfl) (by kernel_rfl) rfl (by kernel_rfl) (by kernel_rfl) (by kernel_rfl) ?_;iterate 5 (refine jY fun K hK=>?_;go_big_quiet_step (fail);refine hK _ ?_;clear hK K)
   (refine AV 0 (f:=282) (args:=#[.pointer (some ⟨q,0,none⟩),.int .i64 12]) (v:=.string (bs t1)) (fun W hW=>tp hvq hW rfl rfl (by omega) (fun hR' _=>K1.out W hR')) fun K hK=>?_;go_big_quiet_step (fail);refine hK _ ?_;clear hK K);iterate 3 (refine jY fun K hK=>?_;go_big_quiet_step (fail);refine hK _ ?_;clear hK K)
   (refine AV 1 (f:=282) (args:=#[.pointer (some ⟨q,0,none⟩),.int .i64 12]) (v:=.string (bs t2)) (fun W hW=>tp hvq hW rfl rfl (by omega) (fun hR' _=>K2.out W hR')) fun K hK=>?_;go_big_quiet_step (fail);refine hK _ ?_;clear hK K)
   (refine Lh (v:=.agg #[.string (bs t1),.string (bs t2)]) (fun W hW=>by skip;go_simp) fun K hK=>?_;go_big_quiet_step (fail);refine hK _ ?_;clear hK K);refine zN (d:=33) (mm:=1) (news:=[.string (bs t1),.string (bs t2)]) (by kernel_rfl) (by kernel_rfl) (fun _ _ h=>by cases h) (by kernel_rfl) rfl 73 (fun W=>by go_simp) ?_;refine EX (d:=34) (s:=23) (x:=33) (c:=c3) rfl (by kernel_rfl) (by kernel_rfl) rfl rfl rfl Tryz.underlying65 hin hz0 hz1 hz2 rfl (by decide) rfl rfl rfl hrow rfl (by simp[Value.oneCell']) (by unfold maxLen;omega) (by omega) hsz hvq rfl rfl ?_
   (refine jY fun K hK=>?_;go_big_quiet_step (fail);refine hK _ ?_;clear hK K);refine Dz ?_;rintro w5 hK5 ⟨hk5,⟨cc,hcc,hR5⟩,_⟩;obtain rfl:cc=c3:=(az hcc).symm;simp only[aB];rintro v' ⟨hown,_⟩ z _;simp only[Act.put,List.setIfInBounds_toArray,List.set_cons_succ,List.set_cons_zero];obtain⟨va',vc',rfl⟩:=aH hown;have hB5:ag w5 (w.heap.size+1) 92 #[.slice va T.length vc,.int .i64 0,.int .i64 0,.int .i64 0]:=hB.keptK hk5 (fun e=>e.elim (fun e=>by omega) (fun e=>hve e));have r5:=r0.keptK hk5 (fun e=>e.elim (fun e=>by omega) (fun e=>hvr e));have hkk5:=HOV.out w5 hk5;have e1:w5.cell? ⟨w.heap.size+1,0,none⟩=some (.slice va T.length vc):=(ag.cell hB5 0).trans rfl;have f1:=ag.frozen hB5 0;have hnb:(Value.slice va' (T.length+1) vc').ownBlock≠some (w.heap.size+1):=fun e=>by have h1:=bg hown e;rw[aP hB5] at h1;simp at h1
   have hk6:ak w5 (w5.setCell ⟨w.heap.size+1,0,none⟩ (.slice va' (T.length+1) vc')) (fun k=>k=w.heap.size+1):=ak.of_grown (ap _ _ _ _) fun k e=>(az e).symm;have hB6:ag (w5.setCell ⟨w.heap.size+1,0,none⟩ (.slice va' (T.length+1) vc')) (w.heap.size+1) 92 (pV (.slice va' (T.length+1) vc') aR):=ag.set_ hB5 0 _;have hR6:Rd (w5.setCell ⟨w.heap.size+1,0,none⟩ (.slice va' (T.length+1) vc')) q cc gen sy av a:=ag.keptK hR5 hk6 (by omega);have r6:=r5.keptK hk6 (by omega);have hr6:=aw hown hk6 (fun k e e2=>hnb (e2▸e));have hkk6:=hkk5.then_over hk6 (fun i hi e=>by omega);have hsz6:w.heap.size+2<=(w5.setCell ⟨w.heap.size+1,0,none⟩ (.slice va' (T.length+1) vc')).heap.size:=aK hsz (aK hk5.size hk6.size);have hrl:aQ (T++[(t1,t2)])=aQ T++[.string (bs t1),.string (bs t2)]:=by unfold aQ;simp
   clear K1 K2 hcell hK5 hk5 hR5 hown hB5 r5 hkk5 hk6 hrow hB hR r0 hk hltr hvq hve hvr hnb HOV;go_wp2_with fail
   go_roundw
   case rel=>
    refine⟨T.length+1,T++[(t1,t2)],cc,_,by omega,by go_num,by simp,by omega,hR6,hB6,r6,?_,hkk6,hsz6,af HI2.out⟩;rw[hrl,aG];exact hr6
   case measure=>simp[intOf];omega
  subst hiN;have HX:=af (show X=KJ (T,c1) by
   rw[HR.out,HI.out,Nat.sub_self]
   simp[eN])
  have hXl:X.1.labels=T:=by rw[HX.out];rfl
  have hlo:=mq hrow (by have:=HB.out.2.1;rw[hXl] at this;omega) (fun x hx=>by have:=HB.out.2.2.2 x (by rw[hXl];exact hx);omega);have hne:w.heap.size+1≠q:=by omega
  have l1:=jU c1;have l2:=jU (wN c1);obtain⟨n1,hn1,hn1'⟩:=l8 c1;obtain⟨n2,hn2,hn2'⟩:=l8 (wN c1);obtain⟨n3,hn3,hn3'⟩:=l8 (wN (wN c1));have q3:=af (fun W (hR:Rd W q c1 gen sy av a)=>Lz q c1 gen sy av a W hR (by omega));have q4:=af (fun W (hR:Rd W q (wN c1) gen sy av a)=>Lz q (wN c1) gen sy av a W hR (by omega));have q5:=af (fun W (hR:Rd W q (wN (wN c1)) gen sy av a)=>Lz q (wN (wN c1)) gen sy av a W hR (by omega));unfold KJ at HX;simp only at HX;rw[hn1] at q3;rw[hn2] at q4;rw[hn3] at q5;rw[hn1,hn2,hn3] at HX;clear HR HI HB hvr hve hvq hltr hrow;generalize wN c1=c2 at*;generalize wN c2=c3 at*;generalize wN c3=c4 at*;have wA:IntKind.i64.wrap (n1:Int)=gk (n1:Int):=rfl;have wC:IntKind.i64.wrap (n2:Int)=gk (n2:Int):=rfl;have wD:IntKind.i64.wrap (n3:Int)=gk (n3:Int):=rfl;generalize gk (n1:Int)=L at*;generalize gk (n2:Int)=O at*;generalize gk (n3:Int)=E at*;go_wp2_with fail
  refine dZ (Bw wr q (w.heap.size+1) 92 gen sy av a [c1,c2,c3,c4,c4,c4,c4] [pV (.slice va T.length vc) aR,pV (.slice va T.length vc) aR,pV (.slice va T.length vc) aR,pV (.slice va T.length vc) aR,(pV (.slice va T.length vc) aR).setIfInBounds 1 (.int .i64 L),((pV (.slice va T.length vc) aR).setIfInBounds 1 (.int .i64 L)).setIfInBounds 2 (.int .i64 O),(((pV (.slice va T.length vc) aR).setIfInBounds 1 (.int .i64 L)).setIfInBounds 2 (.int .i64 O)).setIfInBounds 3 (.int .i64 E)] c1 (pV (.slice va T.length vc) aR) rfl rfl hR hB) [3,8,13,16,18,20] rfl (by kernel_rfl) (by kernel_rfl) (by kernel_rfl) (by kernel_rfl) ?_;iterate 3 (refine jY fun K hK=>?_;go_big_quiet_step (fail);refine hK _ ?_;clear hK K)
  (refine AV 0 (f:=141) (args:=#[.pointer (some ⟨q,0,none⟩)]) (v:=.int .u64 (n1:Int)) (fun W hW=>tt hne hW rfl rfl rfl rfl (fun hR'=>q3.out W hR')) fun K hK=>?_;go_big_quiet_step (fail);refine hK _ ?_;clear hK K);iterate 4 (refine jY fun K hK=>?_;go_big_quiet_step (fail);refine hK _ ?_;clear hK K)
  (refine AV 1 (f:=141) (args:=#[.pointer (some ⟨q,0,none⟩)]) (v:=.int .u64 (n2:Int)) (fun W hW=>tt hne hW rfl rfl rfl rfl (fun hR'=>q4.out W hR')) fun K hK=>?_;go_big_quiet_step (fail);refine hK _ ?_;clear hK K);iterate 4 (refine jY fun K hK=>?_;go_big_quiet_step (fail);refine hK _ ?_;clear hK K)
  (refine AV 2 (f:=141) (args:=#[.pointer (some ⟨q,0,none⟩)]) (v:=.int .u64 (n3:Int)) (fun W hW=>tt hne hW rfl rfl rfl rfl (fun hR'=>q5.out W hR')) fun K hK=>?_;go_big_quiet_step (fail);refine hK _ ?_;clear hK K);iterate 2 (refine jY fun K hK=>?_;go_big_quiet_step (fail);refine hK _ ?_;clear hK K)
  refine i8 3 (by kernel_rfl) (by kernel_rfl) rfl (fun _ _ h=>by cases h) (by kernel_rfl) rfl (fun W hW=>?_) ?_
  ·obtain⟨_,_,z,hz,hE⟩:=id hW;obtain rfl:pV (.slice va T.length vc) aR=z:=az hz;have g0:=ax hE 1 (.int .i64 0) rfl;have g1:=ag.frozen hE 1;exact⟨_,by go_simp,tr hne hW rfl rfl rfl rfl⟩
  (refine jY fun K hK=>?_;go_big_quiet_step (fail);refine hK _ ?_;clear hK K);refine i8 4 (by kernel_rfl) (by kernel_rfl) rfl (fun _ _ h=>by cases h) (by kernel_rfl) rfl (fun W hW=>?_) ?_
  ·obtain⟨_,_,z,hz,hE⟩:=id hW;obtain rfl:(pV (.slice va T.length vc) aR).setIfInBounds 1 (.int .i64 L)=z:=az hz;have g0:=ax hE 2 (.int .i64 0) rfl;have g1:=ag.frozen hE 2;exact⟨_,by go_simp,tr hne hW rfl rfl rfl rfl⟩
  (refine jY fun K hK=>?_;go_big_quiet_step (fail);refine hK _ ?_;clear hK K);refine i8 5 (by kernel_rfl) (by kernel_rfl) rfl (fun _ _ h=>by cases h) (by kernel_rfl) rfl (fun W hW=>?_) ?_
  ·obtain⟨_,_,z,hz,hE⟩:=id hW;obtain rfl:((pV (.slice va T.length vc) aR).setIfInBounds 1 (.int .i64 L)).setIfInBounds 2 (.int .i64 O)=z:=az hz;have g0:=ax hE 3 (.int .i64 0) rfl;have g1:=ag.frozen hE 3;exact⟨_,by go_simp,tr hne hW rfl rfl rfl rfl⟩
  refine Dz ?_;rintro W3 hK3 ⟨_,⟨c',hc',hR3⟩,z',hz',hB3⟩;obtain rfl:c4=c':=az hc';obtain rfl:=az hz';simp only[aB];have hB3:ag W3 (w.heap.size+1) 92 #[.slice va T.length vc,.int .i64 L,.int .i64 O,.int .i64 E]:=hB3;have r3:=r0.keptK hK3 (by omega);have hk3:=hk.then_over hK3 (fun i hi h=>by omega);have hlo3:=hlo.kept hK3 (fun b hb e=>by
   rcases e with rfl|rfl
   ·rw[aP hR] at hb;simp at hb
   ·rw[aP hB] at hb;simp at hb)
  obtain⟨rE,hkE⟩:=Ji r3 (.slice va T.length vc) (.int .i64 L) (.int .i64 O) (.int .i64 E);have hRE:Rd _ q c4 gen sy av a:=ag.keptK hR3 hkE (by omega);have hKE:=hk3.then_over hkE (fun i hi h=>by omega);have hloE:=hlo3.kept hkE (fun b hb e=>by subst e;rw[aP r3] at hb;simp at hb);obtain⟨⟨x0,x1,x2,x3⟩,_⟩:=dt hB3;obtain⟨⟨u0,u1,u2,u3⟩,v0,v1,v2,v3⟩:=dt r3;clear hK3 hR hB r0 hk hlo hR3 hk3 hlo3 hB3;go_wp2_with fail
  (try simp only[Exit.inBlock,Exit.then]);refine bodyPost_ret (vK rfl _ _ w.heap.size 92 _ _ rfl rE Tryz.underlying92 rfl (by kernel_rfl)) rfl ?_;rw[HX.out];exact⟨.slice va T.length vc,rfl,hRE,hloE,hKE⟩
theorem KP(c:CS):pZ 1 c=fH (fun _ c=>dy c) (gP (wV c) 20 (wN c)).1 aR (gP (wV c) 20 (wN c)).2:=by
 unfold pZ;rw[if_pos rfl,<-DH]
theorem Gy(q:Nat)(c:CS)(gen:Int)(w:World)(h:Rd w q c gen (.slice none 0 0) (.slice none 0 0) aR)(hl:c.1.length<=1000000)(hg1: -9223372036854775808<=gen)(hg2:gen<=9223372036854775807)(hgg:gen=1):
 Calls Tryz.prog 199 #[.pointer (some ⟨q,0,none⟩)] w fun e w'=>∃v sy av a,e=.returned v/\dR w' v ((pZ gen c).1.getD [])/\Rd w' q (pZ gen c).2 gen sy av a/\ak w w' (fun k=>k=q):=by
 have ⟨i0,hin,hz0,hz1,hz2⟩:=info_parts (show (Tryz.prog.info? 92).map (fun i=>(i.zero,i.size,i.bytes))=some (some (.agg #[.slice none 0 0,.int .i64 0,.int .i64 0,.int .i64 0]),4,48) by kernel_rfl)
 have dg:=ax h 2 (.int .i64 gen) rfl
 by_cases hg:gen=1
 ·subst hg;have f1:((1:Int)==1)=true:=rfl;rw[KP];have q1:=af (Lz q c 1 _ _ _ w h (by omega));have h1:=jU c;obtain⟨n0,hn0,hn1⟩:=l8 c;rw[hn0] at q1⊢;have qm:=af (fun W (hR:Rd W q (wN c) 1 (.slice none 0 0) (.slice none 0 0) aR)=>zK q n0 20 (wN c) 1 _ _ _ W hR hn1 (by omega));have hml:=xQ n0 20 (wN c) (by omega);generalize gP n0 20 (wN c)=M at*;obtain⟨N,c0⟩:=M;simp only at hml qm⊢;generalize wN c=cA at*;clear hn0 hn1;go_enter Tryz.func199,Tryz.ntmps199
  go_wp2_with fail
  refine q1.out.mono ?_;rintro e w1 ⟨rfl,hRm,hg1'⟩;have km:ak w w1 (fun k=>k=q):=ak.of_grown hg1' fun k e=>(az e).symm;clear q1 hg1' dg h;go_wp2_with fail
  refine(qm.out _ hRm).mono ?_;rintro e w2 ⟨rfl,hR2,hgB⟩;have k2:=km.trans (ak.of_grown hgB fun k e=>(az e).symm);have rw0:w2.ownsRow w.heap.size 92 4 (.slice none 0 0) ([]:List (En×Value)).length (eh []):=eE;clear qm hRm hgB km;go_wp2_with fail
  go_loopw [5,28] (fun v5 vi wr=>∃(i:Nat) (Z:List (En×Value)) (c1:CS) (a1 ar:En) (av vl:Value),i<=N/\vi=.int .i64 (i:Int)/\v5=vl/\Z.length=i/\c1.1.length<=1000000/\Rd wr q c1 1 (.slice none 0 0) av ar/\wr.ownsRow w.heap.size 92 4 vl Z.length (eh Z)/\(∀z∈Z,z.1.ok/\cT wr z.2 z.1.labels)/\ak w wr (fun k=>k=q)/\Hid (fH (fun _ c=>dy c) N aR c0=xL (Z.map (·.1)) (fH (fun _ c=>dy c) (N-i) a1 c1))) (fun _ vi _=>N-(intOf vi).toNat)
  case atStart=>exact⟨0,[],c0,aR,aR,_,_,Nat.zero_le _,rfl,rfl,rfl,by omega,hR2,rw0,(fun z hz=>by cases hz),k2,af (GF _).symm⟩
  clear hR2 rw0 k2;obtain⟨i,Z,c1,a1,ar,av,vl,hi,rfl,rfl,hTi,hcl,hR,hrow,hZ,hk,HI⟩:=hrel;subst hTi;obtain⟨va,vc,rfl⟩:=aH hrow;rcases(show Z.length<N\/Z.length=N by omega) with hil|hiN
  ·have hc1:True:=trivial;have qe:=af (Cv q c1 1 (.slice none 0 0) av ar wr hR (by omega));have HB:=af (DI c1);have HG:=af (fun h=>Cs (f:=(fun _ c=>dy c)) (n:=N-(Z.length+1)) (a:=a1) (c:=c1) (Z.map (·.1)) h);have HX:=af (fun h=>Fo (f:=(fun _ c=>dy c)) (n:=N-(Z.length+1)) (a:=a1) (c:=c1) (Z.map (·.1)) h);have HI2:=af (show fH (fun _ c=>dy c) N aR c0=xL (Z.map (·.1)) (fH (fun _ c=>dy c) (N-(Z.length+1)+1) a1 c1) by rw[HI.out,show N-Z.length=N-(Z.length+1)+1 by omega]);skip;generalize dy c1=X at*;obtain⟨x,c2⟩:=X;simp only at HB HG HX qe;clear HI hc1;go_wp2_with fail
   refine qe.out.mono ?_;rintro e W3 ⟨ve,rfl,hR3,hL3,hk3⟩;have hrow3:=aw hrow hk3 (fun k hk e=>by have h1:=bg hrow hk;rw[e,aP hR] at h1;simp at h1);have hZ3:∀z∈Z,z.1.ok/\cT W3 z.2 z.1.labels:=fun z hz=>⟨(hZ z hz).1,(hZ z hz).2.kept hk3 (fun b hb e=>by subst e;rw[aP hR] at hb;simp at hb)⟩
   have hkk3:=hk.trans hk3;obtain⟨⟨la,lc,rfl,hLm,_⟩,_⟩:=id hL3;rw[show Kb (.slice la x.labels.length lc) x=.agg #[.slice la x.labels.length lc,.int .i64 x.last,.int .i64 x.off,.int .i64 x.len] from rfl];have hsz3:w.heap.size<=W3.heap.size:=hkk3.size;have hnq:∀k,(Value.slice va Z.length vc).ownBlock=some k->k≠q:=fun k hk e=>by have h1:=bg hrow3 hk;rw[e,aP hR3] at h1;simp at h1
   have HNQ:=af hnq;have hcn:=iD W3 (FY (.slice la x.labels.length lc) x) 92 W3.heap.size rfl;have hlo:∀k,(Value.slice va Z.length vc).ownBlock=some k->w.heap.size<=k:=fun k hk=>(hrow3.lt k hk).1;have htg:∀k,(Value.slice va Z.length vc).ownBlock=some k->ng (W3.alloc (.cells (FY (.slice la x.labels.length lc) x).toArray 92)) k=some (some 92):=fun k hk=>bg (World.ownsRow.alloc hrow3 _) hk;have HTG:=af htg;have HLO:=af hlo;clear hrow hk hR hk3 hZ hnq hlo htg qe;cases hbad:c2.2 with
   |true=>
    have HF:=af (HI2.out.trans (HX.out hbad));go_wp2_with (at_builtin;go_loud (refine wpList_append_own_at _ rfl _ _ 85 rfl w.heap.size 92 i0 (.agg #[.slice none 0 0,.int .i64 0,.int .i64 0,.int .i64 0]) 4 48 Tryz.underlying85 hin hz0 hz1 hz2 rfl (by decide) _ _ _ rfl (World.ownsRow.alloc hrow3 _) ⟨W3.heap.size,0,none⟩ 1 1 (FY (.slice la x.labels.length lc) x) rfl rfl hcn (by simp[Value.oneCell',FY]) (by unfold maxLen;omega) (by omega) (by simp;omega) ?_;intro v' w5 hown' hgrow hnil2 hloc;obtain⟨va',vc',rfl⟩:=aH hown';have hR5:Rd w5 q c2 1 (.slice none 0 0) av ar:=ag.grown (ag.alloc hR3 _) hgrow (fun e=>HNQ.out q e.symm rfl);have dbd:w5.cell? ⟨q,1,none⟩=some (Value.bool true):=ax hR5 1 (.bool c2.2) rfl |>.trans (by rw[hbad]);have hk45:ak W3 w5 (fun k=>(Value.slice va Z.length vc).ownBlock=some k):=(ak.alloc W3 _ _).trans (ak.of_grown hgrow fun k e=>e);have hk5:=hkk3.then_over hk45 (fun i hi e=>by have:=HLO.out i e;skip;omega);clear hgrow hnil2 hloc))
    have hL5:=hL3.kept hk45 (fun b hb e=>by
     have h1:=bg hrow3 e
     rw[h1] at hb
     simp at hb)
    have hZ5:∀z∈Z,z.1.ok/\cT w5 z.2 z.1.labels:=fun z hz=>⟨(hZ3 z hz).1,(hZ3 z hz).2.kept hk45 (fun b hb e=>by
     have h1:=bg hrow3 e
     rw[h1] at hb
     simp at hb)⟩
    have E1:dR w5 (.slice none 0 0) ((fH (fun _ c=>dy c) N aR c0).1.getD []):=by rw[HF.out];exact jx _
    have E2:Rd w5 q (fH (fun _ c=>dy c) N aR c0).2 1 (.slice none 0 0) av ar:=by rw[HF.out];exact hR5
    go_ret;first
     |exact⟨_,rfl,E1,⟨_,_,_,E2⟩,hk5⟩
     |exact⟨_,_,_,_,rfl,E1,E2,hk5⟩
     |exact⟨_,_,_,E1,E2,hk5⟩
     |exact⟨E1,⟨_,_,_,E2⟩,hk5⟩
   |false=>
    have HF:=af (HI2.out.trans (HG.out hbad));go_wp2_with (at_builtin;go_loud (refine wpList_append_own_at _ rfl _ _ 85 rfl w.heap.size 92 i0 (.agg #[.slice none 0 0,.int .i64 0,.int .i64 0,.int .i64 0]) 4 48 Tryz.underlying85 hin hz0 hz1 hz2 rfl (by decide) _ _ _ rfl (World.ownsRow.alloc hrow3 _) ⟨W3.heap.size,0,none⟩ 1 1 (FY (.slice la x.labels.length lc) x) rfl rfl hcn (by simp[Value.oneCell',FY]) (by unfold maxLen;omega) (by omega) (by simp;omega) ?_;intro v' w5 hown' hgrow hnil2 hloc;obtain⟨va',vc',rfl⟩:=aH hown';have hR5:Rd w5 q c2 1 (.slice none 0 0) av ar:=ag.grown (ag.alloc hR3 _) hgrow (fun e=>HNQ.out q e.symm rfl);have dbd:w5.cell? ⟨q,1,none⟩=some (Value.bool false):=ax hR5 1 (.bool c2.2) rfl |>.trans (by rw[hbad]);have hk45:ak W3 w5 (fun k=>(Value.slice va Z.length vc).ownBlock=some k):=(ak.alloc W3 _ _).trans (ak.of_grown hgrow fun k e=>e);have hk5:=hkk3.then_over hk45 (fun i hi e=>by have:=HLO.out i e;skip;omega);clear hgrow hnil2 hloc))
    have hL5:=hL3.kept hk45 (fun b hb e=>by
     have h1:=bg hrow3 e
     rw[h1] at hb
     simp at hb)
    have hZ5:∀z∈Z,z.1.ok/\cT w5 z.2 z.1.labels:=fun z hz=>⟨(hZ3 z hz).1,(hZ3 z hz).2.kept hk45 (fun b hb e=>by
     have h1:=bg hrow3 e
     rw[h1] at hb
     simp at hb)⟩
    go_roundw
    case rel=>
     refine⟨Z.length+1,Z++[(x,.slice la x.labels.length lc)],c2,x,ar,av,_,by omega,by go_num,rfl,by simp,by have:=HB.out.2.2.1;omega,hR5,?_,fun z hz=>?_,hk5,af ?_⟩
     ·rw[<-nC,aG];exact hown'
     ·rcases List.mem_append.1 hz with hz|hz
      ·exact hZ5 z hz
      ·obtain rfl:=List.mem_singleton.1 hz;exact⟨HB.out.1,hL5⟩
     ·rw[HF.out];simp
    case measure=>simp[intOf];omega
  ·subst hiN;have HF:=af (show fH (fun _ c=>dy c) Z.length aR c0=(some (Z.map (·.1)),c1) by
    rw[HI.out,Nat.sub_self,Fn])
   have E1:dR wr (.slice va Z.length vc) ((fH (fun _ c=>dy c) Z.length aR c0).1.getD []):=by rw[HF.out];exact Ct hrow rfl (by omega) hZ
   have E2:Rd wr q (fH (fun _ c=>dy c) Z.length aR c0).2 1 (.slice none 0 0) av ar:=by rw[HF.out];exact hR
   go_wp2_with fail
   go_ret;first
    |exact⟨_,rfl,E1,⟨_,_,_,E2⟩,hk⟩
    |exact⟨_,_,_,_,rfl,E1,E2,hk⟩
 ·exact absurd hgg hg
theorem z8{s:List UInt8}{g:Int}(h:g<1\/3<g):jv s g=([],1):=by unfold jv;rw[if_pos h]
theorem Fd{s:List UInt8}{g:Int}(h:¬(g<1\/3<g))(hg:eB s=none):jv s g=([],9):=by unfold jv;rw[if_neg h,hg]
theorem JJ{s b:List UInt8}{g:Int}(h:¬(g<1\/3<g))(hg:eB s=some b):
 jv s g=if (pZ g (b,false)).2.2=true\/ls ((pZ g (b,false)).1.getD []) g≠(s,0) then([],9) else((pZ g (b,false)).1.getD [],0):=by unfold jv;rw[if_neg h,hg]
theorem Hw{s b:List UInt8}(h:eB s=some b):s.length=b.length+4:=by
 have:=nV h;rw[this,aG,dP]
theorem IK(s:List UInt8)(gen:Int)(w:World)(hl:s.length<=1000004)(h1: -9223372036854775808<=gen)(h2:gen<=9223372036854775807)(hgg:gen=1):
 Calls Tryz.prog 140 #[.string (bs s),.int .i64 gen] w fun e w'=>∃v,e=.returned (.tuple #[v,.int .i64 (jv s gen).2])/\dR w' v (jv s gen).1/\Below w.heap.size w w':=by
 have HGG:=af hgg
 clear hgg
 by_cases g1:gen<1
 ·have f1:decide (gen<1)=true:=by simpa using g1
  rw[z8 (.inl g1)];clear g1;go_enter Tryz.func140,Tryz.ntmps140
  go_wp2_with fail
  go_ret2;exact⟨_,rfl,jx _,bR⟩
 have f1:decide (gen<1)=false:=by simpa using g1
 by_cases g2:3<gen
 ·have f2:decide (3<gen)=true:=by simpa using g2
  rw[z8 (.inr g2)];clear g1 g2;go_enter Tryz.func140,Tryz.ntmps140
  go_wp2_with fail
  go_ret2;exact⟨_,rfl,jx _,bR⟩
 have f2:decide (3<gen)=false:=by simpa using g2
 have q1:=af (pC s (by omega) w)
 cases hG:eB s with
 |none=>
  rw[Fd (by omega) hG];rw[show gS s=.tuple #[.string ⟨#[]⟩,.bool false] by unfold gS;rw[hG]] at q1;clear g1 g2 hG;go_enter Tryz.func140,Tryz.ntmps140
  go_wp2_with fail
  refine bL q1.out fun w1 b1=>?_;go_wp2_with fail
  go_ret2;exact⟨_,rfl,jx _,b1⟩
 |some b=>
  have HY:=af (JJ (s:=s) (b:=b) (g:=gen) (by omega) hG);have hbl:=Hw hG;rw[show gS s=.tuple #[.string (bs b),.bool true] by unfold gS;rw[hG]] at q1;have qa:=af (fun q W (hR:Rd W q (b,false) gen (.slice none 0 0) (.slice none 0 0) aR)=>Gy q (b,false) gen W hR (by simp only;omega) h1 h2 HGG.out);generalize pZ gen (b,false)=R at*;obtain⟨r,c⟩:=R;simp only at HY qa;generalize r.getD []=E at*;have qp:=af (fun v W h=>AN E v gen W h h1 h2);generalize jv s gen=GI at*;unfold qW at qp;generalize ls E gen=P at*;obtain⟨pb,pe⟩:=P;simp only at HY qp;clear g1 g2 hG;go_enter Tryz.func140,Tryz.ntmps140
  go_wp2_with fail
  refine bL q1.out fun w1 b1=>?_;have kR:Rd (w1.alloc (.cells (LN (b,false) gen (.slice none 0 0) (.slice none 0 0) aR) 278)) w1.heap.size (b,false) gen (.slice none 0 0) (.slice none 0 0) aR:=ag.new _ _ _;have b2:=b1.trans ((ai w1 (.cells (LN (b,false) gen (.slice none 0 0) (.slice none 0 0) aR) 278)).mono b1.size);have hws:=b1.size;clear q1;go_wp2_with fail
  refine(qa.out _ _ kR).mono ?_;rintro e w3 ⟨v,sy,av,a,rfl,hE,hR3,hk3⟩;have b3:=b2.trans (ak.below hk3 b2.size (fun k hk=>by omega));clear kR b2 qa hk3;obtain⟨va,vc,rfl,_⟩:=id hE;go_wp2_with fail
  refine(qp.out _ _ hE).mono ?_;rintro e w4 ⟨rfl,b4⟩;have hR4:=ag.below hR3 b4 (ag.lt hR3);have hE4:=hE.below b4;have b5:=ay b3 b4;have dbd:=ax hR4 1 (.bool c.2) rfl;clear qp hR3 hE b4 b3;cases hbad:c.2 with
  |true=>
   rw[hbad] at dbd;have HF:=af (show GI=([],9) by rw[HY.out,if_pos (.inl hbad)]);go_wp2_with fail
   go_ret2;rw[HF.out];exact⟨_,rfl,jx _,b5⟩
  |false=>
   rw[hbad] at dbd;by_cases hpe:pe=0
   ·subst hpe;have f3:((0:Int) != 0)=false:=rfl;by_cases hps:pb=s
    ·subst hps;have f4:(pb==pb)=true:=by simp
     have HF:=af (show GI=(E,0) by rw[HY.out,if_neg (by simp[hbad])]);go_wp2_with fail
     go_ret2;rw[HF.out];exact⟨_,rfl,hE4,b5⟩
    ·have f4:(pb==s)=false:=by simpa using hps
     have HF:=af (show GI=([],9) by rw[HY.out,if_pos (.inr (fun e=>hps (Prod.mk.inj e).1))]);clear hps;go_wp2_with fail
     go_ret2;rw[HF.out];exact⟨_,rfl,jx _,b5⟩
   ·have f3:(pe != 0)=true:=by simpa using hpe
    have HF:=af (show GI=([],9) by rw[HY.out,if_pos (.inr (fun e=>hpe (Prod.mk.inj e).2))]);clear hpe;go_wp2_with fail
    go_ret2;rw[HF.out];exact⟨_,rfl,jx _,b5⟩
end
section
open Go Go.RowKit Go.Shelf Go.Maps
def jV (s:l5):Array Value:=#[.int .i64 (s.n:Int),.int .u64 (s.v:Int),.int .i64 (s.lead:Int),.int .i64 (s.trail:Int)]
def D3 (s:l5):Value:=.agg (jV s)
theorem gm(s:l5):D3 s=.agg (jV s):=rfl
theorem AD(w:World):Calls Tryz.prog 294 #[] w fun e w'=>e=.returned (D3 l5.begin)/\Below w.heap.size w w':=by
 go_enter Tryz.func294,Tryz.ntmps294
 go_wp2;refine bodyPost_ret (results_cell_row rfl _ _ w.heap.size 361 (jV l5.begin) (0,0) _ rfl (ag.new _ _ _) Tryz.underlying361 rfl (by kernel_rfl)) rfl ?_;exact⟨rfl,ai _ _⟩
theorem CX(s:l5)(hl:s.lead<=1000000)(w:World):Calls Tryz.prog 333 #[D3 s] w fun e w'=>e=.returned (.bool (BL s))/\Below w.heap.size w w':=by
 have k0:=ag.new w 361 (jV s);have b1:=ai w (.cells (jV s) 361);have x0:=ax k0 0 (.int .i64 (s.n:Int)) rfl;have x2:=ax k0 2 (.int .i64 (s.lead:Int)) rfl;have x3:=ax k0 3 (.int .i64 (s.trail:Int)) rfl;have f0:decide ((s.n:Int)<0)=false:=decide_eq_false (by omega);have f2:decide ((s.lead:Int)<0)=false:=decide_eq_false (by omega);have f3:decide ((s.trail:Int)<0)=false:=decide_eq_false (by omega);rw[gm];unfold jV at*;clear k0;by_cases h64:s.lead=64
 ·have f4:((s.lead:Int)==64)=true:=by rw[h64];rfl
  have HK:=af (show ((s.trail:Int)==0)=BL s by unfold BL;rw[if_pos h64];by_cases h:s.trail=0<;>simp[h]);clear h64;go_enter Tryz.func333,Tryz.ntmps333
  go_wp2;go_ret;exact⟨by rw[<-HK.out];rfl,b1⟩
 ·have f4:((s.lead:Int)==64)=false:=by simp;omega
  have hw:IntKind.i64.wrap (64-(s.lead:Int))=64-(s.lead:Int):=ct _ (by omega);by_cases hlt:s.lead<64
  ·have f5:decide ((s.lead:Int)<64)=true:=decide_eq_true (by omega);have HK:=af (show decide ((s.trail:Int)<64-(s.lead:Int))=BL s by unfold BL;rw[if_neg h64];by_cases h:s.trail<64-s.lead<;>simp[h,hlt]<;>omega);clear h64 hlt;go_enter Tryz.func333,Tryz.ntmps333
   go_wp2;go_ret;exact⟨by rw[<-HK.out];rfl,b1⟩
  ·have f5:decide ((s.lead:Int)<64)=false:=decide_eq_false (by omega);have HK:=af (show false=BL s by unfold BL;rw[if_neg h64];simp[hlt]);clear h64 hlt;go_enter Tryz.func333,Tryz.ntmps333
   go_wp2;go_ret;exact⟨by rw[<-HK.out];rfl,b1⟩
theorem IZ(s:l5)(x:Nat)(hx:x<18446744073709551616)(w:World)(hT:Tb w)(hg:1<w.heap.size):
 Calls Tryz.prog 334 #[D3 s,.int .u64 (x:Int)] w fun e w'=>e=.returned (.tuple #[.int .i64 ((fM s x).1:Int),.int .i64 ((fM s x).2.1:Int),.int .i64 ((fM s x).2.2:Int)])/\Below w.heap.size w w':=by
 have k0:=ag.new w 361 (jV s)
 have b1:=ai w (.cells (jV s) 361)
 have x0:=ax k0 0 (.int .i64 (s.n:Int)) rfl
 have x2:=ax k0 2 (.int .i64 (s.lead:Int)) rfl
 have x3:=ax k0 3 (.int .i64 (s.trail:Int)) rfl
 have y2:=aj x2
 have y3:=aj x3
 have q1:=af (fun W=>II x hx W)
 have q2:=af (FN x hx _ (hT.below b1 hg))
 have HX:=af b1
 rw[gm]
 unfold jV at*
 clear k0 hT b1
 by_cases h0:s.n=0
 ·have f0:((s.n:Int)==0)=true:=by rw[h0];rfl
  have HW:=af (show fM s x=(0,s.lead,s.trail) by unfold fM;rw[if_pos h0]);clear h0;go_enter Tryz.func334,Tryz.ntmps334
  go_wp2_with fail
  refine(q1.out _).mono ?_;rintro e _ ⟨rfl,rfl⟩;go_wp2_with fail
  refine q2.out.mono ?_;rintro e _ ⟨rfl,rfl⟩;go_wp2_with fail
  refine dY ?_
  (try dsimp only);iterate 7 (refine bJ fun K hK=>?_;go_big_quiet_step (fail);refine hK _ ?_;clear hK K)
  refine eR ?_;intro w9 hb9;simp only[aB];go_wp2_with fail
  go_ret3;exact⟨by rw[HW.out];rfl,HX.out.trans (hb9.mono HX.out.size)⟩
 have f0:((s.n:Int)==0)=false:=by simp;omega
 have HW0:=af (show fM s x=if x=0 then(1,s.lead,s.trail) else if s.lead<64/\s.lead<=kK x/\s.trail<=fW x then(2,s.lead,s.trail) else(3,kK x,fW x) by unfold fM;rw[if_neg h0])
 clear h0
 by_cases h1:x=0
 ·have f1:((x:Int)==0)=true:=by rw[h1];rfl
  have HW:=af (HW0.out.trans (if_pos h1));clear h1 HW0;go_enter Tryz.func334,Tryz.ntmps334
  go_wp2_with fail
  refine(q1.out _).mono ?_;rintro e _ ⟨rfl,rfl⟩;go_wp2_with fail
  refine q2.out.mono ?_;rintro e _ ⟨rfl,rfl⟩;go_wp2_with fail
  refine dY ?_
  (try dsimp only);iterate 7 (refine bJ fun K hK=>?_;go_big_quiet_step (fail);refine hK _ ?_;clear hK K)
  refine eR ?_;intro w9 hb9;simp only[aB];go_wp2_with fail
  go_ret3;exact⟨by rw[HW.out];rfl,HX.out.trans (hb9.mono HX.out.size)⟩
 have f1:((x:Int)==0)=false:=by simp;omega
 have HW1:=af (HW0.out.trans (if_neg h1))
 clear h1 HW0
 by_cases hb:s.lead<64
 case neg=>
  have f2:decide ((s.lead:Int)<64)=false:=decide_eq_false (by omega);have HW:=af (HW1.out.trans (if_neg (by omega)));clear hb HW1;go_enter Tryz.func334,Tryz.ntmps334
  go_wp2_with fail
  refine(q1.out _).mono ?_;rintro e _ ⟨rfl,rfl⟩;go_wp2_with fail
  refine q2.out.mono ?_;rintro e _ ⟨rfl,rfl⟩;go_wp2_with fail
  go_ret3;exact⟨by rw[HW.out];rfl,HX.out⟩
 have f2:decide ((s.lead:Int)<64)=true:=decide_eq_true (by omega)
 by_cases hc:s.lead<=kK x
 case neg=>
  have f3:decide (s.lead<=kK x)=false:=decide_eq_false (by omega);have HW:=af (HW1.out.trans (if_neg (by omega)));clear hb hc HW1;go_enter Tryz.func334,Tryz.ntmps334
  go_wp2_with fail
  refine(q1.out _).mono ?_;rintro e _ ⟨rfl,rfl⟩;go_wp2_with fail
  refine q2.out.mono ?_;rintro e _ ⟨rfl,rfl⟩;go_wp2_with fail
  go_ret3;exact⟨by rw[HW.out];rfl,HX.out⟩
 have f3:decide (s.lead<=kK x)=true:=decide_eq_true (by omega)
 by_cases hd:s.trail<=fW x
 ·have f4:decide (s.trail<=fW x)=true:=decide_eq_true (by omega);have HW:=af (HW1.out.trans (if_pos ⟨hb,hc,hd⟩));clear hb hc hd HW1;go_enter Tryz.func334,Tryz.ntmps334
  go_wp2_with fail
  refine(q1.out _).mono ?_;rintro e _ ⟨rfl,rfl⟩;go_wp2_with fail
  refine q2.out.mono ?_;rintro e _ ⟨rfl,rfl⟩;go_wp2_with fail
  refine dY ?_
  (try dsimp only);iterate 7 (refine bJ fun K hK=>?_;go_big_quiet_step (fail);refine hK _ ?_;clear hK K)
  refine eR ?_;intro w9 hb9;simp only[aB];go_wp2_with fail
  go_ret3;exact⟨by rw[HW.out];rfl,HX.out.trans (hb9.mono HX.out.size)⟩
 ·have f4:decide (s.trail<=fW x)=false:=decide_eq_false (by omega);have HW:=af (HW1.out.trans (if_neg (by omega)));clear hb hc hd HW1;go_enter Tryz.func334,Tryz.ntmps334
  go_wp2_with fail
  refine(q1.out _).mono ?_;rintro e _ ⟨rfl,rfl⟩;go_wp2_with fail
  refine q2.out.mono ?_;rintro e _ ⟨rfl,rfl⟩;go_wp2_with fail
  go_ret3;exact⟨by rw[HW.out];rfl,HX.out⟩
end
section
open Go Go.RowKit Go.Shelf Go.Maps
attribute [local go_sem] am aq
theorem Hp{w:World}{B n:Nat}{T:TypeId}{v:Value}{A:List Int}(h:w.ownsRow B T 1 v n (A.map (Value.int .i64)))(hn:A.length=n)(hl:A.length<=100000)(hb:∀x∈A,-9223372036854775808<=x/\x<=9223372036854775807):uN w v A:=by
 subst hn;rcases h.2 with⟨e,e0⟩|⟨g,cap,cur,e,_⟩
 ·refine⟨none,0,by rw[e,e0],fun _=>rfl,hl,hb,fun i x hx=>?_⟩;rw[List.length_eq_zero_iff.1 e0] at hx;simp at hx
 ·refine⟨some ⟨g,0,none⟩,cap,e,(fun e=>by cases e),hl,hb,fun i x hx=>⟨g,0,rfl,?_⟩⟩;have h1:=h.cells (g:=g) (by rw[e];rfl) i (.int .i64 x) (by rw[List.getElem?_map,hx];rfl);rw[kj] at h1;rw[Nat.zero_add];exact h1
end
section
open Go Go.RowKit Go.Shelf Go.Maps
attribute [local go_sem] am aq
attribute [local go_sem] am aq
theorem IC(b:Nat)(L:List Bool)(s:l5)(v:Nat)(w:World)(h:kq b L w)(hL:L.length<=900000)(hn:s.n<=100000)(hok:BL s=true)(hsv:s.v<18446744073709551616)(hv:v<18446744073709551616)(hT:Tb w)(hg:1<w.heap.size):
 Calls Tryz.prog 295 #[.pointer (some ⟨b,0,none⟩),D3 s,.int .u64 (v:Int)] w fun e w'=>e=.returned (D3 (eS s v))/\kq b (L++A6 s v) w'/\BK b b w w':=by
 have hb:b<w.heap.size:=h.elim fun _ h=>h.1.lt
 have k0:=ag.new w 361 (jV s)
 have k1:=ag.new (w.alloc (.cells (jV s) 361)) 361 #[.int .i64 0,.int .u64 0,.int .i64 0,.int .i64 0]
 have k0':=k0.alloc (.cells #[.int .i64 0,.int .u64 0,.int .i64 0,.int .i64 0] 361)
 have b1:=ai w (.cells (jV s) 361)
 have b2:=b1.alloc b1.size (.cells #[.int .i64 0,.int .u64 0,.int .i64 0,.int .i64 0] 361)
 rw[aW] at k1
 have h2:kq b L ((w.alloc (.cells (jV s) 361)).alloc (.cells #[.int .i64 0,.int .u64 0,.int .i64 0,.int .i64 0] 361)):=h.below b2
 have x0:=ax k0' 0 (.int .i64 (s.n:Int)) rfl
 have x1:=ax k0' 1 (.int .u64 (s.v:Int)) rfl
 have x2:=ax k0' 2 (.int .i64 (s.lead:Int)) rfl
 have x3:=ax k0' 3 (.int .i64 (s.trail:Int)) rfl
 have hst:=af (gm s)
 have hle:=KI hok
 have hqV:=af (fun W=>CX s (by omega) W)
 rw[hok] at hqV
 have hxl:v^^^s.v<18446744073709551616:=yF (a:=v) (b:=s.v) hv hsv
 have hxr:bits BinOp.xor .u64 (v:Int) (s.v:Int)=((v^^^s.v:Nat):Int):=u64_xor_nat v s.v hv hsv
 have HB:=af (show A6 s v=if (fM s (v^^^s.v)).1=0 then bH v 64 else if (fM s (v^^^s.v)).1=1 then bH 0 1
  else if (fM s (v^^^s.v)).1=2 then bH 2 2++bH ((v^^^s.v) >>> (fM s (v^^^s.v)).2.2) (64-(fM s (v^^^s.v)).2.1-(fM s (v^^^s.v)).2.2)
  else((bH 3 2++bH (fM s (v^^^s.v)).2.1 6)++bH (64-(fM s (v^^^s.v)).2.1-(fM s (v^^^s.v)).2.2-1) 6)++bH ((v^^^s.v) >>> (fM s (v^^^s.v)).2.2) (64-(fM s (v^^^s.v)).2.1-(fM s (v^^^s.v)).2.2) from rfl)
 have HA:=af (show eS s v=⟨s.n+1,v,(fM s (v^^^s.v)).2.1,(fM s (v^^^s.v)).2.2⟩ from rfl)
 have hqo:=af (fun W hT hg=>IZ s (v^^^s.v) hxl W hT hg)
 have hway:((fM s (v^^^s.v)).1<=3)/\(fM s (v^^^s.v)).2.1+(fM s (v^^^s.v)).2.2<=64/\((fM s (v^^^s.v)).1=3->(fM s (v^^^s.v)).2.1+(fM s (v^^^s.v)).2.2<64):=by
  unfold fM;split
  ·exact⟨by simp,hle,fun e=>by simp at e⟩
  ·split
   ·exact⟨by simp,hle,fun e=>by simp at e⟩
   ·split
    ·exact⟨by simp,hle,fun e=>by simp at e⟩
    ·have:=tP (x:=v^^^s.v) hxl (by assumption);exact⟨by simp,by simp only[];omega,fun _=>by simp only[];omega⟩
 generalize v^^^s.v=x at*
 obtain⟨wy,hwy⟩:∃z,fM s x=z:=⟨_,rfl⟩
 rw[hwy] at HB HA hway
 simp only[hwy] at hqo
 clear hwy
 obtain⟨how,lead,trail⟩:=wy
 simp only at HB HA hway hqo
 obtain⟨hw3,hlt,hw33⟩:=hway
 have hs1:IntKind.i64.wrap (64-(lead:Int))=64-(lead:Int):=ct _ (by omega)
 have hs2:IntKind.i64.wrap (64-(lead:Int)-(trail:Int))=((64-lead-trail:Nat):Int):=(ct _ (by omega)).trans (by omega)
 have hs3:IntKind.i64.wrap ((s.n:Int)+1)=((s.n+1:Nat):Int):=ct _ (by omega)
 have hsh:(x:Int)/2^trail=((x >>> trail:Nat):Int):=by rw[Nat.shiftRight_eq_div_pow];push_cast;rfl
 have hshl:x >>> trail<18446744073709551616:=Nat.lt_of_le_of_lt (by rw[Nat.shiftRight_eq_div_pow];exact Nat.div_le_self _ _) hxl
 have hTb:=af hT
 have hsz:(64-lead-trail)<=64:=by omega
 have HRR:=af (show lY ⟨0,0,0⟩=lY ⟨0,0,0⟩ from rfl)
 clear h HRR hok hle
 rw[hst.out] at hqV hqo⊢
 unfold jV at*
 go_enter Tryz.func295,Tryz.ntmps295
 go_wp2_with fail
 refine(hqV.out _).mono ?_
 rintro e w3 ⟨rfl,hb3⟩
 have h3:=h2.below hb3
 have r0:=k0'.below hb3 k0'.lt
 have r1:=k1.below hb3 k1.lt
 have b3:=ay b2 hb3
 have y0:=ax r0 0 (.int .i64 (s.n:Int)) rfl
 have y1:=ax r0 1 (.int .u64 (s.v:Int)) rfl
 have y2:=ax r0 2 (.int .i64 (s.lead:Int)) rfl
 have y3:=ax r0 3 (.int .i64 (s.trail:Int)) rfl
 clear k0 k1 k0' b1 b2 h2 hb3 hqV x0 x1 x2 x3
 go_wp2_with fail
 refine(hqo.out _ (hTb.out.below b3 hg) (dQ hg b3.size)).mono ?_
 rintro e w4 ⟨rfl,hb4⟩
 have h4:=h3.below hb4
 have q0:=r0.below hb4 r0.lt
 have q1:=r1.below hb4 r1.lt
 have b4:=ay b3 hb4
 clear r0 r1 b3 h3 hb4 hqo y0 y1 y2 y3 hTb hT
 rcases(show how=0\/how=1\/how=2\/how=3 by omega) with rfl|rfl|rfl|rfl
 ·have p5:=af (eD b (L) (v) (64) w4 h4 hv (by omega) (by omega));go_wp2_with fail
  refine p5.out.mono ?_;rintro e w5 ⟨rfl,h5,d5⟩;have h8:=h5;have r0:=(d5.blk q0 (by omega) (by decide))
  have r1:=(d5.blk q1 (by omega) (by decide))
  have c8:=((BK.of_below b4 (Nat.le_of_lt hb)).trans d5)
  clear d5 h4 h5 p5 q0 q1 b4;have x0:=ax r0 0 (.int .i64 (s.n:Int)) rfl;have z0:=ag.frozen r1 0;have z1:=ag.frozen r1 1;have z2:=ag.frozen r1 2;have z3:=ag.frozen r1 3;have g0:=ax r1 0 (.int .i64 0) rfl;have g1:=ax r1 1 (.int .u64 0) rfl;have g2:=ax r1 2 (.int .i64 0) rfl;have g3:=ax r1 3 (.int .i64 0) rfl;have P:=qy.mk (w:=w) h8 r1 c8;clear r0 r1 c8 h8;go_wp2_with fail
  have P4:=(((P.set (i:=0) (u:=.int .i64 ((s.n+1:Nat):Int)) (by decide) hb (by omega)).set (i:=1) (u:=.int .u64 (v:Int)) (by decide) hb (by omega)).set (i:=2) (u:=.int .i64 (lead:Int)) (by decide) hb (by omega)).set (i:=3) (u:=.int .i64 (trail:Int)) (by decide) hb (by omega);refine bodyPost_ret (results_cell_row rfl _ _ (w.heap.size+1) 361 _ (0,0) _ rfl P4.bx Tryz.underlying361 rfl (by kernel_rfl)) rfl ?_;exact⟨by rw[HA.out,gm];rfl,by rw[HB.out];exact P4.wr,P4.bk⟩
 ·have p5:=af (eD b (L) (0) (1) w4 h4 (by omega) (by omega) (by omega));go_wp2_with fail
  refine p5.out.mono ?_;rintro e w5 ⟨rfl,h5,d5⟩;have h8:=h5;have r0:=(d5.blk q0 (by omega) (by decide))
  have r1:=(d5.blk q1 (by omega) (by decide))
  have c8:=((BK.of_below b4 (Nat.le_of_lt hb)).trans d5)
  clear d5 h4 h5 p5 q0 q1 b4;have x0:=ax r0 0 (.int .i64 (s.n:Int)) rfl;have z0:=ag.frozen r1 0;have z1:=ag.frozen r1 1;have z2:=ag.frozen r1 2;have z3:=ag.frozen r1 3;have g0:=ax r1 0 (.int .i64 0) rfl;have g1:=ax r1 1 (.int .u64 0) rfl;have g2:=ax r1 2 (.int .i64 0) rfl;have g3:=ax r1 3 (.int .i64 0) rfl;have P:=qy.mk (w:=w) h8 r1 c8;clear r0 r1 c8 h8;go_wp2_with fail
  have P4:=(((P.set (i:=0) (u:=.int .i64 ((s.n+1:Nat):Int)) (by decide) hb (by omega)).set (i:=1) (u:=.int .u64 (v:Int)) (by decide) hb (by omega)).set (i:=2) (u:=.int .i64 (lead:Int)) (by decide) hb (by omega)).set (i:=3) (u:=.int .i64 (trail:Int)) (by decide) hb (by omega);refine bodyPost_ret (results_cell_row rfl _ _ (w.heap.size+1) 361 _ (0,0) _ rfl P4.bx Tryz.underlying361 rfl (by kernel_rfl)) rfl ?_;exact⟨by rw[HA.out,gm];rfl,by rw[HB.out];exact P4.wr,P4.bk⟩
 ·have p5:=af (eD b (L) (2) (2) w4 h4 (by omega) (by omega) (by omega));go_wp2_with fail
  refine p5.out.mono ?_;rintro e w5 ⟨rfl,h5,d5⟩;have p6:=af (eD b (L++bH (2) (2)) (x >>> trail) (64-lead-trail) w5 h5 hshl hsz (by simp only[aG,bN];omega));go_wp2_with fail
  refine p6.out.mono ?_;rintro e w6 ⟨rfl,h6,d6⟩;have h8:=h6;have r0:=(d6.blk (d5.blk q0 (by omega) (by decide)) (by omega) (by decide))
  have r1:=(d6.blk (d5.blk q1 (by omega) (by decide)) (by omega) (by decide))
  have c8:=(((BK.of_below b4 (Nat.le_of_lt hb)).trans d5).trans d6)
  clear d5 d6 h4 h5 h6 p5 p6 q0 q1 b4;have x0:=ax r0 0 (.int .i64 (s.n:Int)) rfl;have z0:=ag.frozen r1 0;have z1:=ag.frozen r1 1;have z2:=ag.frozen r1 2;have z3:=ag.frozen r1 3;have g0:=ax r1 0 (.int .i64 0) rfl;have g1:=ax r1 1 (.int .u64 0) rfl;have g2:=ax r1 2 (.int .i64 0) rfl;have g3:=ax r1 3 (.int .i64 0) rfl;have P:=qy.mk (w:=w) h8 r1 c8;clear r0 r1 c8 h8;go_wp2_with fail
  have P4:=(((P.set (i:=0) (u:=.int .i64 ((s.n+1:Nat):Int)) (by decide) hb (by omega)).set (i:=1) (u:=.int .u64 (v:Int)) (by decide) hb (by omega)).set (i:=2) (u:=.int .i64 (lead:Int)) (by decide) hb (by omega)).set (i:=3) (u:=.int .i64 (trail:Int)) (by decide) hb (by omega);refine bodyPost_ret (results_cell_row rfl _ _ (w.heap.size+1) 361 _ (0,0) _ rfl P4.bx Tryz.underlying361 rfl (by kernel_rfl)) rfl ?_;exact⟨by rw[HA.out,gm];rfl,by rw[HB.out];exact(by simp only[List.append_assoc] at P4⊢;exact P4.wr),P4.bk⟩
 ·have hlt3:=hw33 rfl;have hu1:IntKind.u64.wrap (lead:Int)=(lead:Int):=by rw[IntKind.wrap_u64];omega
  have hs4:IntKind.i64.wrap (((64-lead-trail:Nat):Int)-1)=((64-lead-trail-1:Nat):Int):=(ct _ (by omega)).trans (by omega);have hu2:IntKind.u64.wrap ((64-lead-trail-1:Nat):Int)=((64-lead-trail-1:Nat):Int):=by rw[IntKind.wrap_u64];omega
  have p5:=af (eD b (L) (3) (2) w4 h4 (by omega) (by omega) (by omega));go_wp2_with fail
  refine p5.out.mono ?_;rintro e w5 ⟨rfl,h5,d5⟩;have p6:=af (eD b (L++bH (3) (2)) (lead) (6) w5 h5 (by omega) (by omega) (by simp only[aG,bN];omega));go_wp2_with fail
  refine p6.out.mono ?_;rintro e w6 ⟨rfl,h6,d6⟩;have p7:=af (eD b (L++bH (3) (2)++bH (lead) (6)) (64-lead-trail-1) (6) w6 h6 (by omega) (by omega) (by simp only[aG,bN];omega));go_wp2_with fail
  refine p7.out.mono ?_;rintro e w7 ⟨rfl,h7,d7⟩;have p8:=af (eD b (L++bH (3) (2)++bH (lead) (6)++bH (64-lead-trail-1) (6)) (x >>> trail) (64-lead-trail) w7 h7 hshl hsz (by simp only[aG,bN];omega));go_wp2_with fail
  refine p8.out.mono ?_;rintro e w8 ⟨rfl,h8,d8⟩;have h8:=h8;have r0:=(d8.blk (d7.blk (d6.blk (d5.blk q0 (by omega) (by decide)) (by omega) (by decide)) (by omega) (by decide)) (by omega) (by decide))
  have r1:=(d8.blk (d7.blk (d6.blk (d5.blk q1 (by omega) (by decide)) (by omega) (by decide)) (by omega) (by decide)) (by omega) (by decide))
  have c8:=(((((BK.of_below b4 (Nat.le_of_lt hb)).trans d5).trans d6).trans d7).trans d8)
  clear d5 d6 d7 d8 h4 h5 h6 h7 h8 p5 p6 p7 p8 q0 q1 b4;have x0:=ax r0 0 (.int .i64 (s.n:Int)) rfl;have z0:=ag.frozen r1 0;have z1:=ag.frozen r1 1;have z2:=ag.frozen r1 2;have z3:=ag.frozen r1 3;have g0:=ax r1 0 (.int .i64 0) rfl;have g1:=ax r1 1 (.int .u64 0) rfl;have g2:=ax r1 2 (.int .i64 0) rfl;have g3:=ax r1 3 (.int .i64 0) rfl;have P:=qy.mk (w:=w) h8 r1 c8;clear r0 r1 c8 h8;go_wp2_with fail
  have P4:=(((P.set (i:=0) (u:=.int .i64 ((s.n+1:Nat):Int)) (by decide) hb (by omega)).set (i:=1) (u:=.int .u64 (v:Int)) (by decide) hb (by omega)).set (i:=2) (u:=.int .i64 (lead:Int)) (by decide) hb (by omega)).set (i:=3) (u:=.int .i64 (trail:Int)) (by decide) hb (by omega);refine bodyPost_ret (results_cell_row rfl _ _ (w.heap.size+1) 361 _ (0,0) _ rfl P4.bx Tryz.underlying361 rfl (by kernel_rfl)) rfl ?_;exact⟨by rw[HA.out,gm];rfl,by rw[HB.out];exact(by simp only[List.append_assoc] at P4⊢;exact P4.wr),P4.bk⟩
end
section
open Go Go.RowKit Go.Shelf Go.Maps
attribute [local go_sem] am aq
def uI(w:World)(v:Value)(L:List Nat):Prop:=
 ∃a c,v=.slice a L.length c/\(a=none->c=0)/\L.length<=100000/\(∀x∈L,x<18446744073709551616)/\∀(i:Nat) x,L[i]?=some x->∃b o,a=some ⟨b,o,none⟩/\w.cell? ⟨b,o+i,none⟩=some (.int .u64 (x:Int))
theorem uI.below{w w':World}{v:Value}{L:List Nat}(h:uI w v L)(hb:Below w.heap.size w w'):uI w' v L:=by
 obtain⟨a,c,h1,h2,h3,h4,h5⟩:=h;refine⟨a,c,h1,h2,h3,h4,fun i x hx=>?_⟩;obtain⟨b,o,h6,h7⟩:=h5 i x hx;exact⟨b,o,h6,cu hb h7⟩
def yN (L:List Nat):List Value:=L.map fun (x:Nat)=>Value.int .u64 (x:Int)
theorem F5{w:World}{B n:Nat}{T:TypeId}{v:Value}{A:List Nat}(h:w.ownsRow B T 1 v n (yN A))(hn:A.length=n)(hl:A.length<=100000)(hb:∀x∈A,x<18446744073709551616):uI w v A:=by
 subst hn;rcases h.2 with⟨e,e0⟩|⟨g,cap,cur,e,_⟩
 ·refine⟨none,0,by rw[e,e0],fun _=>rfl,hl,hb,fun i x hx=>?_⟩;rw[List.length_eq_zero_iff.1 e0] at hx;simp at hx
 ·refine⟨some ⟨g,0,none⟩,cap,e,(fun e=>by cases e),hl,hb,fun i x hx=>⟨g,0,rfl,?_⟩⟩;have h1:=h.cells (g:=g) (by rw[e];rfl) i (.int .u64 (x:Int)) (by unfold yN;rw[List.getElem?_map,hx];rfl);rw[kj] at h1;rw[Nat.zero_add];exact h1
theorem ID(v:Value)(L:List Nat)(w:World)(h:uI w v L)(hL:L.length<=1000)(hT:Tb w)(hg64:1<w.heap.size):Calls Tryz.prog 268 #[v] w fun e w'=>e=.returned (.string (bs (iZ L)))/\Below w.heap.size w w':=by
 obtain⟨a,c,rfl,_,_,h4,h5⟩:=h;obtain⟨N,hN⟩:∃N,L.length=N:=⟨_,rfl⟩
 rw[hN] at hL⊢;have HN:=af hN;have H5:=af h5;have H4:=af h4;have hTb:=af hT;clear hN h5 h4 hT;have q:=af (nG w);have qb:=af AD;go_enter Tryz.func268,Tryz.ntmps268
 go_wp2_with fail
 refine q.out.mono ?_;rintro e w1 ⟨rfl,h1,b1,hs1⟩;go_wp2_with fail
 refine(qb.out _).mono ?_;rintro e w15 ⟨rfl,hb15⟩;have h15:=h1.below hb15;have b15:=ay b1 hb15;have hlt:=h15.lt;have h2:=h15.below (ai w15 (.cells (jV l5.begin) 361));have k2:=ag.new w15 361 (jV l5.begin);have b2:=b15.alloc b15.size (.cells (jV l5.begin) 361);rw[gm];unfold jV l5.begin at*;clear q h1 b1 hb15 h15 b15 qb;go_wp2_with fail
 generalize hw2:w15.alloc _=w2 at*;generalize w15.heap.size=B at*;clear hw2 hs1;go_loopw [11] (fun i wr=>∃(j:Nat) (s:l5) (P:List Bool),j<=N/\i=.int .i64 (j:Int)/\kq w.heap.size P wr/\ag wr B 361 (jV s)/\Below w.heap.size w wr/\s.n<=j/\BL s=true/\s.v<18446744073709551616/\P.length<=78*j/\Hid (kT l5.begin L=P++kT s (L.drop j))) (fun i _=>N-(intOf i).toNat)
 case atStart=>exact⟨0,l5.begin,[],Nat.zero_le _,rfl,h2,k2,b2,aF _,rfl,by decide,aF _,af rfl⟩
 case round=>
  clear h2 k2 b2;obtain⟨j,s,P,hj,rfl,hw,hk,hbl,hsn,hok,hsv,hPl,HP⟩:=hrel;rcases(show j<N\/j=N by omega) with hjn|rfl
  ·have hjl:j<L.length:=by rw[HN.out];exact hjn
   obtain⟨g,o,rfl,hc⟩:=H5.out j L[j] (aV hjl);have hc2:=cu hbl hc;have HP2:=af (show kT l5.begin L=(P++A6 s L[j])++kT (eS s L[j]) (L.drop (j+1)) by rw[HP.out,List.append_assoc,List.drop_eq_getElem_cons hjl];rfl);have hbl2:=yK s L[j];have htl:=H4.out L[j] (dK hjl);generalize L[j]=t at*;have hq:=af (IC w.heap.size P s t wr hw (by omega) (by omega) hok hsv htl (hTb.out.below hbl hg64) (dQ hg64 hbl.size));have hwl:=hw.lt;rw[gm] at hq;have HC:=af (show (eS s t).n<=j+1/\BL (eS s t)=true/\(eS s t).v<18446744073709551616 from⟨by unfold eS;simp only[];omega,yL s t hok hsv htl,htl⟩);have y0:=ax hk 0 (.int .i64 (s.n:Int)) rfl;have y1:=ax hk 1 (.int .u64 (s.v:Int)) rfl;have y2:=ax hk 2 (.int .i64 (s.lead:Int)) rfl;have y3:=ax hk 3 (.int .i64 (s.trail:Int)) rfl;unfold jV at hq hk;clear hjl hc hw HP htl hok hsv;go_wp2_with fail
   refine hq.out.mono ?_;rintro e w5 ⟨rfl,h5,k5⟩;have r5:=k5.blk hk (by omega) (by decide);have b5:=hbl.trans k5.1;clear hq y0 y1 y2 y3 hc2 hk hbl k5;have f0:=ag.frozen r5 0;have f1:=ag.frozen r5 1;have f2:=ag.frozen r5 2;have f3:=ag.frozen r5 3;have g0:=ax r5 0 (.int .i64 (s.n:Int)) rfl;have g1:=ax r5 1 (.int .u64 (s.v:Int)) rfl;have g2:=ax r5 2 (.int .i64 (s.lead:Int)) rfl;have g3:=ax r5 3 (.int .i64 (s.trail:Int)) rfl;obtain⟨s2,hs2⟩:∃z,eS s t=z:=⟨_,rfl⟩
   rw[hs2] at HC HP2⊢;clear hs2;have hw1:IntKind.i64.wrap ((j:Int)+1)=(j:Int)+1:=ct _ (by omega);rw[gm];unfold jV;go_wp2_with fail
   have r6:=(((r5.set_ 0 (.int .i64 (s2.n:Int))).set_ 1 (.int .u64 (s2.v:Int))).set_ 2 (.int .i64 (s2.lead:Int))).set_ 3 (.int .i64 (s2.trail:Int));have h6:=(((h5.far (i:=0) (u:=.int .i64 (s2.n:Int)) r5 (by decide) (by omega)).far (i:=1) (u:=.int .u64 (s2.v:Int)) (r5.set_ 0 _) (by decide) (by omega)).far (i:=2) (u:=.int .i64 (s2.lead:Int)) ((r5.set_ 0 _).set_ 1 _) (by decide) (by omega)).far (i:=3) (u:=.int .i64 (s2.trail:Int)) (((r5.set_ 0 _).set_ 1 _).set_ 2 _) (by decide) (by omega);have hge:w.heap.size<=B:=Nat.le_of_lt hlt;have b6:=cR (i:=3) (u:=.int .i64 (s2.trail:Int)) (cR (i:=2) (u:=.int .i64 (s2.lead:Int)) (cR (i:=1) (u:=.int .u64 (s2.v:Int)) (cR (i:=0) (u:=.int .i64 (s2.n:Int)) b5 hge) hge) hge) hge;clear f0 f1 f2 f3 g0 g1 g2 g3 r5 h5 b5;go_roundw
   case rel=>exact⟨j+1,s2,P++A6 s t,hjn,by go_num,h6,r6,b6,HC.out.1,HC.out.2.1,HC.out.2.2,by rw[aG];omega,HP2⟩
   case measure=>simp[intOf];omega
  ·have hq:=af (uH w.heap.size P wr hw);have HE:=af (show ed P=iZ L by
    unfold iZ
    rw[HP.out,List.drop_of_length_le (by rw[HN.out];exact aF _)]
    simp[kT])
   clear HP H5 hk hw;go_wp2_with fail
   refine bL hq.out fun w5 rfl=>?_;go_wp2_with fail
   go_ret;exact⟨by rw[<-HE.out];rfl,hbl⟩
theorem A8(P:List Nat)(t:Nat):yN (P++[t])=yN P++[.int .u64 (t:Int)]:=by unfold yN;simp
def DQ(f:Nat)(g:Int):Prop:=∀(B b:Nat) (l:List UInt8) (v:Value) (L:List cH) (w0 w:World),bU B b l w->aI w0 v L->Below w0.heap.size w0 w->w0.heap.size<=B->B<=w.heap.size->b<w.heap.size->L.length<=250->l.length<=1000000->Tb w0->1<w0.heap.size->
    Calls Tryz.prog f #[.pointer (some ⟨b,0,none⟩),v] w fun e w'=>e=.returned (.tuple #[])/\bU B b (l++dz L g) w'/\BK B b w w'
theorem Gl(x:cH):(ni x).length=16:=by unfold ni;rw[aG,Num.wide_len,Num.wide_len]
theorem sZ{w0:World}{a:Option Addr}{L:List cH}(h:∀(i:Nat) x,L[i]?=some x->∃b o,a=some ⟨b,o,none⟩/\pw w0 b (o+i*2) x){j:Nat}(hj:j<L.length){wr:World}(hb:Below w0.heap.size w0 wr):∃g o,a=some ⟨g,o,none⟩/\ew L[j]/\wr.cell? ⟨g,o+j*2,none⟩=some (.int .i64 L[j].1)/\wr.cell? ⟨g,o+j*2+1,none⟩=some (.int .u64 (L[j].2:Int)):=by
 obtain⟨g,o,e,h1,h2,h3⟩:=h j L[j] (aV hj);exact⟨g,o,e,h1,cu hb h2,cu hb h3⟩
theorem zn:DQ 217 1:=by
 intro B b l v L w0 w h hs h0 h0B hBw hbw hL hl _ _;obtain⟨a,c,rfl,_,_,_,h5⟩:=hs;obtain⟨N,hN⟩:∃N,L.length=N:=⟨_,rfl⟩
 rw[hN] at hL⊢;have HN:=af hN;have H5:=af h5;have H0:=af h0;have q1:=af (fun W=>cG (N:Int) W (by omega) (by omega));rw[Int.toNat_natCast] at q1;have hwrap:IntKind.u64.wrap (N:Int)=(N:Int):=by rw[IntKind.wrap_u64];omega
 have hwl:=Num.wide_len N;have HC:=af (show dz L 1=Num.wide N++(L.drop 0).flatMap ni by unfold dz;rw[if_pos rfl,hN,List.drop_zero]);have q2:=af (fun W (hW:bU B b l W) (hs:B<=W.heap.size)=>cS B b l (Num.wide N) W hW (by omega) hs);clear hN h5;go_enter Tryz.func217,Tryz.ntmps217
 go_wp2_with fail
 refine(q1.out _).mono ?_;rintro e w1 ⟨rfl,hb1⟩;have B1:=h.below hb1;have k1:BK B b w w1:=BK.of_below hb1 hBw;clear h hb1 q1 h0;go_wp2_with fail
 refine(q2.out _ B1 (aK hBw k1.1.size)).mono ?_;rintro e w2 ⟨rfl,B2,k2⟩;have k2':=k1.trans k2;clear q2 B1 k1 k2;go_wp2_with fail
 go_loopw [14] (fun i wr=>∃(j:Nat) (A:List UInt8),j<=N/\i=.int .i64 (j:Int)/\bU B b (l++A) wr/\BK B b w wr/\A.length=8+16*j/\Hid (dz L 1=A++(L.drop j).flatMap ni)) (fun i _=>N-(intOf i).toNat)
 case atStart=>exact⟨0,_,Nat.zero_le _,rfl,B2,k2',by omega,HC⟩
 case round=>
  clear B2 k2' HC;obtain⟨j,A,hj,rfl,hB,hk,hA,HJ⟩:=hrel;have hwr:=hk.1.size;have hbl:=H0.out.trans (hk.1.mono (show w0.heap.size<=B from h0B) |>.mono (aF _))|>fun x=>x;rcases(show j<N\/j=N by omega) with hjn|rfl
  ·have hjl:j<L.length:=by rw[HN.out];exact hjn
   obtain⟨g,o,rfl,hok,y0,y1⟩:=sZ H5.out hjl hbl;have HJ2:=af (show dz L 1=(A++ni L[j])++(L.drop (j+1)).flatMap ni by rw[HJ.out,List.drop_eq_getElem_cons hjl,List.flatMap_cons,List.append_assoc]);have hsl:=Gl L[j];have hS:ni L[j]=Num.wide (aS L[j].1)++Num.wide L[j].2:=rfl;rw[hS] at HJ2 hsl;have hv2:=hok.2;generalize L[j]=x at*;obtain⟨t,val⟩:=x;simp only at y0 y1 hS hsl HJ2 hv2;have k5:=ag.new wr 127 #[.int .i64 t,.int .u64 (val:Int)];have B5:=hB.below (ai wr (.cells #[.int .i64 t,.int .u64 (val:Int)] 127));have hk5:=hk.trans (BK.of_below (ai wr (.cells #[.int .i64 t,.int .u64 (val:Int)] 127)) (aK hBw hwr));have g0:=aj (ax k5 0 (.int .i64 t) rfl);have g1:=aj (ax k5 1 (.int .u64 (val:Int)) rfl);have q1:=af (fun W=>cG (aS t:Int) W (by omega) (by have:=gy t;omega));have q2:=af (fun W=>cG (val:Int) W (by omega) (by omega));rw[Int.toNat_natCast] at q1 q2;have f1:=dF t;have t1:=Num.wide_len (aS t);have t2:=Num.wide_len val;generalize Num.wide (aS t)=z1 at*;generalize Num.wide val=z2 at*;generalize aS t=n1 at*;have hadd:∀W,(Op.stringOp .add (bs z1) (bs z2)).run Tryz.prog W=.ok (.string (bs (z1++z2))) W:=fun W=>aJ (P:=Tryz.prog) z1 z2 (by omega) W;generalize z1++z2=z3 at*;have qw:=af (fun W (hW:bU B b (l++A) W) (hs:B<=W.heap.size)=>cS B b (l++A) z3 W hW (by rw[aG];omega) hs);have HB5:=af B5;have HK5:=af hk5;clear hjl hok hS hB hk hbl HJ B5 hk5 k5 t1 t2;go_wp2_with fail
   refine l6 ?_;iterate 4 (refine bJ fun K hK=>?_;go_big_quiet_step (fail);refine hK _ ?_;clear hK K)
   (refine fS (f:=33) (args:=#[.int .u64 (n1:Int)]) (v:=.string (bs z1)) (fun W hW=>q1.out W) fun K hK=>?_;go_big_quiet_step (fail);refine hK _ ?_;clear hK K);iterate 2 (refine bJ fun K hK=>?_;go_big_quiet_step (fail);refine hK _ ?_;clear hK K)
   (refine fS (f:=33) (args:=#[.int .u64 (val:Int)]) (v:=.string (bs z2)) (fun W hW=>q2.out W) fun K hK=>?_;go_big_quiet_step (fail);refine hK _ ?_;clear hK K)
   (refine bJ fun K hK=>?_;go_big_quiet_step (fail);refine hK _ ?_;clear hK K);refine eR ?_;intro w5 hb5;simp only[aB];have B5:=HB5.out.below hb5;have K5:=HK5.out.trans (BK.of_below hb5 (aK hBw HK5.out.1.size));clear g0 g1 y0 y1 HB5 HK5 hb5;go_wp2_with fail
   refine(qw.out _ B5 (aK hBw K5.1.size)).mono ?_;rintro e w6 ⟨rfl,B6,k6⟩;have hw9:IntKind.i64.wrap ((j:Int)+1)=(j:Int)+1:=ct _ (by omega);go_wp2_with fail
   go_roundw
   case rel=>exact⟨j+1,A++z3,hjn,by go_num,by rw[<-List.append_assoc];exact B6,K5.trans k6,by rw[aG];omega,HJ2⟩
   case measure=>simp[intOf];omega
  ·have HE:=af (show dz L 1=A by rw[HJ.out,List.drop_of_length_le (by rw[HN.out];exact aF _)];simp);clear H5 HJ hbl;go_wp2_with fail
   refine bodyPost_end (results_none rfl _ _ _) rfl ?_;exact⟨rfl,by rw[HE.out];exact hB,hk⟩
theorem Kn(z:Int)(h1: -9223372036854775808<=z)(h2:z<=9223372036854775807):∃n:Nat,Num.zigI z=(n:Int)/\n<18446744073709551616:=by
 have:=Num.zig_bd z h1 h2;exact⟨(Num.zigI z).toNat,by omega,by omega⟩
theorem xI:DQ 219 2:=by
 intro B b l v L w0 w h hs h0 h0B hBw hbw hL hl _ _;obtain⟨a,c,rfl,_,_,_,h5⟩:=hs;obtain⟨N,hN⟩:∃N,L.length=N:=⟨_,rfl⟩
 rw[hN] at hL⊢;have HN:=af hN;have H5:=af h5;have H0:=af h0;have q1:=af (fun W=>aT (N:Int) W (by omega) (by omega));rw[Int.toNat_natCast] at q1;have hwrap:IntKind.u64.wrap (N:Int)=(N:Int):=by rw[IntKind.wrap_u64];omega
 have hwl:=Num.small_len N;have HC:=af (show dz L 2=Num.small N++pg 0 (L.drop 0) by unfold dz;rw[if_neg (by decide),if_pos rfl,hN,List.drop_zero]);have q2:=af (fun W (hW:bU B b l W) (hs:B<=W.heap.size)=>cS B b l (Num.small N) W hW (by omega) hs);clear hN h5;go_enter Tryz.func219,Tryz.ntmps219
 go_wp2_with fail
 refine(q1.out _).mono ?_;rintro e w1 ⟨rfl,hb1⟩;have B1:=h.below hb1;have k1:BK B b w w1:=BK.of_below hb1 hBw;clear h hb1 q1 h0;go_wp2_with fail
 refine(q2.out _ B1 (aK hBw k1.1.size)).mono ?_;rintro e w2 ⟨rfl,B2,k2⟩;have k2':=k1.trans k2;clear q2 B1 k1 k2;go_wp2_with fail
 go_loopw [4,15] (fun la i wr=>∃(j:Nat) (A:List UInt8) (p:Int),j<=N/\i=.int .i64 (j:Int)/\la=.int .i64 p/\bU B b (l++A) wr/\BK B b w wr/\A.length<=20+20*j/\Hid (dz L 2=A++pg p (L.drop j))) (fun _ i _=>N-(intOf i).toNat)
 case atStart=>exact⟨0,_,0,Nat.zero_le _,rfl,rfl,B2,k2',by omega,HC⟩
 case round=>
  clear B2 k2' HC;obtain⟨j,A,p,hj,rfl,rfl,hB,hk,hA,HJ⟩:=hrel;have hwr:=hk.1.size;have hbl:=H0.out.trans (hk.1.mono (show w0.heap.size<=B from h0B) |>.mono (aF _))|>fun x=>x;rcases(show j<N\/j=N by omega) with hjn|rfl
  ·have hjl:j<L.length:=by rw[HN.out];exact hjn
   obtain⟨g,o,rfl,hok,y0,y1⟩:=sZ H5.out hjl hbl;have HJ2:=af (show dz L 2=(A++(Num.small (Num.zigI (dH (L[j].1-p))).toNat++Num.wide L[j].2))++pg L[j].1 (L.drop (j+1)) by rw[HJ.out,List.drop_eq_getElem_cons hjl,pg];simp only[List.append_assoc]);have hv2:=hok.2;generalize L[j]=x at*;obtain⟨t,val⟩:=x;simp only at y0 y1 HJ2 hv2;have k5:=ag.new wr 127 #[.int .i64 t,.int .u64 (val:Int)];have B5:=hB.below (ai wr (.cells #[.int .i64 t,.int .u64 (val:Int)] 127));have hk5:=hk.trans (BK.of_below (ai wr (.cells #[.int .i64 t,.int .u64 (val:Int)] 127)) (aK hBw hwr));have g0:=aj (ax k5 0 (.int .i64 t) rfl);have g1:=aj (ax k5 1 (.int .u64 (val:Int)) rfl);have z0:=ax k5 0 (.int .i64 t) rfl;have hsub:IntKind.i64.wrap (t-p)=dH (t-p):=rfl;have hzi:=su (t-p);generalize dH (t-p)=z at*;have qz:=af (fun W=>(gN z W hzi.1 hzi.2).mono fun e w' (h:e=.returned (.int .u64 (Num.zigI z))/\W=w')=>(⟨h.1,h.2▸bR⟩:e=.returned (.int .u64 (Num.zigI z))/\Below W.heap.size W w'));obtain⟨n1,hn1,hn1b⟩:=Kn z hzi.1 hzi.2;rw[hn1] at qz HJ2;have q1:=af (fun W=>aT (n1:Int) W (by omega) (by omega));have q2:=af (fun W=>cG (val:Int) W (by omega) (by omega));rw[Int.toNat_natCast] at q1 q2 HJ2;have t1:=Num.small_len n1;have t2:=Num.wide_len val;generalize Num.small n1=z1 at*;generalize Num.wide val=z2 at*;have hadd:∀W,(Op.stringOp .add (bs z1) (bs z2)).run Tryz.prog W=.ok (.string (bs (z1++z2))) W:=fun W=>aJ (P:=Tryz.prog) z1 z2 (by omega) W;have t3:(z1++z2).length<=20:=by rw[aG];omega
   generalize z1++z2=z3 at*;have qw:=af (fun W (hW:bU B b (l++A) W) (hs:B<=W.heap.size)=>cS B b (l++A) z3 W hW (by rw[aG];omega) hs);have HB5:=af B5;have HK5:=af hk5;have HZ:=af (show ∀W',BK B b (wr.alloc (.cells #[.int .i64 t,.int .u64 (val:Int)] 127)) W'->wr.heap.size≠b->W'.cell? ⟨wr.heap.size,0,none⟩=some (.int .i64 t) from fun W' hW' hne=>(ag.cell (BK.blk hW' k5 hne (by decide)) 0).trans rfl);have hbne:wr.heap.size≠b:=by have:=hwr;omega
   clear hjl hok hB hk hbl HJ B5 hk5 k5 t1 t2 hn1 hzi;go_wp2_with fail
   refine l6 ?_;iterate 5 (refine bJ fun K hK=>?_;go_big_quiet_step (fail);refine hK _ ?_;clear hK K)
   (refine fS (f:=181) (args:=#[.int .i64 z]) (v:=.int .u64 (n1:Int)) (fun W hW=>qz.out W) fun K hK=>?_;go_big_quiet_step (fail);refine hK _ ?_;clear hK K)
   (refine fS (f:=32) (args:=#[.int .u64 (n1:Int)]) (v:=.string (bs z1)) (fun W hW=>q1.out W) fun K hK=>?_;go_big_quiet_step (fail);refine hK _ ?_;clear hK K);iterate 2 (refine bJ fun K hK=>?_;go_big_quiet_step (fail);refine hK _ ?_;clear hK K)
   (refine fS (f:=33) (args:=#[.int .u64 (val:Int)]) (v:=.string (bs z2)) (fun W hW=>q2.out W) fun K hK=>?_;go_big_quiet_step (fail);refine hK _ ?_;clear hK K)
   (refine bJ fun K hK=>?_;go_big_quiet_step (fail);refine hK _ ?_;clear hK K);refine eR ?_;intro w5 hb5;simp only[aB];have B5:=HB5.out.below hb5;have kk5:=BK.of_below (b:=b) hb5 (aK hBw HK5.out.1.size);have K5:=HK5.out.trans kk5;clear g0 g1 y0 y1 z0 HB5 HK5 hb5;go_wp2_with fail
   refine(qw.out _ B5 (aK hBw K5.1.size)).mono ?_;rintro e w6 ⟨rfl,B6,k6⟩;have z6:=HZ.out _ (kk5.trans k6) hbne;have hw9:IntKind.i64.wrap ((j:Int)+1)=(j:Int)+1:=ct _ (by omega);go_wp2_with fail
   go_roundw
   case rel=>exact⟨j+1,A++z3,t,hjn,by go_num,rfl,by rw[<-List.append_assoc];exact B6,K5.trans k6,by rw[aG];omega,HJ2⟩
   case measure=>simp[intOf];omega
  ·have HE:=af (show dz L 2=A by rw[HJ.out,List.drop_of_length_le (by rw[HN.out];exact aF _)];simp[pg]);clear H5 HJ hbl;go_wp2_with fail
   refine bodyPost_end (results_none rfl _ _ _) rfl ?_;exact⟨rfl,by rw[HE.out];exact hB,hk⟩
theorem Lm:K0 Tryz.prog 187 2 1 8:=⟨Tryz.underlying187,uo (.int .i64 0) (by kernel_rfl) rfl,by decide,by decide⟩
theorem Ll:K0 Tryz.prog 188 67 1 8:=⟨Tryz.underlying188,uo (.int .u64 0) (by kernel_rfl) rfl,by decide,by decide⟩
theorem vC{α β:Type}(f:α->β)(L:List α){j:Nat}(h:j<L.length):(L.take (j+1)).map f=(L.take j).map f++[f L[j]]:=by
 rw[eM h,List.map_append];rfl
theorem zq:DQ 221 3:=by
 intro B b l v L w0 w h hs h0 h0B hBw hbw hL hl hT hg64;obtain⟨a,c,rfl,_,_,_,h5⟩:=hs;obtain⟨N,hN⟩:∃N,L.length=N:=⟨_,rfl⟩
 rw[hN] at hL⊢;have HN:=af hN;have H5:=af h5;have H0:=af h0;have HT:=af (And.intro hT hg64);clear hN h5 hT hg64 h0;have hwrap:IntKind.u64.wrap (N:Int)=(N:Int):=by rw[IntKind.wrap_u64];omega
 have rt0:w.ownsRow w.heap.size 2 1 (.slice none 0 0) 0 (((L.take 0).map fun x=>x.1).map (Value.int .i64)):=eE;have rv0:w.ownsRow w.heap.size 67 1 (.slice none 0 0) 0 (yN ((L.take 0).map fun x=>x.2)):=eE;go_enter Tryz.func221,Tryz.ntmps221
 go_wp2_with fail
 go_loopw [4,5,10] (fun vt vv i wr=>∃(j:Nat),j<=N/\i=.int .i64 (j:Int)/\Below w.heap.size w wr/\wr.ownsRow w.heap.size 2 1 vt j (((L.take j).map fun x=>x.1).map (Value.int .i64))/\wr.ownsRow w.heap.size 67 1 vv j (yN ((L.take j).map fun x=>x.2))/\(∀g,vt.ownBlock=some g->vv.ownBlock≠some g)) (fun _ _ i _=>N-(intOf i).toNat)
 case atStart=>exact⟨0,Nat.zero_le _,rfl,bR,rt0,rv0,fun _ e=>by cases e⟩
 case round=>
  clear rt0 rv0;obtain⟨j,hj,rfl,hbl,rt,rv,hap⟩:=hrel;obtain⟨ta,tc,rfl⟩:=aH rt;obtain⟨va,vc,rfl⟩:=aH rv;have hwr:=hbl.size;rcases(show j<N\/j=N by omega) with hjn|rfl
  ·have hjl:j<L.length:=by rw[HN.out];exact hjn
   obtain⟨g,o,rfl,hok,y0,y1⟩:=sZ H5.out hjl ((H0.out.trans (hbl.mono (aK h0B hBw))));have HA:=af (vC (fun x:cH=>x.1) L hjl);have HB:=af (vC (fun x:cH=>x.2) L hjl);generalize L[j]=x at*;obtain⟨t,val⟩:=x;simp only at y0 y1 HA HB;have k5:=ag.new wr 127 #[.int .i64 t,.int .u64 (val:Int)];have b5:=hbl.alloc hwr (.cells #[.int .i64 t,.int .u64 (val:Int)] 127);have rt5:=World.ownsRow.alloc rt (.cells #[.int .i64 t,.int .u64 (val:Int)] 127);have rv5:=World.ownsRow.alloc rv (.cells #[.int .i64 t,.int .u64 (val:Int)] 127);have z0:=ax k5 0 (.int .i64 t) rfl;have z1:=ax k5 1 (.int .u64 (val:Int)) rfl;have hlt:=rt.lt;have hlv:=rv.lt;have hsz5:(wr.alloc (.cells #[.int .i64 t,.int .u64 (val:Int)] 127)).heap.size=wr.heap.size+1:=aW _ _;have HH:=af hap;have HR:=af rv5;clear hjl hok rt rv hap hbl H5 rv5;go_wp2_with (at_builtin;first|(refine l7 Lm rfl _ _ rfl rfl rt5 [.int .i64 t] hsz5 rfl rfl (by simp[Value.oneCell']) (by omega) b5.size ?_;intro sa' sc' w7 hown' hk7 hloc;have z2:=hk7.cell z1 (fun e=>absurd (hlt _ e).2 (Nat.lt_irrefl _));have rv7:=aw HR.out hk7 fun k hk e=>HH.out k e hk;have b7:=b5.trans (hk7.below b5.size fun k e=>(hlt k e).1))|(refine l7 Ll rfl _ _ rfl rfl rv7 [.int .u64 (val:Int)] rfl rfl rfl (by simp[Value.oneCell']) (by omega) b7.size ?_;intro ua' uc' w8 hown8 hk8 hloc8))
   have hap7:∀g,(Value.slice sa' (j+1) sc').ownBlock=some g->(Value.slice va j vc).ownBlock≠some g:=by
    intro g1 e1 e2;rcases hloc with e|e
    ·exact HH.out g1 (e▸e1) e2
    ·have:=(hlv g1 e2).2;have:=e g1 e1;omega
   have HX:=af hap7;have HO:=af hown';clear y0 y1 z0 z1 k5 rt5 b5 hloc hown' hap7 HR HH;have hrt:=aw HO.out hk8 fun k hk e=>HX.out k hk e;have HC:=af (show Below w.heap.size w w8/\w8.ownsRow w.heap.size 2 1 (.slice sa' (j+1) sc') (j+1) (((L.take (j+1)).map fun x=>x.1).map (Value.int .i64))/\w8.ownsRow w.heap.size 67 1 (.slice ua' (j+1) uc') (j+1) (yN ((L.take (j+1)).map fun x=>x.2))/\(∀g,(Value.slice sa' (j+1) sc').ownBlock=some g->(Value.slice ua' (j+1) uc').ownBlock≠some g) from by
    refine⟨b7.trans (hk8.below b7.size fun k e=>(hlv k e).1),?_,?_,?_⟩
    ·rw[HA.out,List.map_append];exact hrt
    ·rw[HB.out,A8];exact hown8
    ·intro g1 e1 e2
     rcases hloc8 with e|e
     ·exact HX.out g1 e1 (e▸e2)
     ·have:=(HO.out.lt g1 e1).2
      have:=e g1 e2
      omega)
   clear z2 rv7 b7 hk8 hk7 hrt hown8 hloc8 HA HB HX HO hlt hlv hsz5;have hw9:IntKind.i64.wrap ((j:Int)+1)=(j:Int)+1:=ct _ (by omega);go_roundw
   case rel=>exact⟨j+1,hjn,by go_num,HC.out⟩
   case measure=>simp[intOf];omega
  ·have hlen:L.take j=L:=List.take_of_length_le (by rw[HN.out];exact aF _);rw[hlen] at rt rv;have hbd:∀x∈L,ew x:=fun x hx=>by
    obtain⟨i,hi,rfl⟩:=List.getElem_of_mem hx;obtain⟨_,_,_,h9⟩:=H5.out i _ (aV hi);exact h9.1
   have It:=Hp rt (by rw[List.length_map,HN.out]) (by rw[List.length_map,HN.out];omega) (fun x hx=>by obtain⟨y,hy,rfl⟩:=List.mem_map.1 hx;exact(hbd y hy).1);have Iv:=F5 rv (by rw[List.length_map,HN.out]) (by rw[List.length_map,HN.out];omega) (fun x hx=>by obtain⟨y,hy,rfl⟩:=List.mem_map.1 hx;exact(hbd y hy).2);have hlm1:(L.map fun x=>x.1).length=j:=by rw[List.length_map,HN.out]
   have hlm2:(L.map fun x=>x.2).length=j:=by rw[List.length_map,HN.out]
   have HE:=af (show dz L 3=(Num.small j++Num.text (kV (L.map fun x=>x.1)))++Num.text (iZ (L.map fun x=>x.2)) by unfold dz;rw[if_neg (by decide),if_neg (by decide),HN.out]);have l1:=sM (L.map fun x=>x.1);have l2:=qH (L.map fun x=>x.2);rw[hlm1] at l1;rw[hlm2] at l2;generalize (L.map fun x=>x.1)=T1 at*;generalize (L.map fun x=>x.2)=V1 at*;have q1:=af (fun W=>aT (j:Int) W (by omega) (by omega));rw[Int.toNat_natCast] at q1;have q2:=af (fun W (hb:Below wr.heap.size wr W)=>IG _ T1 W (It.below hb) (by omega));have q3:=af (fun W (hb:Below w0.heap.size w0 W) (hb2:Below wr.heap.size wr W)=>ID _ V1 W (Iv.below hb2) (by omega) (Tb.below HT.out.1 hb HT.out.2) (dQ HT.out.2 hb.size));have t1:=Num.small_len j;generalize kV T1=tb at*;generalize iZ V1=vb at*;have q4:=af (fun W=>ee tb W (by omega));have q5:=af (fun W=>ee vb W (by omega));have t2:(Num.text tb).length<=10+tb.length:=by unfold Num.text;rw[aG];have:=(Num.small_len tb.length).2;omega
   have t3:(Num.text vb).length<=10+vb.length:=by unfold Num.text;rw[aG];have:=(Num.small_len vb.length).2;omega
   generalize Num.small j=z1 at*;generalize Num.text tb=z2 at*;generalize Num.text vb=z3 at*;have ha1:∀W,(Op.stringOp .add (bs z1) (bs z2)).run Tryz.prog W=.ok (.string (bs (z1++z2))) W:=fun W=>aJ (P:=Tryz.prog) z1 z2 (by omega) W;have ha2:∀W,(Op.stringOp .add (bs (z1++z2)) (bs z3)).run Tryz.prog W=.ok (.string (bs (z1++z2++z3))) W:=fun W=>aJ (P:=Tryz.prog) (z1++z2) z3 (by rw[aG];omega) W;have t4:(z1++z2++z3).length<=100000:=by rw[aG,aG];omega
   generalize z1++z2=z4 at*;generalize z4++z3=z5 at*;have qw:=af (fun W (hW:bU B b l W) (hs:B<=W.heap.size)=>cS B b l z5 W hW (by omega) hs);have HBL:=af hbl;have HB:=af h;clear rt rv H5 hbd It Iv hap hlen l1 l2 t1 t2 t3 t4 hlm1 hlm2 hbl h;go_wp2_with fail
   refine(q1.out _).mono ?_;rintro e w1 ⟨rfl,hb1⟩;go_wp2_with fail
   refine(q2.out _ hb1).mono ?_;rintro e w2 ⟨rfl,hb2⟩;have c2:=ay hb1 hb2;clear hb1 hb2 q1 q2;go_wp2_with fail
   refine(q4.out _).mono ?_;rintro e w3 ⟨rfl,hb3⟩;have c3:=ay c2 hb3;clear c2 hb3 q4;go_wp2_with fail
   refine(q3.out _ (H0.out.trans ((HBL.out.trans (c3.mono hwr)).mono (aK h0B hBw))) c3).mono ?_;rintro e w4 ⟨rfl,hb4⟩;have c4:=ay c3 hb4;clear c3 hb4 q3;go_wp2_with fail
   refine(q5.out _).mono ?_;rintro e w5 ⟨rfl,hb5⟩;have c5:=HBL.out.trans ((ay c4 hb5).mono hwr);clear c4 hb5 q5;go_wp2_with fail
   refine(qw.out _ (HB.out.below c5) (aK hBw c5.size)).mono ?_;rintro e w6 ⟨rfl,B6,k6⟩;clear qw HBL HB;go_wp2_with fail
   refine bodyPost_end (results_none rfl _ _ _) rfl ?_;exact⟨rfl,by rw[HE.out];exact B6,(BK.of_below c5 hBw).trans k6⟩
def Lu (f:Nat)(capt:Array Value)(g:Nat)(one:Int->CS->cH×CS)(w:World):Prop:=
 ∀(p:Int) (c:CS) (W:World),-9223372036854775808<=p/\p<=9223372036854775807->gz W g c.1 c.2->c.1.length<=1000000->ak w W (fun k=>k=g)->
  Calls Tryz.prog f (#[.int .i64 p]++capt) W fun e w'=>e=.returned (.agg #[.int .i64 (one p c).1.1,.int .u64 ((one p c).1.2:Int)])/\gz w' g (one p c).2.1 (one p c).2.2/\W.grownBy w' (some g)
theorem EN(one:Int->CS->cH×CS)(m:Nat)(a:Int)(c:CS):(gQ one (m+1) a c)=((one a c).1::(gQ one m (one a c).1.1 (one a c).2).1,(gQ one m (one a c).1.1 (one a c).2).2):=rfl
theorem EO(f:Nat)(capt:Array Value)(g:Nat)(one:Int->CS->cH×CS)(c0:CS)(n:Nat)(cp:Value)(w:World)(hf:Lu f capt g one w)(hcf:∀args W,(callFunc f args).run Tryz.prog W=.ok (.enter f args) W)
 (hok:∀p c,ew (one p c).1) (hlen:∀p c,(one p c).2.1.length<=c.1.length) (hC:gz w g c0.1 c0.2) (hs:c0.1.length<=1000000) (hn:n<18446744073709551616):
 Calls Tryz.prog 263 #[cp,.int .u64 (n:Int),.func (.func f) #[] capt] w fun e w'=>∃v,e=.returned v/\aI w' v (gQ one (min n 201) 0 c0).1/\gz w' g (gQ one (min n 201) 0 c0).2.1 (gQ one (min n 201) 0 c0).2.2/\ak w w' (fun k=>k=g)/\∀k,v.ownBlock=some k->w.heap.size<=k:=by
 have HF:=af hf
 have HO:=af (And.intro hok hlen)
 have hr0:w.ownsRow w.heap.size 127 2 (.slice none 0 0) 0 (aL gA []):=eE
 have hmin:min (n:Int) 201=((min n 201:Nat):Int):=by omega
 obtain⟨N,hN⟩:∃N,min n 201=N:=⟨_,rfl⟩
 have hN2:N<=201:=by omega
 rw[hN] at hmin⊢
 have hgl:=hC.lt
 clear hf hok hlen hN
 go_enter Tryz.func263,Tryz.ntmps263
 go_wp2_with fail
 go_loopw [7,8,12] (fun vl la i wr=>∃(j:Nat) (P:List cH) (c:CS) (p:Int),j<=N/\i=.int .u64 (j:Int)/\la=.int .i64 p/\(-9223372036854775808<=p/\p<=9223372036854775807)/\gz wr g c.1 c.2/\c.1.length<=1000000/\ak w wr (fun k=>k=g)/\wr.ownsRow w.heap.size 127 2 vl j (aL gA P)/\P.length=j/\(∀x∈P,ew x)/\Hid (gQ one N 0 c0=(P++(gQ one (N-j) p c).1,(gQ one (N-j) p c).2))) (fun _ _ i _=>N-(intOf i).toNat)
 case atStart=>exact⟨0,[],c0,0,Nat.zero_le _,rfl,rfl,by omega,hC,hs,ak.refl _ _,hr0,rfl,by simp,af rfl⟩
 case round=>
  clear hr0 hC hs;obtain⟨j,P,c,p,hj,rfl,rfl,hp,hB,hcl,hk,hrow,hPl,hP,HJ⟩:=hrel;obtain⟨va,vc,rfl⟩:=aH hrow;rcases(show j<N\/j=N by omega) with hjn|rfl
  ·have hq:=af (HF.out p c wr hp hB hcl hk);have hk1:N-j=(N-(j+1))+1:=by omega
   rw[hk1,EN] at HJ;have ho:=HO.out.1 p c;have hl:=HO.out.2 p c;obtain⟨x,c2,hx⟩:∃x c2,one p c=(x,c2):=⟨_,_,rfl⟩
   rw[hx] at hq HJ ho hl;obtain⟨t,val⟩:=x;simp only at hq HJ ho hl;have HJ2:=af (show gQ one N 0 c0=((P++[(t,val)])++(gQ one (N-(j+1)) t c2).1,(gQ one (N-(j+1)) t c2).2) by rw[HJ.out,List.append_assoc];rfl);have HC:=af (And.intro ho (And.intro hP hPl));have hlt:=hrow.lt;clear HJ hx hk1 hB ho hP hPl;go_wp2_with fail
   refine hq.out.mono ?_;rintro e w5 ⟨rfl,hB5,hg5⟩;have hk5:=ak.of_grown hg5 (S:=fun k=>k=g) fun k e=>(az e).symm;have hk5':=hk.trans hk5;have hs5:=hg5.size;have row5:=aw hrow hk5 fun k hk1 e=>by have:=(hlt k hk1).1;omega
   have k6:=ag.new w5 127 #[.int .i64 t,.int .u64 (val:Int)];have y0:=ax k6 0 (.int .i64 t) rfl;have y1:=ax k6 1 (.int .u64 (val:Int)) rfl;have row6:=World.ownsRow.alloc row5 (.cells #[.int .i64 t,.int .u64 (val:Int)] 127);have hB6:gz (w5.alloc (.cells #[.int .i64 t,.int .u64 (val:Int)] 127)) g c2.1 c2.2:=ag.alloc hB5 _;have hk6:=hk5'.trans (ak.alloc w5 (.cells #[.int .i64 t,.int .u64 (val:Int)] 127) (fun k=>k=g));clear hq hk hk5 hrow row5 hB5 hg5 hk5';go_wp2_with (at_builtin;(refine l7 kO rfl _ _ rfl rfl row6 [.int .i64 t,.int .u64 (val:Int)] (aW _ _) rfl rfl (by simp[Value.oneCell']) (by omega) hk6.size ?_);intro sa' sc' w7 hown' hk7 hloc;have z0:=hk7.cell y0 (fun e=>absurd (dQ (hlt _ e).2 hs5) (Nat.lt_irrefl _)))
   have hk8:ak w w7 (fun k=>k=g):=E8 hk6 hk7 fun i hi e=>by have:=(hlt i e).1;omega
   have hB7:gz w7 g c2.1 c2.2:=ag.keptK hB6 hk7 (fun e=>by have:=(hlt g e).1;omega);have HR:=af (show w7.ownsRow w.heap.size 127 2 (.slice sa' (j+1) sc') (j+1) (aL gA (P++[(t,val)])) by rw[dO,gE];exact hown');have hw9:IntKind.u64.wrap ((j:Int)+1)=(j:Int)+1:=by rw[IntKind.wrap_u64];omega
   clear y0 y1 row6 hB6 hk6 hk7 hown' hloc hlt k6 hs5;go_roundw
   case rel=>
    refine⟨j+1,P++[(t,val)],c2,t,hjn,by go_num,rfl,HC.out.1.1,hB7,aK hl hcl,hk8,HR.out,by rw[aG,HC.out.2.2];rfl,?_,HJ2⟩;intro x hx;rcases List.mem_append.1 hx with h|h
    ·exact HC.out.2.1 x h
    ·obtain rfl:=List.mem_singleton.1 h;exact HC.out.1
   case measure=>simp[intOf];omega
  ·have HI:=af (And.intro (iC hrow hPl (by omega) hP) (fun k hk=>(hrow.lt k hk).1));have HE:=af (show gQ one j 0 c0=(P,c) by rw[HJ.out,Nat.sub_self];simp[gQ]);clear HJ hPl hP hrow;go_wp2_with fail
   go_ret;rw[HE.out];exact⟨_,rfl,HI.out.1,hB,hk,HI.out.2⟩
section
variable {S:fK} {ch:List Nat} {P:Program} {ops:Array Oper} {n k:Nat} {ds:List Deferred} {F:Act->World->Prop} {rest:List Oper} {H:List (Tmp×bn)} {a:Act} {o:Oper}
theorem EV(q:Nat){f:FuncId}{args:Array Value}{d:Tmp}{r:bn}(hi:ch.contains k=true)(hq:ch.idxOf k=q)(hk:r.keeps S.K)(hw:Region.wanted o (yielded ops a.tmps)=true)(hns:∀cs b,o.op≠.select cs b)(hl:bi ops H o=true)(hd:o.dst=some d)
 (hr:∀w,(execOp a.eval o).run P w=.ok (.enter f args) w) (hc:∀w,S.ph q w->Calls P f args w fun e w'=>∃x,e=.returned x/\S.K w w'/\S.ph (q+1) w'/\r x w')
 (h:bS S ch P ops n ds F (k+1) rest ((d,r)::H) a):bS S ch P ops n ds F k (o::rest) H a:=by
 refine pN q hi hq hk (fun c w hb hs=>?_) hd h
 have he:=cr hl hs
 refine⟨by rw[bz fun g b t hg ht=>he t (cx hg ht)];exact hw,fun K Q' hK=>?_⟩
 unfold Oper.wp
 rw[bO hns he,hr]
 exact(hc w hb).mono fun e w' ⟨x,h1,h2,h3,h4⟩=>by subst h1;exact hK _ _ h2 h3 h4
end
theorem vX{w w':World}{row:Option Nat}{b i:Nat}{u:Value}(h:w.grownBy w' row)(hb:w.heap.size<=b):w.grownBy (w'.setCell ⟨b,i,none⟩ u) row:=
 ⟨h.os,h.tape,h.output,by rw[World.size_setCell];exact h.size,fun k hk hn=>(Below.heap_setCell w' ⟨b,i,none⟩ u k (fun e=>by simp at e;omega)).trans (h.block k hk hn)⟩
theorem xW(g bx:Nat)(w:World)(hbx:w.cell? ⟨bx,0,none⟩=some (.pointer (some ⟨g,0,none⟩)))(hne:bx≠g):Lu 264 #[.pointer (some ⟨bx,0,none⟩)] g nt w:=by
 intro p c W _ hC hl hk;have e0:=hk.cell hbx hne;obtain⟨t1,h1,h1b⟩:=l8 c;obtain⟨t2,h2,h2b⟩:=l8 (wN c);have hl1:(wN c).1.length<=1000000:=aK (jU c) hl;have hS:nt p c=((dH (t1:Int),t2),wN (wN c)):=by unfold nt;rw[h1,h2];rfl
 rw[hS];have q1:=af (fun W hW=>LA g c W hW (by omega));have q2:=af (fun W hW=>LA g (wN c) W hW (by omega));rw[h1] at q1;rw[h2] at q2;clear hS h1 h2 hk hbx;generalize wN c=c1 at*;generalize wN c1=c2 at*;have hz:IntKind.i64.wrap (t1:Int)=dH (t1:Int):=rfl;generalize dH (t1:Int)=z at*;have hgl:=hC.lt;have hb0:=ai W (.cells #[.int .i64 0,.int .u64 0] 127);have hC0:gz _ g c.1 c.2:=ag.below hC hb0 hgl;have kR:=ag.new W 127 #[.int .i64 0,.int .u64 0];have e1:=cu hb0 e0;go_enter Tryz.func264,Tryz.ntmps264
 go_wp2_with fail
 generalize hW0:W.alloc _=W0 at*;clear hW0;have g0:=uu (cs:=[c,c1,c2]) (h0:=rfl) (hC:=hC0) e1 hne;refine fu (uv W0 g [c,c1,c2] c rfl hC0) [1,4] rfl (by kernel_rfl) (by kernel_rfl) rfl (by kernel_rfl) (by kernel_rfl) (by kernel_rfl) ?_
 (refine jY fun K hK=>?_;go_big_quiet_step (fail);refine hK _ ?_;clear hK K)
 (refine AV 0 (f:=141) (args:=#[.pointer (some ⟨g,0,none⟩)]) (v:=.int .u64 (t1:Int)) (fun W hW=>mV hW rfl rfl (q1.out W)) fun K hK=>?_;go_big_quiet_step (fail);refine hK _ ?_;clear hK K);iterate 2 (refine jY fun K hK=>?_;go_big_quiet_step (fail);refine hK _ ?_;clear hK K)
 (refine AV 1 (f:=141) (args:=#[.pointer (some ⟨g,0,none⟩)]) (v:=.int .u64 (t2:Int)) (fun W hW=>mV hW rfl rfl (q2.out W)) fun K hK=>?_;go_big_quiet_step (fail);refine hK _ ?_;clear hK K)
 (refine Lh (v:=.agg #[.int .i64 z,.int .u64 (t2:Int)]) (fun W hW=>by skip;go_simp) fun K hK=>?_;go_big_quiet_step (fail);refine hK _ ?_;clear hK K);refine Dz ?_;rintro W1 hK1 ⟨_,cc,hcc,hC1⟩;obtain rfl:cc=c2:=(az hcc).symm;simp only[aB];have kR1:=ag.keptK kR hK1 (by omega);obtain⟨⟨m0,m1⟩,f0,f1⟩:=gh kR1;have hg1:W.grownBy W1 (some g):=⟨(hK1.os).trans hb0.os,hK1.tape.trans hb0.tape,hK1.output.trans hb0.output,aK hb0.size hK1.size,fun k hk hn=>(hK1.block k (dQ hk hb0.size) (fun e=>hn (by rw[e]))).trans (hb0.block k hk)⟩
 clear g0 q1 q2 hcc hK1 hC0 kR e1 e0 hb0 hC;go_wp2_with fail
 refine bodyPost_ret (results_cell_row rfl _ _ W.heap.size 127 #[.int .i64 z,.int .u64 (t2:Int)] (0,0) _ rfl ((kR1.set_ 0 _).set_ 1 _) Tryz.underlying127 rfl (by kernel_rfl)) rfl ?_;refine⟨rfl,ag.far (ag.far hC1 (by simp;omega) _) (by simp;omega) _,?_⟩;exact vX (vX hg1 (aF _)) (aF _)
def Kk(f:Nat)(g:Int):Prop:=∀(b:Nat) (c:CS) (w:World),gz w b c.1 c.2->c.1.length<=1000000->Tb w->1<w.heap.size->1≠b->
    Calls Tryz.prog f #[.pointer (some ⟨b,0,none⟩)] w fun e w'=>∃v,e=.returned v/\aI w' v (il g c).1/\gz w' b (il g c).2.1 (il g c).2.2/\ak w w' (fun k=>k=b)/\∀k,v.ownBlock=some k->w.heap.size<=k
theorem Ds(p:Int)(c:CS):ew (nt p c).1/\(nt p c).2.1.length<=c.1.length:=by
 obtain⟨t2,h2,h2b⟩:=l8 (wN c);refine⟨⟨su _,?_⟩,aK (jU _) (jU _)⟩;unfold nt;rw[h2];exact h2b
theorem zZ:Kk 218 1:=by
 intro b c w hC hl _ _ _;obtain⟨n,h1,h1b⟩:=l8 c;have hS:il 1 c=gQ nt (min n 201) 0 (wN c):=by unfold il;rw[if_pos rfl,h1];rfl
 rw[hS];have hbl:=hC.lt;have q1:=af (fun W hW=>LA b c W hW (by omega));rw[h1] at q1;have hl1:(wN c).1.length<=1000000:=aK (jU c) hl;have kB:=ag.new w 280 #[.pointer (some ⟨b,0,none⟩)];have hb0:=ai w (.cells #[.pointer (some ⟨b,0,none⟩)] 280);have hC0:gz _ b c.1 c.2:=ag.below hC hb0 hbl;have e1:=ax kB 0 (.pointer (some ⟨b,0,none⟩)) rfl;have q2:=af (fun W (hW:gz W b (wN c).1 (wN c).2) (he:W.cell? ⟨w.heap.size,0,none⟩=some (.pointer (some ⟨b,0,none⟩)))=>EO 264 #[.pointer (some ⟨w.heap.size,0,none⟩)] b nt (wN c) n (.pointer (some ⟨b,0,none⟩)) W (xW b w.heap.size W he (by omega)) (fun args W=>by go_simp) (fun p c=>(Ds p c).1) (fun p c=>(Ds p c).2) hW hl1 h1b);clear h1 hS;generalize hc2:(gQ nt (min n 201) 0 (wN c))=X at*;obtain⟨L,c2⟩:=X;generalize wN c=c1 at*;simp only at q2⊢;clear hc2;go_enter Tryz.func218,Tryz.ntmps218
 go_wp2_with fail
 generalize hW0:w.alloc _=W0 at*;clear hW0;have g0:=uu (cs:=[c,c1,c2]) (h0:=rfl) (hC:=hC0) e1 (by simp;omega);refine fu (uv W0 b [c,c1,c2] c rfl hC0) [2,4] rfl (by kernel_rfl) (by kernel_rfl) rfl (by kernel_rfl) (by kernel_rfl) (by kernel_rfl) ?_;iterate 2 (refine jY fun K hK=>?_;go_big_quiet_step (fail);refine hK _ ?_;clear hK K)
 (refine AV 0 (f:=141) (args:=#[.pointer (some ⟨b,0,none⟩)]) (v:=.int .u64 (n:Int)) (fun W hW=>mV hW rfl rfl (q1.out W)) fun K hK=>?_;go_big_quiet_step (fail);refine hK _ ?_;clear hK K)
 (refine jY fun K hK=>?_;go_big_quiet_step (fail);refine hK _ ?_;clear hK K);refine EV (d:=7) 1 (f:=263) (args:=#[.pointer (some ⟨b,0,none⟩),.int .u64 (n:Int),.func (.func 264) #[] #[.pointer (some ⟨w.heap.size,0,none⟩)]]) (r:=fun x W=>aI W x L/\∀k,x.ownBlock=some k->k≠b/\w.heap.size<=k) (by kernel_rfl) (by kernel_rfl) (fun x W W' hx hk=>⟨hx.1.kept hk (fun k e=>(hx.2 k e).1),hx.2⟩) (by kernel_rfl) (fun _ _ h=>by cases h) (by kernel_rfl) rfl (fun _=>by go_simp) (fun W hW=>?_) ?_
 ·obtain⟨hkW,cc,hcc,hCW⟩:=hW;obtain rfl:cc=c1:=(az hcc).symm;refine(q2.out W hCW (hkW.cell e1 (by simp;omega))).mono ?_;rintro e w' ⟨v,rfl,hs,hC2,hk2,hv⟩;exact⟨v,rfl,hk2,⟨hkW.trans hk2,c2,rfl,hC2⟩,hs,fun k hk=>⟨by have:=hv k hk;have:=hCW.lt;omega,aK hb0.size (aK hkW.size (hv k hk))⟩⟩
 refine Dz ?_;rintro W1 hK1 ⟨_,cc,hcc,hC1⟩;obtain rfl:cc=c2:=(az hcc).symm;simp only[aB];rintro x ⟨hx,hfx⟩;have hkk:=ak.trans (ak.of_below hb0) hK1;clear g0 q1 q2 hcc hC0 kB e1 hK1 hb0;go_wp2_with fail
 go_ret;exact⟨x,rfl,hx,hC1,hkk,fun k e=>(hfx k e).2⟩
end
section
open Go Go.RowKit Go.Shelf Go.Maps
attribute [local go_sem] am aq
attribute [local go_sem] am aq
end
section
open Go Go.RowKit Go.Shelf Go.Maps
attribute [local go_sem] am aq
theorem Gz(g:Nat)(h1:1<=g)(h3:g<=3):DQ (xK g) g:=by
 rcases(show g=1\/g=2\/g=3 by omega) with rfl|rfl|rfl
 ·exact zn
 ·exact xI
 ·exact zq
theorem uj(g:Nat)(args:Array Value)(W:World):(callFunc (xK g) args).run Tryz.prog W=.ok (.enter (xK g) args) W/\(callFunc (xX g) args).run Tryz.prog W=.ok (.enter (xX g) args) W:=by
 unfold xK xX;constructor
 ·split
  ·go_simp
  ·split<;>go_simp
 ·split
  ·go_simp
  ·split<;>go_simp
theorem mC{L:List cH}{g:Int}(h:¬(1<=g/\g<=3)\/dh L=false\/200<L.length):fh L g=([],1):=by
 unfold fh Im;rw[if_neg];intro hc;rw[Bool.and_eq_true,Bool.and_eq_true,decide_eq_true_eq,decide_eq_true_eq] at hc;rcases h with h|h|h
 ·exact h hc.1
 ·rw[h] at hc;cases hc.2.1
 ·omega
theorem Ao{L:List cH}{g:Int}(h1:1<=g/\g<=3)(h2:dh L=true)(h3:L.length<=200):fh L g=(dz L g++dj (dz L g),0):=by
 unfold fh Im;rw[if_pos];rw[Bool.and_eq_true,Bool.and_eq_true,decide_eq_true_eq,decide_eq_true_eq];exact⟨h1,h2,h3⟩
theorem C9(v:Value)(L:List cH)(g:Int)(w:World)(h:aI w v L)(hT:Tb w)(hg64:1<w.heap.size):
 Calls Tryz.prog 35 #[v,.int .i64 g] w fun e w'=>e=.returned (.tuple #[.string (bs (fh L g).1),.int .i64 (fh L g).2])/\Below w.heap.size w w':=by
 by_cases hg:1<=g/\g<=3
 ·obtain⟨n,rfl⟩:∃n:Nat,g=n:=⟨g.toNat,by omega⟩
  have q1:=af (fun W=>wg n (by omega) (by omega) W);have q2:=af (fun W (hb:Below w.heap.size w W)=>lF v L W (h.below hb));have hput:=Gz n (by omega) (by omega);have HP:=af (fun (B b:Nat) (W:World) (hB:bU B b [] W) (hb:Below w.heap.size w W) (h1:w.heap.size<=B) (h2:B<=W.heap.size) (h3:b<W.heap.size) (hL:L.length<=250)=>hput B b [] v L w W hB h hb h1 h2 h3 hL (by simp) hT hg64);have HE:=af (fun args W=>(uj n args W).1);have hlen:=h.len;have HF:=af (show H3 n=#[.func (.func (xK n)) #[] #[],.func (.func (xX n)) #[] #[]] from rfl);obtain⟨a,c,rfl,_⟩:=h;obtain⟨N,hN⟩:∃N,L.length=N:=⟨_,rfl⟩
  have HN:=af hN;rw[hN] at q2 HP⊢;rw[HF.out] at q1;generalize xK n=pf at*;generalize xX n=gf at*;clear hput hN hT hg64 HF;go_enter Tryz.func35,Tryz.ntmps35
  go_wp2_with fail
  refine(q1.out _).mono ?_;rintro e w1 ⟨rfl,hb1⟩;have k1:=ag.new w1 177 #[.func (.func pf) #[] #[],.func (.func gf) #[] #[]];have hb2:=hb1.alloc hb1.size (.cells #[.func (.func pf) #[] #[],.func (.func gf) #[] #[]] 177);have y0:=ax k1 0 (.func (.func pf) #[] #[]) rfl;clear q1 hb1;go_wp2_with fail
  refine(q2.out _ hb2).mono ?_;rintro e w3 ⟨rfl,hb3⟩;have k3:=ag.below k1 hb3 k1.lt;have c3:=ay hb2 hb3;clear q2 y0 hb3 k1 hb2;cases hso:dh L with
  |false=>
   have HZ:=af (mC (L:=L) (g:=(n:Int)) (.inr (.inl hso)));clear hso;go_wp2_with fail
   go_ret2;exact⟨by rw[HZ.out];rfl,c3⟩
  |true=>
   by_cases hl2:N<=200
   ·have HZ:=af (Ao hg hso (by rw[HN.out];exact hl2));have f1:decide ((200:Int)<(N:Int))=false:=decide_eq_false (by omega);have HB:=af (bU.fresh w3);have k4:=ag.alloc k3 (.cells #[.pointer none,.slice none 0 0] 84);have c4:=c3.alloc c3.size (.cells #[.pointer none,.slice none 0 0] 84);have hlt:=oS w3 (.cells #[.pointer none,.slice none 0 0] 84);have q3:=af (HP.out w3.heap.size w3.heap.size _ HB.out c4 c3.size (Nat.le_of_lt hlt) hlt (by omega));have y0:=ax k4 0 (.func (.func pf) #[] #[]) rfl;have he:=HE.out;clear hso HP HB k3;go_wp2_with fail
    refine q3.out.mono ?_;rintro e w5 ⟨rfl,B5,k5⟩;have hwb:w3.heap.size<=w5.heap.size:=aK (Nat.le_of_lt hlt) k5.1.size;have c5:=c4.trans (k5.1.mono c3.size);clear q3 y0 he;rw[List.nil_append] at B5;have hbl:=rG (l:=L) (g:=(n:Int)) (by rw[HN.out];exact hl2);generalize hbd:dz L (n:Int)=bd at*;clear hbd;have q4:=af (ft w3.heap.size w3.heap.size bd w5 B5 hwb);have q5:=af (fun W=>mJ bd (by omega) W);have t1:=dP bd;clear B5 k5;go_wp2_with fail
    refine q4.out.mono ?_;rintro e w6 ⟨rfl,_,hb6⟩;go_wp2_with fail
    refine(q5.out _).mono ?_;rintro e w7 ⟨rfl,hb7⟩;have c6:=c5.trans (hb6.mono c3.size);have c7:=ay c6 hb7;generalize dj bd=tb at*;have ha1:∀W,(Op.stringOp .add (bs bd) (bs tb)).run Tryz.prog W=.ok (.string (bs (bd++tb))) W:=fun W=>aJ (P:=Tryz.prog) bd tb (by omega) W;clear q4 q5 hb6 hb7 c6 c5;go_wp2_with fail
    go_ret2;exact⟨by rw[HZ.out];rfl,c7⟩
   ·have HZ:=af (mC (L:=L) (g:=(n:Int)) (.inr (.inr (by rw[HN.out];omega))));have f1:decide ((200:Int)<(N:Int))=true:=decide_eq_true (by omega);clear hso;go_wp2_with fail
    go_ret2;exact⟨by rw[HZ.out];rfl,c3⟩
 ·have HZ:=af (mC (L:=L) (g:=g) (.inl hg));have q1:=af (wi g (by omega) w);clear hg h hT hg64;go_enter Tryz.func35,Tryz.ntmps35
  go_wp2_with fail
  refine bL q1.out fun w1 hb1=>?_;have hb2:=hb1.alloc hb1.size (.cells #[.nilFunc,.nilFunc] 177);clear q1;go_wp2_with fail
  go_ret2;exact⟨by rw[HZ.out];rfl,hb2⟩
def Io(r:List cH×CS):List cH×Int:=if nD r.2&&(decide (r.1.length<=200)&&dh r.1) then(r.1,0) else([],9)
theorem Ap{s:List UInt8}{g:Int}(hg:1<=g/\g<=3):(eB s=none->fZ s g=([],9))/\∀b,eB s=some b->fZ s g=Io (il g (b,false)):=by
 unfold fZ Io;rw[if_neg (by omega)];exact⟨fun h=>by rw[h],fun b h=>by rw[h]⟩
def AQ(B:Nat)(r:List cH×Int)(e:Ending)(w':World):Prop:=∃v,e=.returned (.tuple #[v,.int .i64 r.2])/\aI w' v r.1/\∀k,v.ownBlock=some k->B<=k
theorem im(B:Nat)(x:Int)(w:World):AQ B ([],x) (.returned (.tuple #[.slice none 0 0,.int .i64 x])) w:=⟨_,rfl,iu.nil _,fun k e=>by cases e⟩
theorem Da(s:List UInt8)(g:Int)(w:World)(hs:s.length<=1000000)(hT:Tb w)(hg64:1<w.heap.size)(hgg:g=1):
 Calls Tryz.prog 143 #[.string (bs s),.int .i64 g] w fun e w'=>AQ w.heap.size (fZ s g) e w'/\Below w.heap.size w w':=by
 by_cases hg:1<=g/\g<=3
 ·obtain⟨n,rfl⟩:∃n:Nat,g=n:=⟨g.toNat,by omega⟩
  have q1:=af (fun W=>wg n (by omega) (by omega) W);have q2:=af (fun W=>pC s (by omega) W);have h1n:n=1:=by omega
  have HP:=af (show Kk (xX n) n by rw[h1n];exact zZ);clear hgg h1n;have HE:=af (fun args W=>(uj n args W).2);have HF:=af (show H3 n=#[.func (.func (xK n)) #[] #[],.func (.func (xX n)) #[] #[]] from rfl);have HZ0:=af (Ap (s:=s) hg);have HT:=af (And.intro hT hg64);rw[HF.out] at q1;generalize xK n=pf at*;generalize xX n=gf at*;clear HF hT hg64;go_enter Tryz.func143,Tryz.ntmps143
  go_wp2_with fail
  refine(q1.out _).mono ?_;rintro e w1 ⟨rfl,hb1⟩;have k1:=ag.new w1 177 #[.func (.func pf) #[] #[],.func (.func gf) #[] #[]];have hb2:=hb1.alloc hb1.size (.cells #[.func (.func pf) #[] #[],.func (.func gf) #[] #[]] 177);clear q1 hb1;go_wp2_with fail
  refine(q2.out _).mono ?_;unfold gS;rintro e w3 ⟨rfl,hb3⟩;have k3:=ag.below k1 hb3 k1.lt;have c3:=ay hb2 hb3;clear q2 hb3 k1 hb2;cases hgd:eB s with
  |none=>
   have HZ:=af (HZ0.out.1 hgd);clear hgd HZ0;go_wp2_with fail
   go_ret2;exact⟨by rw[HZ.out];exact im _ _ _,c3⟩
  |some b=>
   have HZ0:=af (HZ0.out.2 b hgd);have hbl:b.length<=1000000:=by have:=congrArg List.length (nV hgd);rw[aG] at this;omega
   clear hgd;have kC:=ag.new w3 210 #[.string (bs b),.bool false];have hC:gz (w3.alloc (.cells #[.string (bs b),.bool false] 210)) w3.heap.size b false:=kC;have k4:=ag.alloc k3 (.cells #[.string (bs b),.bool false] 210);have c4:=c3.alloc c3.size (.cells #[.string (bs b),.bool false] 210);have hne:1≠w3.heap.size:=by have:=HT.out.2;have:=c3.size;omega
   have q3:=af (HP.out w3.heap.size (b,false) _ hC hbl (HT.out.1.below c4 HT.out.2) (dQ HT.out.2 c4.size) hne);have y1:=ax k4 1 (.func (.func gf) #[] #[]) rfl;have he:=HE.out;clear k3 kC hC hne;obtain⟨⟨L,c⟩,hLc⟩:∃x,il n (b,false)=x:=⟨_,rfl⟩
   rw[hLc] at q3 HZ0;simp only at q3;unfold Io at HZ0;dsimp only at HZ0;clear hLc;go_wp2_with fail
   refine q3.out.mono ?_;rintro e w5 ⟨v,rfl,hL,hC5,k5,hfr⟩;have HFR:=af (fun k e=>aK c4.size (hfr k e));clear hfr;have c5:=c4.trans (k5.below c4.size fun k hk=>by have:=c3.size;omega);clear q3 y1 he k4 k5 c4 c3;have q4:=af (Km w3.heap.size c.1 c.2 w5 hC5);have hlen:=hL.len;have q5:=af (lF v L w5 hL);have HL:=af hL;obtain⟨va,vc,rfl,_⟩:=hL;obtain⟨N,hN⟩:∃N,L.length=N:=⟨_,rfl⟩
   have HN:=af hN;rw[hN] at q5 HL hlen HZ0 HFR⊢;have hdd:nE c.1 c.2=nD c:=by unfold nE nD;rw[Bool.and_comm]
   rw[hdd] at q4;clear hN hdd hC5;go_wp2_with fail
   refine q4.out.mono ?_;rintro e _ ⟨rfl,rfl⟩;clear q4;cases hd:nD c with
   |false=>
    have HZ:=af (show fZ s n=([],9) by rw[HZ0.out,hd];rfl);clear HZ0 hd;go_wp2_with fail
    go_ret2;exact⟨by rw[HZ.out];exact im _ _ _,c5⟩
   |true=>
    by_cases hl2:N<=200
    ·have f1:decide ((200:Int)<(N:Int))=false:=decide_eq_false (by omega);have hl3:decide (N<=200)=true:=decide_eq_true hl2;rw[hd,hl3,Bool.true_and,Bool.true_and] at HZ0;clear hd hl3;go_wp2_with fail
     refine bL q5.out fun w6 hb6=>?_;have c6:=ay c5 hb6;cases hso:dh L with
     |false=>
      have HZ:=af (show fZ s n=([],9) by rw[HZ0.out,hso];rfl);clear HZ0 hso;go_wp2_with fail
      go_ret2;exact⟨by rw[HZ.out];exact im _ _ _,c6⟩
     |true=>
      have HZ:=af (show fZ s n=(L,0) by rw[HZ0.out,hso];rfl);clear HZ0 hso;go_wp2_with fail
      go_ret2;exact⟨by rw[HZ.out];exact⟨_,rfl,HL.out.below hb6,HFR.out⟩,c6⟩
    ·have f1:decide ((200:Int)<(N:Int))=true:=decide_eq_true (by omega);have HZ:=af (show fZ s n=([],9) by rw[HZ0.out,decide_eq_false hl2,Bool.false_and,Bool.and_false];rfl);clear HZ0 hd;go_wp2_with fail
     go_ret2;exact⟨by rw[HZ.out];exact im _ _ _,c5⟩
 ·have HZ:=af (show fZ s g=([],1) by unfold fZ;rw[if_pos (by omega)]);have q1:=af (wi g (by omega) w);clear hg hT hg64 hgg;go_enter Tryz.func143,Tryz.ntmps143
  go_wp2_with fail
  refine bL q1.out fun w1 hb1=>?_;have hb2:=hb1.alloc hb1.size (.cells #[.nilFunc,.nilFunc] 177);clear q1;go_wp2_with fail
  go_ret2;exact⟨by rw[HZ.out];exact im _ _ _,hb2⟩
end
section
open Go.RowKit
attribute [local go_sem] am aq
theorem wX(s:List UInt8)(h:(ep s).1=none):(ep s).2≠0:=by
 have hR0:ep s=match cW s cv with
  |(g,f,r,e)=>if e≠0 then(none,e) else match dm g r.length [] r with
   |none=>(none,9)
   |some (l,K,r2,t)=>(some ⟨g,f,l,K,(s.length:Int)-r2.length,t⟩,0):=rfl
 rcases ho:cW s cv with⟨g,f,r,e⟩
 rw[ho] at hR0;simp only at hR0;by_cases he:e=0
 ·rw[if_neg (by simp[he])] at hR0;cases hr:dm g r.length [] r with
  |none=>rw[hr] at hR0;rw[hR0];exact(show (9:Int)≠0 by decide)
  |some z=>rw[hr] at hR0;rw[hR0] at h;cases h
 ·rw[if_pos he] at hR0;rw[hR0];exact he
theorem zk{s:List UInt8}{e:Ending}{W:World}(h:om s e W):∃fl ra rn rc us tn ge ka kn kc er,e=.returned (.tuple #[.agg #[.int .i64 fl,.slice ra rn rc,.int .i64 us,.bool tn,.int .i64 ge,.slice ka kn kc],.int .i64 er])/\
 ((er≠0/\(ep s).1=none)\/(er=0/\∃x,(ep s).1=some x/\x.torn=tn/\dw W (.slice ra rn rc) x.recs)):=by
 unfold om at h
 cases hr:(ep s).1 with
 |none=>
  rw[hr] at h;exact⟨_,_,_,_,_,_,_,_,_,_,_,h,.inl ⟨wX s hr,rfl⟩⟩
 |some x=>
  rw[hr] at h;obtain⟨rv,kv,h,h1,h2⟩:=h;obtain⟨ra,rc,rfl,_⟩:=id h1;obtain⟨ka,kc,rfl,_⟩:=id h2;exact⟨_,_,_,_,_,_,_,_,_,_,_,h,.inr ⟨rfl,x,rfl,rfl,h1⟩⟩
theorem Cl{s:List UInt8}{g:Int}(h:(jv s g).2=0):(jv s g).1.length<=20/\∀x∈(jv s g).1,dG x=true:=by
 have h1:=(Fe h).2;unfold dq at h1;split at h1
 ·cases h1
 ·split at h1
  ·cases h1
  ·rename_i h2 h3;exact⟨by omega,nU _ _ (by simpa using h3)⟩
theorem xG{x:En}(h:dG x=true):(0<=x.last/\x.last<=1125899906842624)/\(0<=x.off/\x.off<=1073741824)/\0<=x.len/\x.len<=1073741824:=by
 unfold dG at h;simp only[Bool.and_eq_true,decide_eq_true_eq] at h;omega
def DP(r:Option nd)(e:Ending)(w':World):Prop:=match r with
 |none=>∃f ga gn gc sa sn sc,e=.returned (.tuple #[.agg #[.int .i64 f,.slice ga gn gc,.slice sa sn sc],.bool false])
 |some b=>∃gv sv,e=.returned (.tuple #[.agg #[.int .i64 b.floor,gv,sv],.bool true])/\jE w' gv sv b
theorem vF(g:Int)(C:List UInt8):∀(l:List En) (S:List aO) (x:En),nJ g C l=some S->nJ g C (l++[x])=if (C.length:Int)<x.off+x.len then none else if (fZ ((C.drop x.off.toNat).take x.len.toNat) g).2≠0 then none else some (S++[⟨x.labels,(fZ ((C.drop x.off.toNat).take x.len.toNat) g).1,x.last⟩])
 |[],S,x,h=>by
  obtain rfl:=az h;simp only[List.nil_append,nJ]
 |y::l,S,x,h=>by
  rw[List.cons_append];unfold nJ at h⊢;split at h
  ·cases h
  ·split at h
   ·cases h
   ·rename_i h1 h2;rw[if_neg h1,if_neg h2];cases hs:nJ g C l with
    |none=>rw[hs] at h;cases h
    |some S1=>
     rw[hs] at h;obtain rfl:=az h;rw[vF g C l S1 x hs];by_cases k1:(C.length:Int)<x.off+x.len
     ·rw[if_pos k1,if_pos k1]
     ·rw[if_neg k1,if_neg k1];by_cases k2:(fZ ((C.drop x.off.toNat).take x.len.toNat) g).2≠0
      ·rw[if_pos k2,if_pos k2]
      ·rw[if_neg k2,if_neg k2,List.cons_append]
theorem pI(g:Int)(C:List UInt8):∀(l l2:List En),nJ g C l=none->nJ g C (l++l2)=none
 |[],l2,h=>by cases h
 |y::l,l2,h=>by
  rw[List.cons_append];unfold nJ at h⊢;split at h
  ·rename_i h1;rw[if_pos h1]
  ·rename_i h1;rw[if_neg h1];split at h
   ·rename_i h2;rw[if_pos h2]
   ·rename_i h2;rw[if_neg h2];cases hs:nJ g C l with
    |none=>rw[pI g C l l2 hs]
    |some S1=>rw[hs] at h;cases h
theorem sD{w W:World}{n b:Nat}{T:TypeId}{cs:Array Value}(hB:Below n w W)(hb:n<=b)(kr:ag W b T cs)(h3:cs.size=3)(u0 u1 u2:Value):
 ag (((W.setCell ⟨b,0,none⟩ u0).setCell ⟨b,1,none⟩ u1).setCell ⟨b,2,none⟩ u2) b T #[u0,u1,u2]/\Below n w (((W.setCell ⟨b,0,none⟩ u0).setCell ⟨b,1,none⟩ u1).setCell ⟨b,2,none⟩ u2)/\ak W (((W.setCell ⟨b,0,none⟩ u0).setCell ⟨b,1,none⟩ u1).setCell ⟨b,2,none⟩ u2) (fun k=>k=b):=by
 have hk:ak W (((W.setCell ⟨b,0,none⟩ u0).setCell ⟨b,1,none⟩ u1).setCell ⟨b,2,none⟩ u2) (fun k=>k=b):=((ak.of_grown (ap _ _ _ _) fun k e=>(az e).symm).trans (ak.of_grown (ap _ _ _ _) fun k e=>(az e).symm)).trans (ak.of_grown (ap _ _ _ _) fun k e=>(az e).symm)
 refine⟨?_,hB.trans (ak.below hk (Nat.le_of_lt (Nat.lt_of_le_of_lt hb kr.lt)) fun k e=>by omega),hk⟩
 have h:=((kr.set_ 0 u0).set_ 1 u1).set_ 2 u2
 match cs,h3 with
 |⟨[a,b',c]⟩,_=>exact h
theorem jE.bk{w w':World}{b:Nat}{T:TypeId}{z:Int}{gv sv:Value}{x:nd}{a1 a2:Option Addr}{n1 n2 c1 c2:Nat}(h:jE w gv sv x)(hB:ag w b T #[.int .i64 z,.slice a1 n1 c1,.slice a2 n2 c2])(hk:ak w w' (fun k=>k=b)):jE w' gv sv x:=by
 obtain⟨hf,hR,hS⟩:=h;refine⟨hf,?_,?_⟩
 ·obtain⟨a',c',rfl,h2,h3⟩:=hR;refine⟨a',c',rfl,h2,fun i y hy=>?_⟩;obtain⟨g,o,e,hok,sl,k0,k1,hL,k2,k3,k4⟩:=h3 i y hy;have hne:g≠b:=fun e=>by
   subst e;rw[ag.cell hB] at k0 k2;generalize o+i*5=j at k0 k2;match j with
   |0=>simp at k2
   |1=>simp at k0
   |2=>simp at k0
   |j+3=>simp at k0
  exact⟨g,o,e,hok,sl,hk.cell k0 hne,hk.cell k1 hne,hL.bk hB hk,hk.cell k2 hne,hk.cell k3 hne,hk.cell k4 hne⟩
 ·obtain⟨a',c',rfl,h2,h3,h4,h5⟩:=hS;refine⟨a',c',rfl,h2,h3,h4,fun i y hy=>?_⟩;obtain⟨g,o,e,hok,sl,sv,k0,hL,k1,hM,k2⟩:=h5 i y hy;obtain⟨la,lc,rfl,_⟩:=id hL;have hne:g≠b:=fun e=>by
   subst e;rw[ag.cell hB] at k0 k2;generalize o+i*3=j at k0 k2;match j with
   |0=>simp at k0
   |1=>simp at k2
   |2=>simp at k2
   |j+3=>simp at k0
  exact⟨g,o,e,hok,_,sv,hk.cell k0 hne,hL.bk hB hk,hk.cell k1 hne,hM.bk hB hk,hk.cell k2 hne⟩
theorem Ep(s:List UInt8)(g:Int):lL s g=match ep (eU cv g.toNat 0++(aA (aA s 10).2.1 1048576).1) with
 |(none,_)=>none
 |(some sg,_)=>if (aA s 10).2.2≠0\/(aA (aA s 10).2.1 1048576).2.2≠0\/(aA (aA (aA s 10).2.1 1048576).2.1 1048576).2.2≠0\/sg.torn=true\/(jv (aA (aA (aA s 10).2.1 1048576).2.1 1048576).1 g).2≠0 then none else match nJ g (aA (aA (aA s 10).2.1 1048576).2.1 1048576).2.1 (jv (aA (aA (aA s 10).2.1 1048576).2.1 1048576).1 g).1 with
  |none=>none
  |some S=>if nD (if g=1 then wN ((aA s 10).1,false) else sN ((aA s 10).1,false)) then some ⟨dH (if g=1 then wV ((aA s 10).1,false) else sV ((aA s 10).1,false)),sg.recs,S⟩ else none:=rfl
theorem Gx(s:List UInt8)(g:Int)(w:World)(hg:1<=g/\g<=3)(hl:s.length<=900000)(hT:Tb w)(hg64:1<w.heap.size)(hgg:g=1):
 Calls Tryz.prog 77 #[.string (bs s),.int .i64 g] w fun e w'=>DP (lL s g) e w'/\Below w.heap.size w w':=by
 have l1:=ig s 10
 have l2:=ig (aA s 10).2.1 1048576
 have l3:=ig (aA (aA s 10).2.1 1048576).2.1 1048576
 have HR:=af (Ep s g)
 have HGG:=af hgg
 clear hgg
 have b0:=ai w (.cells #[.int .i64 0,.slice none 0 0,.slice none 0 0] 25)
 have k0:=ag.new w 25 #[.int .i64 0,.slice none 0 0,.slice none 0 0]
 have q1:=af (fun W=>xB s W (by omega))
 have q2:=af (fun W=>FW g W)
 have hkn:fX g=true:=by unfold fX;simp[hg.1,hg.2]
 unfold yw at q2
 rw[if_pos hkn] at q2
 clear hkn
 unfold Jk oH at q1
 obtain⟨⟨fl,r1,e1⟩,hp1⟩:∃p,aA s 10=p:=⟨_,rfl⟩
 rw[hp1] at q1 HR l1 l2 l3
 simp only at q1 HR l1 l2 l3
 obtain⟨⟨go,r2,e2⟩,hp2⟩:∃p,aA r1 1048576=p:=⟨_,rfl⟩
 rw[hp2] at q1 HR l2 l3
 simp only at q1 HR l2 l3
 obtain⟨⟨wh,C,e3⟩,hp3⟩:∃p,aA r2 1048576=p:=⟨_,rfl⟩
 rw[hp3] at q1 HR l3
 simp only at q1 HR l3
 clear hp1 hp2 hp3
 obtain⟨ok,hok⟩:∃o,(((true&&decide (e1=0))&&decide (e2=0))&&decide (e3=0))=o:=⟨_,rfl⟩
 rw[hok] at q1
 have hh:(eU cv g.toNat 0).length=10:=by
  unfold eU;rw[dA];rfl
 have q3:=af (fun W=>IH (eU cv g.toNat 0++go) W (by rw[aG];omega) (fun _=>by rw[HGG.out];exact(congrArg Prod.fst (BJ 1 (by omega) (by omega) go))))
 have q4:=af (fun W=>IK wh g W (by omega) (by omega) (by omega) HGG.out)
 have ha:∀W,(Op.stringOp .add (bs (eU cv g.toNat 0)) (bs go)).run Tryz.prog W=.ok (.string (bs (eU cv g.toNat 0++go))) W:=fun W=>aJ (P:=Tryz.prog) _ _ (by rw[hh];omega) W
 have HE:=af (Cl (s:=wh) (g:=g))
 obtain⟨⟨E,e4⟩,hE⟩:∃p,jv wh g=p:=⟨_,rfl⟩
 rw[hE] at q4 HR HE
 simp only at q4 HR HE
 clear hE
 obtain⟨sgs,hs1⟩:∃p,eU cv g.toNat 0++go=p:=⟨_,rfl⟩
 rw[hs1] at q3 HR ha
 obtain⟨hdb,hs2⟩:∃p,eU cv g.toNat 0=p:=⟨_,rfl⟩
 rw[hs2] at q2 ha
 clear hs1 hs2 hh
 have HL:=af (And.intro hl (And.intro l1 (And.intro l2 (And.intro l3 (And.intro hg (And.intro hT hg64))))))
 have HOK:=af hok
 clear l1 l2 l3 hg hT hg64 hl hok
 go_enter Tryz.func77,Tryz.ntmps77
 go_wp2_with fail
 refine(q1.out _).mono ?_
 rintro e w1 ⟨rfl,hb1⟩
 have c1:=ay b0 hb1
 have k1:=ag.below k0 hb1 k0.lt
 clear q1 hb1 b0 k0
 go_wp2_with fail
 refine(q2.out _).mono ?_
 rintro e w2 ⟨rfl,hb2⟩
 have c2:=ay c1 hb2
 have k2:=ag.below k1 hb2 k1.lt
 clear q2 hb2 c1 k1
 unfold eo
 have c3:=c2.alloc c2.size (.cells #[.int .i64 g,.slice none 0 0] 78)
 have k3:=ag.alloc k2 (.cells #[.int .i64 g,.slice none 0 0] 78)
 clear k2 c2
 go_wp2_with fail
 refine(q3.out _).mono ?_
 rintro e w4 ⟨hri,hb4⟩
 obtain⟨sf,ra,rn,rc,us,tn,ge,ka,kn,kc,er,rfl,hrd⟩:=zk hri
 have c4:=ay c3 hb4
 have k4:=ag.below k3 hb4 k3.lt
 clear q3 hri hb4 c3 k3 ha
 have c5:=c4.alloc c4.size (.cells #[.int .i64 sf,.slice ra rn rc,.int .i64 us,.bool tn,.int .i64 ge,.slice ka kn kc] 204)
 have k5:=ag.alloc k4 (.cells #[.int .i64 sf,.slice ra rn rc,.int .i64 us,.bool tn,.int .i64 ge,.slice ka kn kc] 204)
 have j5:=ag.new w4 204 #[.int .i64 sf,.slice ra rn rc,.int .i64 us,.bool tn,.int .i64 ge,.slice ka kn kc]
 have d5:=ai w4 (.cells #[.int .i64 sf,.slice ra rn rc,.int .i64 us,.bool tn,.int .i64 ge,.slice ka kn kc] 204)
 have hs4:=c4.size
 go_wp2_with fail
 refine(q4.out _).mono ?_
 rintro e w6 ⟨iv,rfl,hE,hb6⟩
 have c6:=ay c5 hb6
 have k6:=ag.below k5 hb6 k5.lt
 have j6:=ag.below j5 hb6 j5.lt
 have d6:=ay d5 hb6
 clear q4 hb6 c5 k5 j5 d5 k4
 have y1:=ax j6 1 (.slice ra rn rc) rfl
 have y3:=ax j6 3 (.bool tn) rfl
 have HBAD:=af (show (ok=false\/er≠0\/tn=true\/e4≠0)->lL s g=none from fun h=>by
  rw[HR.out]
  rcases hwr:ep sgs with⟨a,b⟩
  rw[hwr] at hrd
  rcases hrd with⟨_,hw⟩|⟨h0,x,hx,ht,_⟩
  ·simp only at hw
   subst hw
   rfl
  ·simp only at hx
   subst hx
   refine if_pos ?_
   rcases h with h|h|h|h
   ·have h9:=HOK.out
    rw[h] at h9
    simp only[Bool.true_and,Bool.and_eq_false_iff,decide_eq_false_iff_not] at h9
    rcases h9 with(h9|h9)|h9
    ·exact .inl h9
    ·exact .inr (.inl h9)
    ·exact .inr (.inr (.inl h9))
   ·exact absurd h0 h
   ·exact .inr (.inr (.inr (.inl (ht.trans h))))
   ·exact .inr (.inr (.inr (.inr h))))
 have HGOOD:=af (show (ok=true/\er=0/\tn=false/\e4=0)->∃R,dw w4 (.slice ra rn rc) R/\lL s g=match nJ g C E with
  |none=>none
  |some S=>if nD (if g=1 then wN (fl,false) else sN (fl,false)) then some ⟨dH (if g=1 then wV (fl,false) else sV (fl,false)),R,S⟩ else none from fun ⟨g1,g2,g3,g4⟩=>by
  rw[HR.out]
  rcases hwr:ep sgs with⟨a,b⟩
  rw[hwr] at hrd
  rcases hrd with⟨hw,_⟩|⟨_,x,hx,ht,hr⟩
  ·exact absurd g2 hw
  ·simp only at hx
   subst hx
   refine⟨_,hr,if_neg ?_⟩
   have h9:=HOK.out
   rw[g1] at h9
   simp only[Bool.true_and,Bool.and_eq_true,decide_eq_true_eq] at h9
   rintro(h|h|h|h|h)
   ·exact h h9.1.1
   ·exact h h9.1.2
   ·exact h h9.2
   ·rw[ht,g3] at h;cases h
   ·exact h g4)
 clear hrd HR HOK
 have HNO:=af (fun (h:lL s g=none) e W (v:∃f ga gn gc sa sn sc,e=.returned (.tuple #[.agg #[.int .i64 f,.slice ga gn gc,.slice sa sn sc],.bool false])) (hb:Below w.heap.size w W)=>show DP (lL s g) e W/\Below w.heap.size w W from⟨by rw[h];exact v,hb⟩)
 have p0:=ax k6 0 (.int .i64 0) rfl
 have p1:=ax k6 1 (.slice none 0 0) rfl
 have p2:=ax k6 2 (.slice none 0 0) rfl
 have r0:=ag.frozen k6 0
 have r1:=ag.frozen k6 1
 have r2:=ag.frozen k6 2
 have HK6:=af (And.intro k6 (And.intro j6 (And.intro c6 (And.intro d6 hE))))
 clear k6 j6 c6 d6 hE c4
 obtain⟨ea,ec,rfl,_,_,_,hx6⟩:=id HK6.out.2.2.2.2
 have HX6:=af hx6
 clear hx6
 have FIN:∀W,W=((w6.setCell ⟨w.heap.size,0,none⟩ (.int .i64 0)).setCell ⟨w.heap.size,1,none⟩ (.slice none 0 0)).setCell ⟨w.heap.size,2,none⟩ (.slice none 0 0)->ag W w.heap.size 25 #[.int .i64 0,.slice none 0 0,.slice none 0 0]/\Below w.heap.size w W:=fun W e=>by
  subst e;refine⟨((HK6.out.1.set_ 0 _).set_ 1 _).set_ 2 _,HK6.out.2.2.1.trans (ak.below (S:=fun k=>k=w.heap.size) (((ak.of_grown (ap _ _ _ _) fun k e=>(az e).symm).trans (ak.of_grown (ap _ _ _ _) fun k e=>(az e).symm)).trans (ak.of_grown (ap _ _ _ _) fun k e=>(az e).symm)) HK6.out.2.2.1.size fun k e=>by omega)⟩
 have HF:=af FIN
 clear FIN
 by_cases hbad:ok=false\/er≠0\/tn=true\/e4≠0
 ·have HZ:=af (HBAD.out hbad);have hcs:ok=false\/(ok=true/\(er==0)=false/\decide (er=0)=false)\/(ok=true/\er=0/\tn=true)\/(ok=true/\er=0/\tn=false/\(e4==0)=false/\decide (e4=0)=false):=by
   cases ok with
   |false=>exact .inl rfl
   |true=>
    by_cases h:er=0
    ·cases tn with
     |true=>exact .inr (.inr (.inl ⟨rfl,h,rfl⟩))
     |false=>
      refine .inr (.inr (.inr ⟨rfl,h,rfl,?_⟩));rcases hbad with h'|h'|h'|h'
      ·cases h'
      ·exact absurd h h'
      ·cases h'
      ·exact⟨by simpa using h',decide_eq_false h'⟩
    ·exact .inr (.inl ⟨rfl,by simpa using h,decide_eq_false h⟩)
  clear hbad HBAD HGOOD;rcases hcs with rfl|⟨rfl,hx,hx2⟩|⟨rfl,rfl,rfl⟩|⟨rfl,rfl,rfl,hx,hx2⟩
  ·go_wp2_with fail
   all_goals (have HFX:=af (HF.out _ rfl);refine i6 HFX.out.1 Tryz.underlying25 ?_;exact HNO.out HZ.out _ _ ⟨_,_,_,_,_,_,_,rfl⟩ HFX.out.2)
  ·go_wp2_with fail
   all_goals (have HFX:=af (HF.out _ rfl);refine i6 HFX.out.1 Tryz.underlying25 ?_;exact HNO.out HZ.out _ _ ⟨_,_,_,_,_,_,_,rfl⟩ HFX.out.2)
  ·go_wp2_with fail
   all_goals (have HFX:=af (HF.out _ rfl);refine i6 HFX.out.1 Tryz.underlying25 ?_;exact HNO.out HZ.out _ _ ⟨_,_,_,_,_,_,_,rfl⟩ HFX.out.2)
  ·go_wp2_with fail
   all_goals (have HFX:=af (HF.out _ rfl);refine i6 HFX.out.1 Tryz.underlying25 ?_;exact HNO.out HZ.out _ _ ⟨_,_,_,_,_,_,_,rfl⟩ HFX.out.2)
 obtain⟨rfl,rfl,rfl,rfl⟩:ok=true/\er=0/\tn=false/\e4=0:=by
  refine⟨?_,?_,?_,?_⟩
  ·cases ok with
   |true=>rfl
   |false=>exact absurd (.inl rfl) hbad
  ·exact Classical.byContradiction fun h=>hbad (.inr (.inl h))
  ·cases tn with
   |false=>rfl
   |true=>exact absurd (.inr (.inr (.inl rfl))) hbad
  ·exact Classical.byContradiction fun h=>hbad (.inr (.inr (.inr h)))
 obtain⟨R,hR,hrk⟩:=HGOOD.out ⟨rfl,rfl,rfl,rfl⟩
 have HRK:=af hrk
 have HHR:=af hR
 have HEE:=af (HE.out rfl)
 clear hrk hR hbad HBAD HGOOD HE
 have y1:=ax (ag.alloc HK6.out.2.1 (.cells #[.string (bs fl),.bool false] 210)) 1 (.slice ra rn rc) rfl
 obtain⟨m1,m2,m3,m4⟩:gz ((w6.alloc (.cells #[.string (bs fl),.bool false] 210)).alloc (.cells #[.int .i64 0,.slice ra rn rc,.slice none 0 0] 25)) w6.heap.size fl false/\ag ((w6.alloc (.cells #[.string (bs fl),.bool false] 210)).alloc (.cells #[.int .i64 0,.slice ra rn rc,.slice none 0 0] 25)) (w6.heap.size+1) 25 #[.int .i64 0,.slice ra rn rc,.slice none 0 0]/\Below w6.heap.size w6 ((w6.alloc (.cells #[.string (bs fl),.bool false] 210)).alloc (.cells #[.int .i64 0,.slice ra rn rc,.slice none 0 0] 25))/\w6.heap.size+2<=((w6.alloc (.cells #[.string (bs fl),.bool false] 210)).alloc (.cells #[.int .i64 0,.slice ra rn rc,.slice none 0 0] 25)).heap.size:=by
  have h2:=ag.new (w6.alloc (.cells #[.string (bs fl),.bool false] 210)) 25 #[.int .i64 0,.slice ra rn rc,.slice none 0 0];rw[aW] at h2;have b:=ai w6 (.cells #[.string (bs fl),.bool false] 210);exact⟨ag.alloc (ag.new w6 210 #[.string (bs fl),.bool false]) _,h2,b.alloc b.size _,by rw[aW,aW];omega⟩
 have HM:=af (And.intro m1 (And.intro m2 (And.intro m3 m4)))
 clear m1 m2 m3 m4 p0 p1 p2 r0 r1 r2
 obtain⟨cs,hcs⟩:∃c,(if g=1 then wN (fl,false) else sN (fl,false))=c:=⟨_,rfl⟩
 obtain⟨fv,hfv⟩:∃v,(if g=1 then wV (fl,false) else sV (fl,false))=v:=⟨_,rfl⟩
 rw[hcs,hfv] at HRK
 have HCS:=af (And.intro hcs hfv)
 clear hcs hfv
 go_upto_if 72 with fail
 generalize hW7:(w6.alloc (.cells #[.string (bs fl),.bool false] 210)).alloc (.cells #[.int .i64 0,.slice ra rn rc,.slice none 0 0] 25)=w7 at*
 clear hW7 y1 y3
 have hfl:fl.length<=1099511627776:=by have:=HL.out;omega
 go_cut [] (fun wx=>gz wx w6.heap.size cs.1 cs.2/\ag wx (w6.heap.size+1) 25 #[.int .i64 (dH fv),.slice ra rn rc,.slice none 0 0]/\Below w6.heap.size w6 wx/\w6.heap.size+2<=wx.heap.size)
 case first=>
  obtain⟨m1,m2,m3,m4⟩:=HM.out;have hcs:=HCS.out;by_cases h1:g=1
  ·rw[if_pos h1,if_pos h1] at hcs;have h1b:(g==1)=true:=by simpa using h1
   have h1d:decide (g=1)=true:=decide_eq_true h1;clear h1;have q5:=LA w6.heap.size (fl,false) w7 m1 hfl;rw[hcs.1,hcs.2] at q5;have q6:=af q5;have HMM:=af (And.intro m2 (And.intro m3 m4));clear hcs q5 m1 m2 m3 m4;go_wp2_with fail
   refine q6.out.mono ?_;rintro e w8 ⟨rfl,n1,hg8⟩;obtain⟨m2,m3,m4⟩:=HMM.out;have n2:=ag.grown m2 hg8 (fun e=>by have:=az e;omega);have x0:=ax n2 0 (.int .i64 0) rfl;have f0:=ag.frozen n2 0;have hk8:ak w7 w8 (fun k=>k=w6.heap.size):=ak.of_grown hg8 fun k e=>(az e).symm;have hk9:ak w8 (w8.setCell ⟨w6.heap.size+1,0,none⟩ (.int .i64 (dH fv))) (fun k=>k=w6.heap.size+1):=ak.of_grown (ap _ _ _ _) fun k e=>(az e).symm;have HX:=af (show gz (w8.setCell ⟨w6.heap.size+1,0,none⟩ (.int .i64 (dH fv))) w6.heap.size cs.1 cs.2/\ag (w8.setCell ⟨w6.heap.size+1,0,none⟩ (.int .i64 (dH fv))) (w6.heap.size+1) 25 #[.int .i64 (dH fv),.slice ra rn rc,.slice none 0 0]/\Below w6.heap.size w6 (w8.setCell ⟨w6.heap.size+1,0,none⟩ (.int .i64 (dH fv)))/\w6.heap.size+2<=(w8.setCell ⟨w6.heap.size+1,0,none⟩ (.int .i64 (dH fv))).heap.size from
    ⟨ag.far n1 (show w6.heap.size≠w6.heap.size+1 by omega) _,ag.set_ n2 0 _,m3.trans ((hk8.below m3.size fun k e=>by omega).trans (hk9.below (m3.trans (hk8.below m3.size fun k e=>by omega)).size fun k e=>by omega)),aK m4 (aK hk8.size hk9.size)⟩)
   clear m2 m3 m4 n1 n2 hg8 hk8 hk9;go_wp2_with fail
   go_meet;rw[show wrap64 fv=dH fv by rw[tW];first|rfl|(unfold wrap64;omega)];exact HX.out
  ·rw[if_neg h1,if_neg h1] at hcs;have h1b:(g==1)=false:=by simpa using h1
   have h1d:decide (g=1)=false:=decide_eq_false h1;clear h1;have q5:=Mc w6.heap.size (fl,false) w7 m1 hfl;rw[hcs.1,hcs.2] at q5;have q6:=af q5;have HMM:=af (And.intro m2 (And.intro m3 m4));clear hcs q5 m1 m2 m3 m4;go_wp2_with fail
   refine q6.out.mono ?_;rintro e w8 ⟨rfl,n1,hg8⟩;obtain⟨m2,m3,m4⟩:=HMM.out;have n2:=ag.grown m2 hg8 (fun e=>by have:=az e;omega);have x0:=ax n2 0 (.int .i64 0) rfl;have f0:=ag.frozen n2 0;have hk8:ak w7 w8 (fun k=>k=w6.heap.size):=ak.of_grown hg8 fun k e=>(az e).symm;have hk9:ak w8 (w8.setCell ⟨w6.heap.size+1,0,none⟩ (.int .i64 (dH fv))) (fun k=>k=w6.heap.size+1):=ak.of_grown (ap _ _ _ _) fun k e=>(az e).symm;have HX:=af (show gz (w8.setCell ⟨w6.heap.size+1,0,none⟩ (.int .i64 (dH fv))) w6.heap.size cs.1 cs.2/\ag (w8.setCell ⟨w6.heap.size+1,0,none⟩ (.int .i64 (dH fv))) (w6.heap.size+1) 25 #[.int .i64 (dH fv),.slice ra rn rc,.slice none 0 0]/\Below w6.heap.size w6 (w8.setCell ⟨w6.heap.size+1,0,none⟩ (.int .i64 (dH fv)))/\w6.heap.size+2<=(w8.setCell ⟨w6.heap.size+1,0,none⟩ (.int .i64 (dH fv))).heap.size from
    ⟨ag.far n1 (show w6.heap.size≠w6.heap.size+1 by omega) _,ag.set_ n2 0 _,m3.trans ((hk8.below m3.size fun k e=>by omega).trans (hk9.below (m3.trans (hk8.below m3.size fun k e=>by omega)).size fun k e=>by omega)),aK m4 (aK hk8.size hk9.size)⟩)
   clear m2 m3 m4 n1 n2 hg8 hk8 hk9;go_wp2_with fail
   go_meet;rw[show wrap64 fv=dH fv by rw[tW];first|rfl|(unfold wrap64;omega)];exact HX.out
 case rest=>
  obtain⟨n1,n2,n3,n4⟩:=hcut;clear HCS;have HB6:=af (And.intro HK6.out.1 (And.intro HK6.out.2.2.1 (HHR.out.below HK6.out.2.2.2.1)));have h20:=HEE.out.1;clear HHR HK6 HF HM hs4;obtain⟨N,hN⟩:∃N,E.length=N:=⟨_,rfl⟩
  have HN:=af hN;rw[hN] at h20⊢;clear hN;go_wp2_with fail
  go_loopw [81] (fun vi wr=>∃(i:Nat) (Z:List (aO×Value×Value)) (za:Option Addr) (zc:Nat),i<=N/\vi=.int .i64 (i:Int)/\Below w6.heap.size w6 wr/\w6.heap.size+2<=wr.heap.size/\gz wr w6.heap.size cs.1 cs.2/\ag wr (w6.heap.size+1) 25 #[.int .i64 (dH fv),.slice ra rn rc,.slice za i zc]/\wr.ownsRow (w6.heap.size+2) 88 3 (.slice za i zc) i (aL eT Z)/\(∀z∈Z,ix wr (.slice za i zc) z)/\Hid (Z.length=i/\nJ g C (E.take i)=some (Z.map fun z=>z.1))) (fun vi _=>N-(intOf vi).toNat)
  case atStart=>exact⟨0,[],none,0,Nat.zero_le _,rfl,n3,n4,n1,n2,eE,by simp,af ⟨rfl,rfl⟩⟩
  clear n1 n2 n3 n4;obtain⟨i,Z,za,zc,hi,rfl,b3,b4,n1,n2,hrow,hF,HS⟩:=hrel;have HR:=af (And.intro b3 (And.intro b4 (And.intro n1 (And.intro n2 (And.intro hrow hF)))));rcases(show i<N\/i=N by omega) with hil|rfl
  ·have hiE:i<E.length:=by rw[HN.out];exact hil
   obtain⟨x,hxe⟩:∃x,E[i]=x:=⟨_,rfl⟩
   have hx:=aV hiE;have hxm:=HEE.out.2 _ (dK hiE);have HSN:=af (vF g C (E.take i) _ E[i] HS.out.2);have HTN:=af (show E.take i++[E[i]]=E.take (i+1) from by simp);rw[hxe] at hx hxm HSN HTN;clear hxe hiE;obtain⟨hok,b,o,rfl,a',c',d0,hL,d1,d2,d3⟩:=HX6.out i x hx;have hrp:=xG hxm;obtain⟨xl,xt,xo,xn⟩:=x;simp only at d0 d1 d2 d3 hL hrp;have e0:=cu b3 d0;have e1:=cu b3 d1;have e2:=cu b3 d2;have e3:=cu b3 d3;have kA:=ag.new wr 92 #[.slice a' xl.length c',.int .i64 xt,.int .i64 xo,.int .i64 xn];obtain⟨⟨y0,y1,y2,y3⟩,_⟩:=dt kA;have hlc:=HL.out;have hadd:IntKind.i64.wrap (xo+xn)=xo+xn:=ct _ (by omega);have b3w:=af b3;have HLX:=af (And.intro hL (And.intro hok d0));clear d0 d1 d2 d3 hL hx hxm b3 n1 n2 hrow hF hlc;by_cases hbd:(C.length:Int)<xo+xn
   ·have hbt:decide ((C.length:Int)<xo+xn)=true:=decide_eq_true hbd;have HZ:=af (show lL s g=none by
     have h:=HSN.out
     rw[if_pos hbd,HTN.out] at h
     rw[HRK.out,show E=E.take (i+1)++E.drop (i+1) from(List.take_append_drop _ _).symm,pI g C _ _ h])
    have kr:=ag.below (ag.below HB6.out.1 b3w.out HB6.out.1.lt) (ai wr (.cells #[.slice a' xl.length c',.int .i64 xt,.int .i64 xo,.int .i64 xn] 92)) (ag.lt (ag.below HB6.out.1 b3w.out HB6.out.1.lt));have bw:=(HB6.out.2.1.trans (b3w.out.mono HB6.out.2.1.size)).alloc (HB6.out.2.1.trans (b3w.out.mono HB6.out.2.1.size)).size (.cells #[.slice a' xl.length c',.int .i64 xt,.int .i64 xo,.int .i64 xn] 92);clear hbd HSN HTN HS HR HX6 HEE HLX HL;have p0:=ax kr 0 (.int .i64 0) rfl;have p1:=ax kr 1 (.slice none 0 0) rfl;have p2:=ax kr 2 (.slice none 0 0) rfl;have r0:=ag.frozen kr 0;have r1:=ag.frozen kr 1;have r2:=ag.frozen kr 2;have HKR:=af (And.intro kr bw);clear kr bw;go_wp2_with fail
    refine i6 (((HKR.out.1.set_ 0 (.int .i64 0)).set_ 1 (.slice none 0 0)).set_ 2 (.slice none 0 0)) Tryz.underlying25 ?_;exact HNO.out HZ.out _ _ ⟨_,_,_,_,_,_,_,rfl⟩ (HKR.out.2.trans (ak.below (S:=fun k=>k=w.heap.size) (((ak.of_grown (ap _ _ _ _) fun k e=>(az e).symm).trans (ak.of_grown (ap _ _ _ _) fun k e=>(az e).symm)).trans (ak.of_grown (ap _ _ _ _) fun k e=>(az e).symm)) HKR.out.2.size fun k e=>by omega))
   ·have hbf:decide ((C.length:Int)<xo+xn)=false:=decide_eq_false hbd;obtain⟨on,hon⟩:∃n:Nat,xo=n:=⟨xo.toNat,by omega⟩
    obtain⟨ln,hln⟩:∃n:Nat,xn=n:=⟨xn.toNat,by omega⟩
    subst hon;subst hln;have hex:(bs C).extract on (on+ln)=bs ((C.drop on).take ln):=by rw[bZ,Nat.add_sub_cancel_left]
    have htn:((on:Int)+(ln:Int)).toNat=on+ln:=by omega
    have htn2:((on:Int)).toNat=on:=by omega
    have hsl:(on:Int)+(ln:Int)<=(C.length:Int):=by omega
    have hT6:=HL.out.2.2.2.2.2;have bw:=(HB6.out.2.1.trans (b3w.out.mono HB6.out.2.1.size)).alloc (HB6.out.2.1.trans (b3w.out.mono HB6.out.2.1.size)).size (.cells #[.slice a' xl.length c',.int .i64 xt,.int .i64 (on:Int),.int .i64 (ln:Int)] 92);have q:=af (Da ((C.drop on).take ln) g _ (by rw[dp,List.length_drop];have:=HL.out;omega) (hT6.1.below bw hT6.2) (dQ hT6.2 bw.size) HGG.out);clear hT6 bw;rw[Int.toNat_natCast,Int.toNat_natCast,if_neg hbd] at HSN;obtain⟨⟨sm,ce⟩,hce⟩:∃p,fZ ((C.drop on).take ln) g=p:=⟨_,rfl⟩
    rw[hce] at q HSN;clear hce;simp only at HSN;go_wp2_with fail
    refine q.out.mono ?_;rintro e w9 ⟨⟨v,rfl,hsm,hfr⟩,hb9⟩;have b9:=b3w.out.trans (((ai wr (.cells #[.slice a' xl.length c',.int .i64 xt,.int .i64 (on:Int),.int .i64 (ln:Int)] 92)).trans (hb9.mono (ai wr _).size)).mono b3w.out.size);have kr:=ag.below HB6.out.1 b9 HB6.out.1.lt;have bw:=HB6.out.2.1.trans (b9.mono HB6.out.2.1.size);obtain⟨va,vc,rfl,_⟩:=id hsm;simp only at hsm hfr⊢;have HSM:=af (And.intro hsm (And.intro hfr hb9));clear q hsm hfr hb9 b9;by_cases hc0:ce=0
    ·subst hc0;rw[if_neg (by simp),HTN.out] at HSN;clear kr bw;obtain⟨b3,b4,n1,n2,hrow,hF⟩:=HR.out;obtain⟨hsm,hfr,hb9⟩:=HSM.out;obtain⟨hL6,hok,hd0⟩:=HLX.out;have bb:=(ai wr (.cells #[.slice a' xl.length c',.int .i64 xt,.int .i64 (on:Int),.int .i64 (ln:Int)] 92)).trans (hb9.mono (ai wr _).size);have m2:=ag.below n2 bb n2.lt;have kA9:=ag.below kA hb9 kA.lt;obtain⟨⟨y0,y1,y2,y3⟩,_⟩:=dt kA9;have c2:=ax m2 2 (.slice za i zc) rfl;have hlt:=hrow.lt;have row9:=aw hrow (ak.of_below (S:=fun _=>False) bb) (fun _ _ e=>e);have hs9:=bb.size;have hnb:¬((Value.slice za i zc).ownBlock=some (w6.heap.size+1)):=fun e=>by have:=(hlt _ e).1;omega
     have HX9:=af (And.intro b3 (And.intro n1 hF));have HBB:=af bb;have HL9:=af (And.intro hL6 (And.intro hok (And.intro hsm hfr)));have hw9:IntKind.i64.wrap ((i:Int)+1)=(i:Int)+1:=ct _ (by omega);clear b3 n1 n2 hF hsm hfr hb9 hL6 hok hd0 bb kA9 kA hrow HSM HLX HR;go_wp2_with (at_builtin;(refine l7 ii rfl _ _ rfl rfl row9 [.slice a' xl.length c',.slice va sm.length vc,.int .i64 xt] rfl rfl rfl (by simp[Value.oneCell']) (by omega) (by omega) ?_);intro sa' sc' w10 hown' hk10 hloc;have m10:=ag.keptK m2 hk10 hnb;have c10:=ax m10 2 (.slice za i zc) rfl;have f10:=ag.frozen m10 2)
     have hkk:ak w10 (w10.setCell ⟨w6.heap.size+1,2,none⟩ (.slice sa' (i+1) sc')) (fun k=>k=w6.heap.size+1):=ak.of_grown (ap _ _ _ _) fun k e=>(az e).symm;obtain⟨b3,n1,hF⟩:=HX9.out;have bb:=HBB.out;obtain⟨hL6,hok,hsm,hfr⟩:=HL9.out;have B9:=ay b3 bb;have B10:=B9.trans (hk10.below B9.size fun k e=>by have:=(hlt k e).1;omega);have hlt2:=hown'.lt;have hsA:wr.heap.size<=(wr.alloc (.cells #[.slice a' xl.length c',.int .i64 xt,.int .i64 (on:Int),.int .i64 (ln:Int)] 92)).heap.size:=by rw[aW];omega
     have HC:=af (show Below w6.heap.size w6 (w10.setCell ⟨w6.heap.size+1,2,none⟩ (.slice sa' (i+1) sc'))/\w6.heap.size+2<=(w10.setCell ⟨w6.heap.size+1,2,none⟩ (.slice sa' (i+1) sc')).heap.size/\gz (w10.setCell ⟨w6.heap.size+1,2,none⟩ (.slice sa' (i+1) sc')) w6.heap.size cs.1 cs.2/\ag (w10.setCell ⟨w6.heap.size+1,2,none⟩ (.slice sa' (i+1) sc')) (w6.heap.size+1) 25 #[.int .i64 (dH fv),.slice ra rn rc,.slice sa' (i+1) sc']/\(w10.setCell ⟨w6.heap.size+1,2,none⟩ (.slice sa' (i+1) sc')).ownsRow (w6.heap.size+2) 88 3 (.slice sa' (i+1) sc') (i+1) (aL eT (Z++[((⟨xl,sm,xt⟩:aO),Value.slice a' xl.length c',Value.slice va sm.length vc)]))/\(∀z∈Z++[((⟨xl,sm,xt⟩:aO),Value.slice a' xl.length c',Value.slice va sm.length vc)],ix (w10.setCell ⟨w6.heap.size+1,2,none⟩ (.slice sa' (i+1) sc')) (.slice sa' (i+1) sc') z) from by
      have hst:∀z,ix w9 (.slice za i zc) z->ix (w10.setCell ⟨w6.heap.size+1,2,none⟩ (.slice sa' (i+1) sc')) (.slice sa' (i+1) sc') z:=fun z hz=>by
       have h1:=hz.turn hloc
       have h2:=hz.kept hk10
       exact⟨⟨h2.1.1,h2.1.2.1.bk m10 hkk,h2.1.2.2.bk m10 hkk⟩,h1.2⟩
      refine⟨B10.trans (hkk.below B10.size fun k e=>by omega),aK b4 (aK bb.size (aK hk10.size hkk.size)),ag.far (ag.keptK (ag.below n1 bb n1.lt) hk10 (fun e=>by have:=(hlt _ e).1;omega)) (show w6.heap.size≠w6.heap.size+1 by omega) _,ag.set_ m10 2 _,by rw[dO,gE];exact aw hown' hkk fun b e e2=>by have:=(hlt2 b e).1;omega,fun z hz=>?_⟩
      rcases List.mem_append.1 hz with hz|hz
      ·exact hst z ((hF z hz).below bb)
      ·obtain rfl:=List.mem_singleton.1 hz
       exact hst _ ⟨⟨⟨eq hsm,hok.1⟩,hL6.below B9,hsm⟩,mp hL6 fun k e=>by have:=(hlt k e).1;omega,pd (fun k e=>(hlt k e).2) fun k e=>aK hsA (hfr k e)⟩)
     clear hkk b3 n1 hF bb hL6 hok hsm hfr B9 B10 hlt2 hsA hown' hk10 hloc m10 c10 f10 m2 c2 y0 y1 y2 y3 hlt row9 hnb e0 e1 e2 e3 HX9 HBB HL9;go_roundw
     case rel=>
      obtain⟨k1,k2,k3,k4,k5,k6⟩:=HC.out;exact⟨i+1,_,sa',sc',hil,by go_num,k1,k2,k3,k4,k5,k6,af ⟨by rw[aG,HS.out.1];rfl,by rw[HSN.out,List.map_append];rfl⟩⟩
     case measure=>simp[intOf];omega
    ·have hcb:(ce==0)=false:=by simpa using hc0
     have hcd:decide (ce=0)=false:=decide_eq_false hc0;have HZ:=af (show lL s g=none by
      have h:=HSN.out
      rw[if_pos hc0,HTN.out] at h
      rw[HRK.out,show E=E.take (i+1)++E.drop (i+1) from(List.take_append_drop _ _).symm,pI g C _ _ h])
     clear hc0 HSN HTN HS HR HX6 HEE HLX HL HSM;have p0:=ax kr 0 (.int .i64 0) rfl;have p1:=ax kr 1 (.slice none 0 0) rfl;have p2:=ax kr 2 (.slice none 0 0) rfl;have r0:=ag.frozen kr 0;have r1:=ag.frozen kr 1;have r2:=ag.frozen kr 2;have HKR:=af (And.intro kr bw);clear kr bw;go_wp2_with fail
     refine i6 (((HKR.out.1.set_ 0 (.int .i64 0)).set_ 1 (.slice none 0 0)).set_ 2 (.slice none 0 0)) Tryz.underlying25 ?_;exact HNO.out HZ.out _ _ ⟨_,_,_,_,_,_,_,rfl⟩ (HKR.out.2.trans (ak.below (S:=fun k=>k=w.heap.size) (((ak.of_grown (ap _ _ _ _) fun k e=>(az e).symm).trans (ak.of_grown (ap _ _ _ _) fun k e=>(az e).symm)).trans (ak.of_grown (ap _ _ _ _) fun k e=>(az e).symm)) HKR.out.2.size fun k e=>by omega))
  ·have hEi:E.take i=E:=by rw[<-HN.out];exact List.take_length
   obtain⟨b3,b4,n1,n2,hrow,hF⟩:=HR.out;have HSI:=af (show nJ g C E=some (Z.map fun z=>z.1) from by rw[<-hEi];exact HS.out.2);have hat:=cV hrow HS.out.1 (by rw[HS.out.1];omega) fun z hz=>(⟨(hF z hz).1.1,(hF z hz).1.2.1,(hF z hz).1.2.2⟩)
   have hd:=af (fun W (hW:co wr W)=>Km w6.heap.size cs.1 cs.2 W (ag.below n1 hW n1.lt));have g0:=aj (ax n2 0 (.int .i64 (dH fv)) rfl);have g1:=aj (ax n2 1 (.slice ra rn rc) rfl);have g2:=aj (ax n2 2 (.slice za i zc) rfl);clear hEi;go_wp2_with fail
   refine cB (R:=co) 2 100 (by kernel_rfl) (by kernel_rfl) (by kernel_rfl) ?_;simp only[List.take_succ_cons,List.take_zero,List.drop_succ_cons,List.drop_zero]
   (refine bJ fun K hK=>?_;go_big_quiet_step (fail);refine hK _ ?_;clear hK K)
   (refine fS (f:=144) (args:=#[.pointer (some ⟨w6.heap.size,0,none⟩)]) (v:=.bool (nE cs.1 cs.2)) (fun W hW=>(hd.out W hW).mono fun e w' h=>⟨h.1,by rw[<-h.2];exact bR⟩) fun K hK=>?_;go_big_quiet_step (fail);refine hK _ ?_;clear hK K);refine eR ?_;intro w7 hb7;simp only[aB];unfold bF;have m7:=ag.below (ag.below HB6.out.1 b3 HB6.out.1.lt) hb7 (dQ HB6.out.1.lt b3.size);have bw:=HB6.out.2.1.trans ((ay b3 hb7).mono HB6.out.2.1.size);have HBL:=af (show jE w7 (.slice ra rn rc) (.slice za i zc) ⟨dH fv,R,Z.map fun z=>z.1⟩ from⟨su _,HB6.out.2.2.below (ay b3 hb7),hat.below hb7⟩);have p0:=ax m7 0 (.int .i64 0) rfl;have p1:=ax m7 1 (.slice none 0 0) rfl;have p2:=ax m7 2 (.slice none 0 0) rfl;have r0:=ag.frozen m7 0;have r1:=ag.frozen m7 1;have r2:=ag.frozen m7 2;have HKR:=af (sD bw (aF _) m7 rfl (.int .i64 (dH fv)) (.slice ra rn rc) (.slice za i zc));have HM7:=af m7;have HRD:=af (show lL s g=if nE cs.1 cs.2 then some ⟨dH fv,R,Z.map fun z=>z.1⟩ else none by
    rw[HRK.out,HSI.out]
    show (if nD cs then _ else _)=_
    unfold nD nE
    rw[Bool.and_comm])
   clear m7 bw hat hd g0 g1 g2 b3 b4 n1 n2 hrow hF hb7;generalize nE cs.1 cs.2=dn at*;go_wp2_with fail
   refine i6 HKR.out.1 Tryz.underlying25 ?_;refine⟨?_,HKR.out.2.1⟩;rw[HRD.out];cases dn with
   |false=>exact⟨_,_,_,_,_,_,_,rfl⟩
   |true=>exact⟨_,_,rfl,HBL.out.bk HM7.out HKR.out.2.2⟩
end
end Go.Proofs.YtcdgfajdlaeodaaGreatDoor
