/- Part 5 of the proof: contracts of functions, and plain laws. -/
import Derived.Test.YtcdgfajdlaeodaaGreatDoorS4
import Derived.Lib.AppendZerosOnto
import Derived.Lib.Overlaps
import Derived.Shelf.Spec.TrailingZeros
set_option maxRecDepth 100000
set_option maxHeartbeats 4000000
namespace Go.Proofs.YtcdgfajdlaeodaaGreatDoor
section
open Go.RowKit Go.Maps Go.WideMaps
attribute [local go_sem] am aq
def mx:List Lb->List UInt8->List UInt8
 |[],_=>[]
 |y::l,n=>if y.1=n then y.2 else mx l n
theorem JI{L:List Lb}{n:List UInt8}{i:Nat}(h:i<L.length):mx (L.drop i) n=if L[i].1=n then L[i].2 else mx (L.drop (i+1)) n:=by
 rw[List.drop_eq_getElem_cons h,mx]
theorem IJ(L:List Lb)(v:Value)(n:List UInt8)(w:World)(h:aC w v L):
 Calls Tryz.prog 259 #[v,.string (bs n)] w fun e w'=>e=.returned (.string (bs (mx L n)))/\Below w.heap.size w w':=by
 obtain⟨a,c,rfl,hl,hx⟩:=h
 have HX:=af hx
 clear hx
 have h0:mx L n=mx (L.drop 0) n:=rfl
 have HAT:=af (fun i (h:i<L.length)=>JI (n:=n) h)
 have H0:=af h0
 clear h0
 generalize mx L n=R at*
 go_enter Tryz.func259,Tryz.ntmps259
 go_wp2_with fail
 go_loopw [9] (fun vi wr=>∃i:Nat,i<=L.length/\vi=.int .i64 (i:Int)/\Below w.heap.size w wr/\Hid (R=mx (L.drop i) n)) (fun vi _=>L.length-(intOf vi).toNat)
 case atStart=>exact⟨0,Nat.zero_le _,rfl,bR,H0⟩
 clear H0
 obtain⟨i,hi,rfl,hb,HR⟩:=hrel
 rcases(show i<L.length\/i=L.length by omega) with hil|rfl
 ·obtain⟨h1,h2,b,o,rfl,d0,d1⟩:=HX.out i L[i] (aV hil);have e0:=cu hb d0;have e1:=cu hb d1;have HA:=HAT.out i hil;rw[HA] at HR;clear d0 d1 HA HAT;generalize L[i]=y at*;by_cases hn:y.1=n
  ·have HR2:=af (show R=y.2 by rw[HR.out,if_pos hn]);have f1:(y.1==n)=true:=by simpa using hn
   clear HR hn;go_wp2_with fail
   go_ret;exact⟨by rw[HR2.out];rfl,hb.alloc hb.size _⟩
  ·have HR2:=af (show R=mx (L.drop (i+1)) n by rw[HR.out,if_neg hn]);have f1:(y.1==n)=false:=by simpa using hn
   clear HR hn;go_wp2_with fail
   go_roundw
   case rel=>exact⟨i+1,by omega,by go_num,hb.alloc hb.size _,HR2⟩
   case measure=>simp[intOf];omega
 ·have HR2:=af (show R=[] by rw[HR.out,List.drop_length];rfl);go_wp2_with fail
  go_ret;exact⟨by rw[HR2.out];rfl,hb⟩
structure Mr where
 kind:Int
 name:List UInt8
 value:List UInt8
def iR(m:Mr)(L:List Lb):Bool:=
 if m.kind=0 then mx L m.name==m.value
 else if m.kind=1 then !(mx L m.name==m.value)
 else if m.kind=2 then Lib.hasPrefix (mx L m.name) m.value
 else if m.kind=3 then L.any fun y=>decide (y.1=m.name)
 else false
def uG (M:List Mr)(L:List Lb):Bool:=M.all fun m=>iR m L
def J8 (m:Mr):Value:=.agg #[.int .i64 m.kind,.string (bs m.name),.string (bs m.value)]
theorem FS(y:Lb)(m:Mr)(g:Nat)(w:World)(hk:ag w g 233 #[.int .i64 m.kind,.string (bs m.name),.string (bs m.value)]):
 Calls Tryz.prog 262 #[.agg #[.string (bs y.1),.string (bs y.2)],.pointer (some ⟨g,0,none⟩)] w fun e w'=>e=.returned (.bool (decide (y.1=m.name)))/\Below w.heap.size w w':=by
 have c1:w.cell? ⟨g,1,none⟩=some (.string (bs m.name)):=(ag.cell hk 1).trans rfl
 have b0:=ai w (.cells #[.string (bs y.1),.string (bs y.2)] 73)
 have c2:=cu b0 c1
 have hd:(y.1==m.name)=decide (y.1=m.name):=by by_cases h:y.1=m.name<;>simp[h]
 generalize decide (y.1=m.name)=R at*
 have HD:=af hd
 clear hd hk c1
 go_enter Tryz.func262,Tryz.ntmps262
 go_wp2_with fail
 go_ret
 exact⟨by rw[<-HD.out];rfl,b0⟩
theorem od{α:Type}(p:α->Bool)(L:List α){i:Nat}(h:i<L.length):((L.take (i+1)).filter p).length=((L.take i).filter p).length+if p L[i] then 1 else 0:=by
 rw[eM h,List.filter_append,aG,List.filter_cons,List.filter_nil];split<;>rfl
theorem Ex(L:List Lb)(v:Value)(m:Mr)(g:Nat)(w:World)(h:aC w v L)(hk:ag w g 233 #[.int .i64 m.kind,.string (bs m.name),.string (bs m.value)]):
 Calls Tryz.prog 261 #[v,.func (.func 262) #[] #[.pointer (some ⟨g,0,none⟩)]] w fun e w'=>∃a c,e=.returned (.slice a (L.filter fun y=>decide (y.1=m.name)).length c)/\Below w.heap.size w w':=by
 obtain⟨a,c,rfl,hl,hx⟩:=h
 have HX:=af hx
 clear hx
 have Q:=af (fun y W (hW:Below w.heap.size w W)=>FS y m g W (ag.below hk hW hk.lt))
 have HC:=af (fun i (h:i<L.length)=>od (fun y:Lb=>decide (y.1=m.name)) L h)
 have hfl:(L.filter fun y=>decide (y.1=m.name)).length<=L.length:=List.length_filter_le _ _
 have ⟨i0,hi,hz0,hz1,hz2⟩:=info_parts (show (Tryz.prog.info? 73).map (fun i=>(i.zero,i.size,i.bytes))=some (some (.agg #[.string ⟨#[]⟩,.string ⟨#[]⟩]),2,32) by kernel_rfl)
 have r0:w.ownsRow w.heap.size 73 2 (.slice none 0 0) ((L.take 0).filter fun y=>decide (y.1=m.name)).length []:=eE
 clear hk
 go_enter Tryz.func261,Tryz.ntmps261
 go_wp2_with fail
 go_loopw [5,10] (fun vo vi wr=>∃(i:Nat) (xs:List Value),i<=L.length/\vi=.int .i64 (i:Int)/\wr.ownsRow w.heap.size 73 2 vo ((L.take i).filter fun y=>decide (y.1=m.name)).length xs/\Below w.heap.size w wr) (fun _ vi _=>L.length-(intOf vi).toNat)
 case atStart=>exact⟨0,[],Nat.zero_le _,rfl,r0,bR⟩
 clear r0
 obtain⟨i,xs,hi',rfl,hrow,hb⟩:=hrel
 obtain⟨sa,sc,rfl⟩:=aH hrow
 rcases(show i<L.length\/i=L.length by omega) with hil|rfl
 ·obtain⟨h1,h2,b,o,rfl,d0,d1⟩:=HX.out i L[i] (aV hil);have e0:=cu hb d0;have e1:=cu hb d1;have HCI:=af (HC.out i hil);have hcl:((L.take i).filter fun y=>decide (y.1=m.name)).length<=i:=aK (List.length_filter_le _ _) (by rw[dp];omega);clear d0 d1;generalize L[i]=y at*;generalize ((L.take i).filter fun y=>decide (y.1=m.name)).length=cn at*;generalize hc2:((L.take (i+1)).filter fun y=>decide (y.1=m.name)).length=cn2 at*;have HC2:=af hc2;clear hc2;have bA:=ai wr (.cells #[.string (bs y.1),.string (bs y.2)] 73);have BA:=ay hb bA;have q:=af (Q.out y _ BA);have hrA:=World.ownsRow.alloc hrow (.cells #[.string (bs y.1),.string (bs y.2)] 73);have kA:=ag.new wr 73 #[.string (bs y.1),.string (bs y.2)];clear hrow bA;generalize decide (y.1=m.name)=bo at*;go_wp2_with fail
  refine bL q.out fun w2 hb2=>?_;have k2:=ag.below kA hb2 kA.lt;have c0:w2.cell? ⟨wr.heap.size,0,none⟩=some (.string (bs y.1)):=(ag.cell k2 0).trans rfl;have c1:w2.cell? ⟨wr.heap.size,1,none⟩=some (.string (bs y.2)):=(ag.cell k2 1).trans rfl;have r2:=aw hrA (ak.of_below (S:=fun _=>False) hb2) (fun _ _ e=>e);have B2:=ay BA hb2;have hs2:=B2.size;clear q hrA kA k2 BA hb2 hb;cases bo with
  |true=>
   go_wp2_with (at_builtin;refine wpList_append_own_at _ rfl _ _ 65 rfl w.heap.size 73 i0 (.agg #[.string ⟨#[]⟩,.string ⟨#[]⟩]) 2 32 Tryz.underlying65 hi hz0 hz1 hz2 rfl (by decide) _ _ _ rfl (World.ownsRow.alloc r2 _) ⟨_,0,none⟩ 1 1 [.string (bs y.1),.string (bs y.2)] rfl rfl (iD _ _ _ _ rfl) (by simp[Value.oneCell']) (by unfold maxLen;omega) (by omega) (by simp;omega) ?_;intro v' w5 hown' hgrow hnil2 hloc;obtain⟨sa',sc',rfl⟩:=aH hown')
   go_roundw
   case rel=>
    have hkq:ak w2 w5 (fun k=>w.heap.size<=k):=(ak.alloc w2 _ _).trans (ak.of_grown hgrow fun k e=>(r2.lt k e).1);exact⟨i+1,_,by omega,by go_num,by rw[HC2.out,HCI.out];exact hown',B2.trans (hkq.below hs2 fun k e=>e)⟩
   case measure=>simp[intOf];omega
  |false=>
   go_wp2_with fail
   go_roundw
   case rel=>exact⟨i+1,xs,by omega,by go_num,by rw[HC2.out,HCI.out];exact r2,B2⟩
   case measure=>simp[intOf];omega
 ·rw[List.take_length];go_wp2_with fail
  go_ret;exact⟨_,_,rfl,hb⟩
end
section
open Go.RowKit
attribute [local go_sem] am aq
theorem kO:K0 Tryz.prog 86 127 2 16:=⟨Tryz.underlying86,uo (.agg #[.int .i64 0,.int .u64 0]) (by kernel_rfl) rfl,by decide,by decide⟩
theorem aI.kept{w w':World}{S:Nat->Prop}{v:Value}{L:List cH}(h:aI w v L)(hk:ak w w' S)(hn:∀b,v.ownBlock=some b->¬S b):aI w' v L:=by
 obtain⟨a,c,rfl,h2,h3,h4,h5⟩:=h;refine⟨a,c,rfl,h2,h3,h4,fun i x hx=>?_⟩;obtain⟨b,o,rfl,h7,h8,h9⟩:=h5 i x hx;exact⟨b,o,rfl,h7,hk.cell h8 (hn b rfl),hk.cell h9 (hn b rfl)⟩
def wO(f:Nat)(capt:Array Value)(p:cH->Bool)(w:World):Prop:=∀x W,ew x->Below w.heap.size w W->
 Calls Tryz.prog f (#[.agg #[.int .i64 x.1,.int .u64 (x.2:Int)]]++capt) W fun e W'=>e=.returned (.bool (p x))/\Below W.heap.size W W'
theorem eq{w:World}{v:Value}{L:List cH}(h:aI w v L):∀x∈L,ew x:=fun x hx=>by
 obtain⟨a,c,_,_,_,_,h5⟩:=h;obtain⟨i,hi,rfl⟩:=List.getElem_of_mem hx;obtain⟨_,_,_,h9⟩:=h5 i _ (aV hi);exact h9.1
theorem vO(f:Nat)(capt:Array Value)(p:cH->Bool)(v:Value)(L:List cH)(w:World)(h:aI w v L)(hp:wO f capt p w)(hcf:∀args W,(callFunc f args).run Tryz.prog W=.ok (.enter f args) W):
 Calls Tryz.prog 153 #[v,.func (.func f) #[] capt] w fun e w'=>∃v',e=.returned v'/\aI w' v' (L.filter p)/\Below w.heap.size w w'/\∀k,v'.ownBlock=some k->w.heap.size<=k:=by
 have HO:=af (eq h)
 have hlen:=h.len
 obtain⟨a,c,rfl,_,_,_,hx⟩:=h
 have HX:=af hx
 have HP:=af hp
 clear hx hp
 have r0:w.ownsRow w.heap.size 127 2 (.slice none 0 0) ((L.take 0).filter p).length (aL gA ((L.take 0).filter p)):=eE
 obtain⟨N,hN⟩:∃N,L.length=N:=⟨_,rfl⟩
 have HN:=af hN
 rw[hN] at hlen⊢
 clear hN
 go_enter Tryz.func153,Tryz.ntmps153
 go_wp2_with fail
 go_loopw [5,10] (fun vo vi wr=>∃(i:Nat),i<=N/\vi=.int .i64 (i:Int)/\wr.ownsRow w.heap.size 127 2 vo ((L.take i).filter p).length (aL gA ((L.take i).filter p))/\Below w.heap.size w wr) (fun _ vi _=>N-(intOf vi).toNat)
 case atStart=>exact⟨0,Nat.zero_le _,rfl,r0,bR⟩
 clear r0
 obtain⟨i,hi',rfl,hrow,hb⟩:=hrel
 obtain⟨sa,sc,rfl⟩:=aH hrow
 rcases(show i<N\/i=N by omega) with hil|rfl
 ·have hiL:i<L.length:=by rw[HN.out];exact hil
  obtain⟨b,o,rfl,hok,d0,d1⟩:=HX.out i L[i] (aV hiL);have e0:=cu hb d0;have e1:=cu hb d1;have hcl:((L.take i).filter p).length<=i:=aK (List.length_filter_le _ _) (by rw[dp];omega);have HS:=af (show (L.take (i+1)).filter p=(L.take i).filter p++if p L[i] then[L[i]] else[] by rw[eM hiL,List.filter_append];simp[List.filter_cons]);have bA:=ai wr (.cells #[.int .i64 L[i].1,.int .u64 (L[i].2:Int)] 127);have BA:=ay hb bA;have q:=af (HP.out L[i] _ hok BA);have hrA:=World.ownsRow.alloc hrow (.cells #[.int .i64 L[i].1,.int .u64 (L[i].2:Int)] 127);have kA:=ag.new wr 127 #[.int .i64 L[i].1,.int .u64 (L[i].2:Int)];clear hrow bA d0 d1 hok;generalize ((L.take i).filter p)=A at*;obtain⟨A2,hA2⟩:∃A2,(L.take (i+1)).filter p=A2:=⟨_,rfl⟩
  rw[hA2] at HS;have HA2:=af hA2;clear hA2;generalize L[i]=y at*;clear hiL;obtain⟨t,u⟩:=y;simp only at e0 e1 q hrA kA BA;obtain⟨bo,hbo⟩:∃bo,p (t,u)=bo:=⟨_,rfl⟩
  rw[hbo] at HS q;clear hbo;go_wp2_with fail
  refine bL q.out fun w2 hb2=>?_;have k2:=ag.below kA hb2 kA.lt;have c0:=ax k2 0 (.int .i64 t) rfl;have c1:=ax k2 1 (.int .u64 (u:Int)) rfl;have r2:=aw hrA (ak.of_below (S:=fun _=>False) hb2) (fun _ _ e=>e);have B2:=ay BA hb2;have hs2:=B2.size;have hw9:IntKind.i64.wrap ((i:Int)+1)=(i:Int)+1:=ct _ (by omega);clear q hrA kA k2 BA hb2 hb e0 e1;cases bo with
  |true=>
   go_wp2_with (at_builtin;(refine l7 kO rfl _ _ rfl rfl r2 [.int .i64 t,.int .u64 (u:Int)] rfl rfl rfl (by simp[Value.oneCell']) (by omega) hs2 ?_);intro sa' sc' w5 hown' hk5 hloc)
   have hb5:=B2.trans (hk5.below hs2 fun k e=>(r2.lt k e).1);have HR:=af (show w5.ownsRow w.heap.size 127 2 (.slice sa' (A.length+1) sc') A2.length (aL gA A2) by rw[HS.out,if_pos True.intro,aG,dO,gE];exact hown');clear hown' hk5 hloc r2 c0 c1 HS;go_roundw
   case rel=>exact⟨i+1,hil,by go_num,by rw[HA2.out];exact HR.out,hb5⟩
   case measure=>simp[intOf];omega
  |false=>
   have HR:=af (show A2=A by rw[HS.out];simp);clear HS c0 c1;go_wp2_with fail
   go_roundw
   case rel=>exact⟨i+1,hil,by go_num,by rw[HA2.out,HR.out];exact r2,B2⟩
   case measure=>simp[intOf];omega
 ·rw[List.take_of_length_le (by rw[HN.out];exact aF _)] at hrow⊢;have HI:=af (And.intro (iC hrow rfl (aK (List.length_filter_le _ _) (by rw[HN.out];exact hlen)) (fun x hx=>HO.out x (List.mem_filter.1 hx).1)) (fun k hk=>(hrow.lt k hk).1));clear hrow;go_wp2_with fail
  go_ret;exact⟨_,rfl,HI.out.1,hb,HI.out.2⟩
theorem yr(a b:Int)(ga gb:Nat)(w:World)(ha:w.cell? ⟨ga,0,none⟩=some (.int .i64 a))(hb:w.cell? ⟨gb,0,none⟩=some (.int .i64 b)):wO 157 #[.pointer (some ⟨ga,0,none⟩),.pointer (some ⟨gb,0,none⟩)] (fun x=>decide (a<=x.1)&&decide (x.1<=b)) w:=by
 intro x W _ hW;have a0:=cu hW ha;have b0:=cu hW hb;have bA:=ai W (.cells #[.int .i64 x.1,.int .u64 (x.2:Int)] 127);have a1:=cu bA a0;have b1:=cu bA b0;have z0:=ax (ag.new W 127 #[.int .i64 x.1,.int .u64 (x.2:Int)]) 0 (.int .i64 x.1) rfl;clear a0 b0 hW ha hb;cases h1:decide (a<=x.1)<;>cases h2:decide (x.1<=b)
 all_goals
  go_enter Tryz.func157,Tryz.ntmps157
  go_wp2_with fail
  go_ret
  exact⟨by simp only[h1,h2];rfl,bA⟩
theorem wW(a b:Int)(ga gb:Nat)(w:World)(ha:w.cell? ⟨ga,0,none⟩=some (.int .i64 a))(hb:w.cell? ⟨gb,0,none⟩=some (.int .i64 b)):wO 154 #[.pointer (some ⟨ga,0,none⟩),.pointer (some ⟨gb,0,none⟩)] (fun x=>decide (x.1<a)||decide (b<x.1)) w:=by
 intro x W _ hW;have a0:=cu hW ha;have b0:=cu hW hb;have bA:=ai W (.cells #[.int .i64 x.1,.int .u64 (x.2:Int)] 127);have a1:=cu bA a0;have b1:=cu bA b0;have z0:=ax (ag.new W 127 #[.int .i64 x.1,.int .u64 (x.2:Int)]) 0 (.int .i64 x.1) rfl;clear a0 b0 hW ha hb;cases h1:decide (x.1<a)<;>cases h2:decide (b<x.1)
 all_goals
  go_enter Tryz.func154,Tryz.ntmps154
  go_wp2_with fail
  go_ret
  exact⟨by simp only[h1,h2];rfl,bA⟩
theorem mL(v:Value)(L:List cH)(a b:Int)(w:World)(h:aI w v L):Calls Tryz.prog 87 #[v,.int .i64 a,.int .i64 b] w fun e w'=>∃v',e=.returned v'/\aI w' v' (ek L a b)/\Below w.heap.size w w'/\∀k,v'.ownBlock=some k->w.heap.size<=k:=by
 have b1:=ai w (.cells #[.int .i64 a] 2);have b2:=b1.alloc b1.size (.cells #[.int .i64 b] 2);have k1:=ag.alloc (ag.new w 2 #[.int .i64 a]) (.cells #[.int .i64 b] 2);have k2:=ag.new (w.alloc (.cells #[.int .i64 a] 2)) 2 #[.int .i64 b];have hz:(w.alloc (.cells #[.int .i64 a] 2)).heap.size=w.heap.size+1:=aW _ _;rw[hz] at k2;have q:=af (vO 157 #[.pointer (some ⟨w.heap.size,0,none⟩),.pointer (some ⟨w.heap.size+1,0,none⟩)] _ v L _ (h.below b2) (yr a b _ _ _ (ag.cell k1 0) (ag.cell k2 0)) (fun args W=>by go_simp));clear k1 k2 h;go_enter Tryz.func87,Tryz.ntmps87
 go_wp2_with fail
 refine q.out.mono ?_;rintro e w1 ⟨v',rfl,hs,hb,hk⟩;have hb3:=ay b2 hb;have HK:=af (fun k (e:v'.ownBlock=some k)=>aK b2.size (hk k e));clear q hk hb;go_wp2_with fail
 go_ret;exact⟨v',rfl,hs,hb3,HK.out⟩
theorem mI(v:Value)(L:List cH)(a b:Int)(w:World)(h:aI w v L):Calls Tryz.prog 84 #[v,.int .i64 a,.int .i64 b] w fun e w'=>∃v',e=.returned v'/\aI w' v' (bV L a b)/\Below w.heap.size w w'/\∀k,v'.ownBlock=some k->w.heap.size<=k:=by
 have b1:=ai w (.cells #[.int .i64 a] 2);have b2:=b1.alloc b1.size (.cells #[.int .i64 b] 2);have k1:=ag.alloc (ag.new w 2 #[.int .i64 a]) (.cells #[.int .i64 b] 2);have k2:=ag.new (w.alloc (.cells #[.int .i64 a] 2)) 2 #[.int .i64 b];have hz:(w.alloc (.cells #[.int .i64 a] 2)).heap.size=w.heap.size+1:=aW _ _;rw[hz] at k2;have q:=af (vO 154 #[.pointer (some ⟨w.heap.size,0,none⟩),.pointer (some ⟨w.heap.size+1,0,none⟩)] _ v L _ (h.below b2) (wW a b _ _ _ (ag.cell k1 0) (ag.cell k2 0)) (fun args W=>by go_simp));clear k1 k2 h;go_enter Tryz.func84,Tryz.ntmps84
 go_wp2_with fail
 refine q.out.mono ?_;rintro e w1 ⟨v',rfl,hs,hb,hk⟩;have hb3:=ay b2 hb;have HK:=af (fun k (e:v'.ownBlock=some k)=>aK b2.size (hk k e));clear q hk hb;go_wp2_with fail
 go_ret;exact⟨v',rfl,hs,hb3,HK.out⟩
end
section
open Go.RowKit
theorem iF:∀a:List UInt8,Op.bytesLess a a=false
 |[]=>rfl
 |a::l=>by unfold Op.bytesLess;simp[iF l]
theorem mF:∀a b c:List UInt8,Op.bytesLess a b=true->Op.bytesLess b c=true->Op.bytesLess a c=true
 |_,[],_,h,_=>by unfold Op.bytesLess at h;cases h
 |_,_::_,[],_,h=>by unfold Op.bytesLess at h;cases h
 |[],_::_,_::_,_,_=>rfl
 |a::l,b::m,c::n,h1,h2=>by
  unfold Op.bytesLess at h1 h2⊢;simp only[Bool.or_eq_true,Bool.and_eq_true,decide_eq_true_eq,beq_iff_eq] at h1 h2⊢;rcases h1 with h1|⟨rfl,h1⟩
  ·rcases h2 with h2|⟨rfl,h2⟩
   ·have a1:a.toNat<b.toNat:=h1;have a2:b.toNat<c.toNat:=h2;exact .inl (show a.toNat<c.toNat by omega)
   ·exact .inl h1
  ·rcases h2 with h2|⟨rfl,h2⟩
   ·exact .inl h2
   ·exact .inr ⟨rfl,mF l m n h1 h2⟩
theorem pY:∀a b:List UInt8,Op.bytesLess a b=true\/a=b\/Op.bytesLess b a=true
 |[],[]=>.inr (.inl rfl)
 |[],_::_=>.inl rfl
 |_::_,[]=>.inr (.inr rfl)
 |a::l,b::m=>by
  unfold Op.bytesLess;simp only[Bool.or_eq_true,Bool.and_eq_true,decide_eq_true_eq,beq_iff_eq];rcases Nat.lt_trichotomy a.toNat b.toNat with h|h|h
  ·exact .inl (.inl h)
  ·obtain rfl:=UInt8.toNat_inj.1 h;rcases pY l m with h|rfl|h
   ·exact .inl (.inr ⟨rfl,h⟩)
   ·exact .inr (.inl rfl)
   ·exact .inr (.inr (.inr ⟨rfl,h⟩))
  ·exact .inr (.inr (.inl h))
theorem uD{a b:List UInt8}(h:Op.bytesLess a b=true):Op.bytesLess b a=false:=by
 cases h2:Op.bytesLess b a with
 |false=>rfl
 |true=>
  have:=mF a b a h h2;rw[iF] at this;cases this
theorem Dy(a b:List UInt8):decide (a<=b)= !Op.bytesLess b a:=by
 rw[bytesLess_eq];by_cases h:b<a
 ·simp[h,List.not_le.2 h]
 ·simp[h,List.not_lt.1 h]
theorem Ef(l:List (List UInt8)):(l.mergeSort fun x y=>decide (x<=y)).Pairwise fun x y=>Op.bytesLess y x=false:=by
 have h:=List.pairwise_mergeSort (le:=fun x y:List UInt8=>decide (x<=y)) (fun a b c h1 h2=>by
  rw[Dy] at h1 h2⊢
  simp only[Bool.not_eq_true'] at h1 h2⊢
  rcases pY a c with h|rfl|h
  ·exact uD h
  ·exact iF _
  ·rcases pY a b with h3|rfl|h3
   ·rw[mF c a b h h3] at h2
    cases h2
   ·rw[h] at h2
    cases h2
   ·rw[h3] at h1
    cases h1) (fun a b=>by
  rw[Dy,Dy]
  rcases pY a b with h|rfl|h
  ·rw[uD h]
   rfl
  ·rw[iF]
   rfl
  ·rw[uD h]
   simp) l
 refine h.imp fun {a b} e=>?_;rw[Dy] at e;simpa using e
theorem ux(zs:List (List UInt8))(hs:zs.Pairwise fun x y=>Op.bytesLess y x=false):(Lib.compact zs).Pairwise fun x y=>Op.bytesLess x y=true:=by
 have hat:∀j (h:j<zs.length),zs.toArray[j]! =zs[j]:=fun j h=>by simp[h]
 have key:∀m,m<=zs.length->(Lib.compactUpTo zs.toArray m).Pairwise (fun x y=>Op.bytesLess x y=true)/\∀x∈Lib.compactUpTo zs.toArray m,∃j,j<m/\∃h:j<zs.length,x=zs[j]:=by
  intro m;induction m with
  |zero=>exact fun _=>⟨by simp[Lib.compactUpTo],fun x hx=>by simp[Lib.compactUpTo] at hx⟩
  |succ m ih=>
   intro hm;obtain⟨h1,h2⟩:=ih (by omega);rw[Lib.compactUpTo_succ];split
   ·rename_i hk;rw[hat m (by omega)];refine⟨List.pairwise_append.2 ⟨h1,by simp,fun x hx y hy=>?_⟩,fun x hx=>?_⟩
    ·rw[List.mem_singleton] at hy;subst hy;obtain⟨j,hj,hjl,rfl⟩:=h2 x hx;unfold Lib.keeps at hk;rw[decide_eq_true_eq] at hk;have hm0:¬m=0:=by omega
     have hne:zs[m]≠zs[m-1]:=by
      rcases hk with hk|hk
      ·omega
      ·rw[hat m (by omega),hat (m-1) (by omega)] at hk;exact hk
     have a1:Op.bytesLess zs[m-1] zs[m]=true:=by
      rcases pY zs[m-1] zs[m] with h|h|h
      ·exact h
      ·exact absurd h.symm hne
      ·have:=List.pairwise_iff_getElem.1 hs (m-1) m (by omega) (by omega) (by omega);rw[h] at this;cases this
     rcases(show j=m-1\/j<m-1 by omega) with rfl|hj2
     ·exact a1
     ·have a2:=List.pairwise_iff_getElem.1 hs j (m-1) hjl (by omega) hj2;rcases pY zs[j] zs[m-1] with h|h|h
      ·exact mF _ _ _ h a1
      ·rw[h];exact a1
      ·rw[h] at a2;cases a2
    ·rcases List.mem_append.1 hx with hx|hx
     ·obtain⟨j,hj,hjl,e⟩:=h2 x hx;exact⟨j,by omega,hjl,e⟩
     ·rw[List.mem_singleton] at hx;exact⟨m,by omega,by omega,hx⟩
   ·rw[List.append_nil];exact⟨h1,fun x hx=>by
     obtain⟨j,hj,hjl,e⟩:=h2 x hx
     exact⟨j,by omega,hjl,e⟩⟩
 have:=(key zs.length (aF _)).1;unfold Lib.compact;simpa using this
theorem yT(l:List En):(gp l).Pairwise fun x y=>Op.bytesLess x y=true:=ux _ (Ef _)
theorem sR(l:List En):(gp l).Nodup:=(yT l).imp fun {a b} h e=>by
 subst e;rw[iF] at h;cases h
theorem rj{a b c:List Lb}(h1:dN a b=true)(h2:dN b c=true):dN a c=true:=mF _ _ _ h1 h2
theorem xS(a:List Lb):dN a a=false:=iF _
theorem E3{a b:List Lb}(h:de a=de b):dN a b=false:=by unfold dN;rw[h];exact iF _
theorem vH{a b:List Lb}(h:hU a b=true):a.length=b.length/\de a=de b:=by
 unfold hU at h;simp only[Bool.and_eq_true,decide_eq_true_eq,beq_iff_eq] at h;exact h
theorem ti(a:List Lb):hU a a=true:=by unfold hU;simp
def oB(S:List aO):Prop:=S.Pairwise fun x y=>dN x.labels y.labels=true
theorem oG(f:Int):∀(S:List aO) (q:List Lb),dS f (some q) S=true->(∀x∈S,dN q x.labels=true)/\oB S/\∀x∈S,dJ x f=true
 |[],_,_=>⟨(fun x hx=>by cases hx),List.Pairwise.nil,(fun x hx=>by cases hx)⟩
 |x::S,q,h=>by
  unfold dS at h;simp only[Bool.and_eq_true] at h;obtain⟨h1,h2,h3⟩:=oG f S x.labels h.2.2;refine⟨fun y hy=>?_,List.pairwise_cons.2 ⟨h1,h2⟩,fun y hy=>?_⟩
  ·rcases List.mem_cons.1 hy with rfl|hy
   ·exact h.2.1
   ·exact rj h.2.1 (h1 y hy)
  ·rcases List.mem_cons.1 hy with rfl|hy
   ·exact h.1
   ·exact h3 y hy
theorem gZ(f:Int)(S:List aO):dS f none S=true↔oB S/\∀x∈S,dJ x f=true:=by
 constructor
 ·intro h;cases S with
  |nil=>exact⟨List.Pairwise.nil,(fun x hx=>by cases hx)⟩
  |cons x S=>
   unfold dS at h;simp only[Bool.and_eq_true] at h;obtain⟨h1,h2,h3⟩:=oG f S x.labels h.2.2;refine⟨List.pairwise_cons.2 ⟨h1,h2⟩,fun y hy=>?_⟩;rcases List.mem_cons.1 hy with rfl|hy
   ·exact h.1
   ·exact h3 y hy
 ·intro h;have key:∀(S:List aO) (p:Option (List Lb)),oB S->(∀x∈S,dJ x f=true)->(∀q,p=some q->∀x∈S,dN q x.labels=true)->dS f p S=true:=by
   intro S;induction S with
   |nil=>intro p _ _ _;rfl
   |cons x S ih=>
    intro p hs hr hp;obtain⟨h1,h2⟩:=List.pairwise_cons.1 hs;unfold dS;rw[hr x List.mem_cons_self,ih (some x.labels) h2 (fun y hy=>hr y (List.mem_cons_of_mem _ hy)) (fun q e y hy=>by obtain rfl:=az e;exact h1 y hy)];cases p with
    |none=>rfl
    |some q=>simpa using hp q rfl x List.mem_cons_self
  exact key S none h.1 h.2 fun q e=>by cases e
theorem sJ(s:kt):fx s=true↔aX s.floor=true/\s.ser.length<=20/\oB s.ser/\∀x∈s.ser,dJ x s.floor=true:=by
 unfold fx;simp only[Bool.and_eq_true,decide_eq_true_eq];rw[gZ]
theorem qJ(t:Int):aX t=true↔0<=t/\t<=1125899906842624:=by unfold aX;simp
theorem H7{S:List aO}(hs:oB S){i:Nat}(hi:i<S.length){l:List Lb}(hl:hU S[i].labels l=true):cP S l=some i:=by
 unfold cP;rw[List.findIdx?_eq_some_iff_getElem];refine⟨hi,hl,fun j hj=>?_⟩;have hlt:=List.pairwise_iff_getElem.1 hs j i (by omega) hi hj;have hk:=vH hl;cases hq:hU S[j].labels l with
 |false=>simp
 |true=>
  have hk2:=vH hq;rw[E3 (hk2.2.trans hk.2.symm)] at hlt;cases hlt
theorem Fj{S:List aO}(hs:oB S){x:aO}(hx:x∈S):∃i,cP S x.labels=some i/\S.getD i cy=x:=by
 obtain⟨i,hi,rfl⟩:=List.mem_iff_getElem.1 hx;exact⟨i,H7 hs hi (ti _),by rw[List.getD_eq_getElem?_getD,aV hi];rfl⟩
theorem zf{x:aO}{f:Int}(h:dJ x f=true):(x.samples.isEmpty&&decide (x.last<f))=false:=by
 unfold dJ at h;cases hs:x.samples with
 |nil=>
  rw[hs] at h;simp only[Bool.and_eq_true,decide_eq_true_eq] at h;simp;exact h.2
 |cons y l=>rfl
theorem GE{S:List aO}{f:Int}(h:∀x∈S,dJ x f=true):el S f=S:=by
 unfold el;rw[List.filter_eq_self];intro x hx;rw[zf (h x hx)];rfl
theorem Jd(s:kt):(⟨s.ser,s.floor⟩:kt)=s:=rfl
theorem EA{s:kt}(h:fx s=true):jN s aY=(s,0):=by
 obtain⟨h1,h2,h3,h4⟩:=(sJ s).1 h;obtain⟨h5,_⟩:=(qJ _).1 h1;have e:Dq s aY=s:=by
  unfold Dq;have hf:max s.floor aY.floor=s.floor:=by show max s.floor 0=s.floor;omega
  have hn:¬s.floor<aY.floor:=by show ¬s.floor<0;omega
  simp only[hf,if_neg hn];show (⟨el s.ser s.floor,s.floor⟩:kt)=s;rw[GE h4]
 unfold jN;rw[e,if_pos h]
theorem BI{s:kt}(b:nd)(h:fx s=true):fx (jN s b).1=true/\((jN s b).2=0\/(jN s b).2=9/\(jN s b).1=s):=by
 unfold jN;split
 ·rename_i h1;exact⟨h1,.inl rfl⟩
 ·exact⟨h,.inr ⟨rfl,rfl⟩⟩
theorem Bo(l:List cH)(f:cH->Bool)(h:∀x∈l,f x=false):iy none (l.map fun y=>(y,f y))=[]:=by
 induction l with
 |nil=>rfl
 |cons x l ih=>
  rw[List.map_cons,h x List.mem_cons_self,iy];exact ih fun y hy=>h y (List.mem_cons_of_mem _ hy)
theorem lh{S:List aO}(hs:oB S){x:aO}(hx:x∈S):gK S x.labels=x.samples/\tQ S x.labels=some x.last:=by
 obtain⟨i,h1,h2⟩:=Fj hs hx;unfold gK tQ;rw[h1];simp only[Option.map_some,h2];exact⟨trivial,trivial⟩
theorem Ft{s:kt}(h:oB s.ser):lP s s=aY:=by
 unfold lP aY;rw[if_neg (by omega)];dsimp only;congr 1
 ·rw[List.flatMap_eq_nil_iff];intro x hx;rw[(lh h hx).1,Bo x.samples _ fun y hy=>by simp[hy]];rfl
 ·rw[List.filterMap_eq_nil_iff];intro x hx;rw[(lh h hx).1,(lh h hx).2];simp
theorem xD(x:aO):fm x x=true:=by unfold fm;rw[ti];simp
theorem nk:∀S:List aO,jk S S=true
 |[]=>rfl
 |x::S=>by rw[jk,xD,nk S];rfl
theorem tg(s:kt):vG s s=true:=by unfold vG;rw[nk];simp
end
section
open Go.RowKit
attribute [local go_sem] am aq
theorem ii:K0 Tryz.prog 23 88 3 56:=⟨Tryz.underlying23,uo (.agg #[.slice none 0 0,.slice none 0 0,.int .i64 0]) (by kernel_rfl) rfl,by decide,by decide⟩
theorem rh{α β:Type}(R:Nat->α->β->Prop):∀(L:List α) (k:Nat),(∀i x,L[i]?=some x->∃y,R (k+i) x y)->∃M:List (α×β),M.map (fun z=>z.1)=L/\∀i z,M[i]?=some z->R (k+i) z.1 z.2
 |[],k,_=>⟨[],rfl,fun i z h=>by simp at h⟩
 |x::L,k,h=>by
  obtain⟨y,hy⟩:=h 0 x rfl;obtain⟨M,h1,h2⟩:=rh R L (k+1) (fun i z hz=>by have:=h (i+1) z hz;rwa[show k+(i+1)=k+1+i by omega] at this);refine⟨(x,y)::M,by rw[List.map_cons,h1],fun i z hz=>?_⟩;cases i with
  |zero=>obtain rfl:(x,y)=z:=by simpa using hz
         exact hy
  |succ i=>have:=h2 i z hz;rwa[show k+(i+1)=k+1+i by omega]
theorem oi{β:Type}{enc:β->List Value}{sz:Nat}(he:∀z,(enc z).length=sz):∀(Z:List β) (j:Nat) (u:Value),(aL enc Z)[j]?=some u->∃i r z,j=i*sz+r/\Z[i]?=some z/\(enc z)[r]?=some u
 |[],j,u,h=>by simp[aL] at h
 |z::Z,j,u,h=>by
  unfold aL at h;rw[List.flatMap_cons] at h;by_cases hj:j<(enc z).length
  ·rw[List.getElem?_append_left hj] at h;exact⟨0,j,z,by omega,rfl,h⟩
  ·rw[List.getElem?_append_right (by omega)] at h;obtain⟨i,r,y,h1,h2,h3⟩:=oi he Z (j-(enc z).length) u h;refine⟨i+1,r,y,?_,h2,h3⟩;rw[he] at h1 hj;rw[Nat.add_mul];omega
def jf (w:World)(z:aO×Value×Value):Prop:=z.1.ok/\aC w z.2.1 z.1.labels/\aI w z.2.2 z.1.samples
theorem jf.below{w w':World}{z:aO×Value×Value}(h:jf w z)(hb:Below w.heap.size w w'):jf w' z:=⟨h.1,h.2.1.below hb,h.2.2.below hb⟩
theorem xq{w:World}{a:Option Addr}{n c:Nat}{S:List aO}(h:aM w (.slice a n c) S):∃Z:List (aO×Value×Value),Z.map (fun z=>z.1)=S/\(∀z∈Z,jf w z)/\∀p,a=some p->∀j u,(aL eT Z)[j]?=some u->w.cell? (p.add j)=some u:=by
 obtain⟨a',c',h1,h2,h3,h4,h5⟩:=h;obtain⟨rfl,rfl,rfl⟩:=Value.slice.inj h1;obtain⟨Z,hZ,hz⟩:=rh (fun i x (y:Value×Value)=>∃b o,a=some ⟨b,o,none⟩/\jf w (x,y)/\w.cell? ⟨b,o+i*3,none⟩=some y.1/\w.cell? ⟨b,o+i*3+1,none⟩=some y.2/\w.cell? ⟨b,o+i*3+2,none⟩=some (.int .i64 x.last)) S 0 (fun i x hx=>by
  obtain⟨b,o,e,hok,sl,sv,k1,k2,k3,k4,k5⟩:=h5 i x hx
  rw[Nat.zero_add]
  exact⟨(sl,sv),b,o,e,⟨hok,k2,k4⟩,k1,k3,k5⟩)
 refine⟨Z,hZ,fun z hz'=>?_,fun p hp j u hu=>?_⟩
 ·obtain⟨i,hi,rfl⟩:=List.getElem_of_mem hz';obtain⟨_,_,_,h9,_⟩:=hz i _ (aV hi);exact h9
 ·obtain⟨i,r,z,rfl,h8,h9⟩:=oi (sz:=3) (fun _=>rfl) Z j u hu;obtain⟨b,o,e,_,k1,k2,k3⟩:=hz i z h8;rw[hp] at e;obtain rfl:=az e;rw[Nat.zero_add] at k1 k2 k3;rw[du,<-Nat.add_assoc];match r,h9 with
  |0,h9=>obtain rfl:=az h9;exact k1
  |1,h9=>obtain rfl:=az h9;exact k2
  |2,h9=>obtain rfl:=az h9;exact k3
  |r+3,h9=>simp[eT] at h9
def dU:Option Nat->Int
 |none=> -1
 |some i=>i
def jT(f:Nat)(capt:Array Value)(p:aO->Bool)(w:World):Prop:=∀(x:aO) (sl sv:Value) (W:World),Below w.heap.size w W->jf W (x,sl,sv)->
 Calls Tryz.prog f (#[.agg #[sl,sv,.int .i64 x.last]]++capt) W fun e W'=>e=.returned (.bool (p x))/\Below W.heap.size W W'
theorem jd{α:Type}(p:α->Bool)(L:List α)(j:Nat)(hj:j<L.length):(L.drop j).findIdx? p=if p L[j] then some 0 else((L.drop (j+1)).findIdx? p).map (·+1):=by
 rw[List.drop_eq_getElem_cons hj,List.findIdx?_cons]
theorem mt(f:Nat)(capt:Array Value)(p:aO->Bool)(v:Value)(S:List aO)(w:World)(h:aM w v S)(hp:jT f capt p w)(hcf:∀args W,(callFunc f args).run Tryz.prog W=.ok (.enter f args) W):
 Calls Tryz.prog 134 #[v,.func (.func f) #[] capt] w fun e w'=>e=.returned (.int .i64 (dU (S.findIdx? p)))/\Below w.heap.size w w':=by
 have hlen:=h.len
 obtain⟨a,c,rfl,_,_,_,hx⟩:=h
 have HX:=af hx
 have HP:=af hp
 clear hx hp
 obtain⟨N,hN⟩:∃N,S.length=N:=⟨_,rfl⟩
 have HN:=af hN
 rw[hN] at hlen⊢
 clear hN
 go_enter Tryz.func134,Tryz.ntmps134
 go_wp2_with fail
 go_loopw [5,8] (fun _ vi wr=>∃(i:Nat),i<=N/\vi=.int .i64 (i:Int)/\Below w.heap.size w wr/\Hid (S.findIdx? p=((S.drop i).findIdx? p).map (·+i))) (fun _ vi _=>N-(intOf vi).toNat)
 case atStart=>exact⟨0,Nat.zero_le _,rfl,bR,af (by rw[List.drop_zero];cases S.findIdx? p<;>rfl)⟩
 obtain⟨i,hi',rfl,hb,HJ⟩:=hrel
 rcases(show i<N\/i=N by omega) with hil|rfl
 ·have hiL:i<S.length:=by rw[HN.out];exact hil
  obtain⟨b,o,rfl,hser⟩:=HX.out i S[i] (aV hiL);obtain⟨hok,sl,sv,d0,h1,d1,h2,d2⟩:=rL.below hser hb;have q:=af (HP.out S[i] sl sv wr hb ⟨hok,h1,h2⟩);rw[jd p S i hiL] at HJ;clear hser hok h1 h2;generalize S[i]=y at*;clear hiL;obtain⟨bo,hbo⟩:∃bo,p y=bo:=⟨_,rfl⟩
  rw[hbo] at HJ q;clear hbo;have hw9:IntKind.i64.wrap ((i:Int)+1)=(i:Int)+1:=ct _ (by omega);go_wp2_with fail
  refine bL q.out fun w2 hb2=>?_;have B2:=ay hb hb2;clear q d0 d1 d2 hb hb2;cases bo with
  |true=>
   have HZ:=af (show dU (S.findIdx? p)=(i:Int) by rw[HJ.out];simp[dU]);clear HJ;go_wp2_with fail
   go_ret;exact⟨by rw[HZ.out];rfl,B2⟩
  |false=>
   have HZ:=af (show S.findIdx? p=((S.drop (i+1)).findIdx? p).map (·+(i+1)) by rw[HJ.out,if_neg (by decide)];cases (S.drop (i+1)).findIdx? p<;>simp[Nat.add_assoc,Nat.add_comm 1]);clear HJ;go_wp2_with fail
   go_roundw
   case rel=>exact⟨i+1,hil,by go_num,B2,HZ⟩
   case measure=>simp[intOf];omega
 ·have HZ:=af (show dU (S.findIdx? p)= -1 by rw[HJ.out,List.drop_of_length_le (by rw[HN.out];exact aF _)];rfl);clear HJ;go_wp2_with fail
  go_ret;exact⟨by rw[HZ.out];rfl,hb⟩
theorem Fk(l:List Lb)(lv:Value)(g:Nat)(w:World)(hl:aC w lv l)(hg:w.cell? ⟨g,0,none⟩=some lv):jT 152 #[.pointer (some ⟨g,0,none⟩)] (fun x=>hU x.labels l) w:=by
 intro x sl sv W hW hS;have bA:=ai W (.cells #[sl,sv,.int .i64 x.last] 88);have B:=ay hW bA;have g1:=cu B hg;have z0:=ax (ag.new W 88 #[sl,sv,.int .i64 x.last]) 0 sl rfl;have q:=af (m5 x.labels l sl lv _ (hS.2.1.below bA) (hl.below B));clear hW hS hg hl B;go_enter Tryz.func152,Tryz.ntmps152
 go_wp2_with fail
 refine bL q.out fun w1 hb=>?_;go_wp2_with fail
 go_ret;exact⟨rfl,ay bA hb⟩
theorem jD(v lv:Value)(S:List aO)(l:List Lb)(f:Int)(w:World)(h:aM w v S)(hl:aC w lv l):
 Calls Tryz.prog 83 #[.agg #[v,.int .i64 f],lv] w fun e w'=>e=.returned (.int .i64 (dU (cP S l)))/\Below w.heap.size w w':=by
 obtain⟨la,lc,rfl,_⟩:=id hl
 obtain⟨lv,hlv⟩:∃z,Value.slice la l.length lc=z:=⟨_,rfl⟩
 have HL:=af hlv
 rw[hlv] at hl
 have b1:=ai w (.cells #[v,.int .i64 f] 49)
 have b2:=b1.alloc b1.size (.cells #[lv] 65)
 have k1:=ag.alloc (ag.new w 49 #[v,.int .i64 f]) (.cells #[lv] 65)
 have k2:=ag.new (w.alloc (.cells #[v,.int .i64 f] 49)) 65 #[lv]
 have hz:(w.alloc (.cells #[v,.int .i64 f] 49)).heap.size=w.heap.size+1:=aW _ _
 rw[hz] at k2
 have y0:=ax k1 0 v rfl
 have q:=af (mt 152 #[.pointer (some ⟨w.heap.size+1,0,none⟩)] _ v S _ (h.below b2) (Fk l lv (w.heap.size+1) _ (hl.below b2) (ag.cell k2 0)) (fun args W=>by go_simp))
 subst hlv
 clear k1 k2 h hl HL
 go_enter Tryz.func83,Tryz.ntmps83
 go_wp2_with fail
 refine bL q.out fun w1 hb=>?_
 go_wp2_with fail
 go_ret
 exact⟨rfl,ay b2 hb⟩
def yD (v u:Value):Prop:=∀p n c,u=.slice (some p) n c->n≠0->v.ownBlock≠some p.block
theorem aC.far{w w':World}{v u:Value}{L:List Lb}(h:aC w u L)(hk:ak w w' (fun k=>v.ownBlock=some k))(hf:yD v u):aC w' u L:=by
 obtain⟨a,c,rfl,h2,h3⟩:=h;refine⟨a,c,rfl,h2,fun i x hx=>?_⟩;obtain⟨k1,k2,b,o,rfl,k3,k4⟩:=h3 i x hx;have hn:L.length≠0:=by have:=(List.getElem?_eq_some_iff.1 hx).1;omega
 exact⟨k1,k2,b,o,rfl,hk.cell k3 (hf ⟨b,o,none⟩ _ _ rfl hn),hk.cell k4 (hf ⟨b,o,none⟩ _ _ rfl hn)⟩
theorem aI.far{w w':World}{v u:Value}{L:List cH}(h:aI w u L)(hk:ak w w' (fun k=>v.ownBlock=some k))(hf:yD v u):aI w' u L:=by
 obtain⟨a,c,rfl,h2,h3,h4,h5⟩:=h;refine⟨a,c,rfl,h2,h3,h4,fun i x hx=>?_⟩;obtain⟨b,o,rfl,k1,k2,k3⟩:=h5 i x hx;have hn:L.length≠0:=by have:=(List.getElem?_eq_some_iff.1 hx).1;omega
 exact⟨b,o,rfl,k1,hk.cell k2 (hf ⟨b,o,none⟩ _ _ rfl hn),hk.cell k3 (hf ⟨b,o,none⟩ _ _ rfl hn)⟩
theorem mp{w:World}{v u:Value}{L:List Lb}(h:aC w u L)(hv:∀k,v.ownBlock=some k->w.heap.size<=k):yD v u:=by
 rintro p n c rfl hn e;obtain⟨a,c',h1,_,h3⟩:=h;obtain⟨rfl,rfl,rfl⟩:=Value.slice.inj h1;obtain⟨_,_,b,o,e2,k3,_⟩:=h3 0 L[0] (aV (by omega));cases e2;have:=World.block_lt_of_cell? _ _ k3;have:=hv _ e;simp at*;omega
theorem yW{w:World}{v u:Value}{L:List cH}(h:aI w u L)(hv:∀k,v.ownBlock=some k->w.heap.size<=k):yD v u:=by
 rintro p n c rfl hn e;obtain⟨a,c',h1,_,_,_,h3⟩:=h;obtain⟨rfl,rfl,rfl⟩:=Value.slice.inj h1;obtain⟨b,o,e2,_,k3,_⟩:=h3 0 L[0] (aV (by omega));cases e2;have:=World.block_lt_of_cell? _ _ k3;have:=hv _ e;simp at*;omega
def ix (w:World)(v:Value)(z:aO×Value×Value):Prop:=jf w z/\yD v z.2.1/\yD v z.2.2
theorem ix.below{w w':World}{v:Value}{z:aO×Value×Value}(h:ix w v z)(hb:Below w.heap.size w w'):ix w' v z:=⟨h.1.below hb,h.2⟩
theorem ix.kept{w w':World}{v:Value}{z:aO×Value×Value}(h:ix w v z)(hk:ak w w' (fun k=>v.ownBlock=some k)):ix w' v z:=⟨⟨h.1.1,h.1.2.1.far hk h.2.1,h.1.2.2.far hk h.2.2⟩,h.2⟩
theorem jf.old{w:World}{v:Value}{z:aO×Value×Value}(h:jf w z)(hv:∀k,v.ownBlock=some k->w.heap.size<=k):ix w v z:=⟨h,mp h.2.1 hv,yW h.2.2 hv⟩
theorem ix.turn{w:World}{v v':Value}{z:aO×Value×Value}(h:ix w v z)(hv:v'.ownBlock=v.ownBlock\/∀k,v'.ownBlock=some k->w.heap.size<=k):ix w v' z:=by
 rcases hv with e|e
 ·exact⟨h.1,fun p n c hu hn=>e▸h.2.1 p n c hu hn,fun p n c hu hn=>e▸h.2.2 p n c hu hn⟩
 ·exact h.1.old e
def gH(w:World)(B:Nat)(v:Value)(Z:List (aO×Value×Value)):Prop:=w.ownsRow B 88 3 v Z.length (aL eT Z)/\∀z∈Z,ix w v z
theorem gH.below{w w':World}{B:Nat}{v:Value}{Z:List (aO×Value×Value)}(h:gH w B v Z)(hb:Below w.heap.size w w'):gH w' B v Z:=⟨aw h.1 (ak.of_below (S:=fun _=>False) hb) (fun _ _ e=>e),fun z hz=>(h.2 z hz).below hb⟩
theorem gH.at{w:World}{B:Nat}{v:Value}{Z:List (aO×Value×Value)}(h:gH w B v Z)(hn:Z.length<=100000):aM w v (Z.map fun z=>z.1):=cV h.1 rfl hn fun z hz=>(h.2 z hz).1
theorem gH.cell{w:World}{B g n c:Nat}{Z:List (aO×Value×Value)}(h:gH w B (.slice (some ⟨g,0,none⟩) n c) Z){i:Nat}{z:aO×Value×Value}(hz:Z[i]?=some z):w.cell? ⟨g,i*3,none⟩=some z.2.1/\w.cell? ⟨g,i*3+1,none⟩=some z.2.2/\w.cell? ⟨g,i*3+2,none⟩=some (.int .i64 z.1.last):=by
 have hc:=h.1.cells (g:=g) rfl;have k:∀j u,(eT z)[j]?=some u->w.cell? ⟨g,i*3+j,none⟩=some u:=fun j u hj=>by
  have:=hc (i*3+j) u (jz (sz:=3) (fun _=>rfl) Z i z hz j u hj);rwa[du,Nat.zero_add] at this
 exact⟨k 0 _ rfl,k 1 _ rfl,k 2 _ rfl⟩
theorem cF{w:World}{B n g j sz:Nat}{e:TypeId}{v u:Value}{xs:List Value}(h:w.ownsRow B e sz v n xs)(hg:v.ownBlock=some g):(w.setCell ⟨g,j,none⟩ u).ownsRow B e sz v n (xs.set j u):=by
 obtain⟨h1,h2⟩:=h;refine⟨by rw[List.length_set];exact h1,?_⟩;rcases h2 with⟨rfl,_⟩|⟨g',cap,cur,rfl,h3,h4,h5,h6,h7,h8⟩
 ·cases hg
 ·obtain rfl:g'=g:=az hg;refine .inr ⟨g',cap,cur.setIfInBounds j u,rfl,h3,ag.set_ h4 j u,h5,h6,by rw[Array.size_setIfInBounds];exact h7,?_⟩;rw[Array.toList_setIfInBounds,List.take_set,h8]
theorem bq{w:World}{B n g j sz:Nat}{e:TypeId}{v:Value}{xs:List Value}(h:w.ownsRow B e sz v n xs)(hg:v.ownBlock=some g):w.frozen? ⟨g,j,none⟩=false:=by
 rcases h.2 with⟨rfl,_⟩|⟨g',cap,cur,rfl,h3,h4,_⟩
 ·cases hg
 ·obtain rfl:g'=g:=az hg;exact ag.frozen h4 j
theorem db{β:Type}{enc:β->List Value}{sz:Nat}(he:∀z,(enc z).length=sz):∀(Z:List β) (i j:Nat) (z z':β) (u:Value),Z[i]?=some z->j<sz->enc z'=(enc z).set j u->(aL enc Z).set (i*sz+j) u=aL enc (Z.set i z')
 |[],i,j,z,z',u,h,_,_=>by simp at h
 |y::Z,0,j,z,z',u,h,hj,e=>by
  obtain rfl:y=z:=by simpa using h
  unfold aL;rw[List.set_cons_zero,List.flatMap_cons,List.flatMap_cons,Nat.zero_mul,Nat.zero_add,List.set_append_left _ _ (by rw[he];exact hj),e]
 |y::Z,i+1,j,z,z',u,h,hj,e=>by
  have ih:=db he Z i j z z' u (by simpa using h) hj e;unfold aL at*;rw[List.set_cons_succ,List.flatMap_cons,List.flatMap_cons,<-ih,List.set_append_right _ _ (by rw[he,Nat.add_mul];omega),he];congr 2;rw[Nat.add_mul];omega
theorem gH.setS{w:World}{B g n c i:Nat}{Z:List (aO×Value×Value)}{z:aO×Value×Value}{u:Value}{l:List cH}(h:gH w B (.slice (some ⟨g,0,none⟩) n c) Z)(hz:Z[i]?=some z)(hu:aI w u l)(hf:yD (.slice (some ⟨g,0,none⟩) n c) u):
 gH (w.setCell ⟨g,i*3+1,none⟩ u) B (.slice (some ⟨g,0,none⟩) n c) (Z.set i (⟨z.1.labels,l,z.1.last⟩,z.2.1,u)):=by
 have hk:ak w (w.setCell ⟨g,i*3+1,none⟩ u) (fun k=>(Value.slice (some ⟨g,0,none⟩) n c).ownBlock=some k):=ak.of_grown (ap _ _ _ _) fun k e=>e
 have hzm:=List.mem_of_getElem? hz
 refine⟨?_,fun y hy=>?_⟩
 ·rw[List.length_set,<-db (sz:=3) (fun _=>rfl) Z i 1 z _ u hz (by decide) rfl];exact cF h.1 rfl
 ·rcases List.mem_or_eq_of_mem_set hy with hy|rfl
  ·exact(h.2 y hy).kept hk
  ·have h0:=(h.2 z hzm).kept hk;exact⟨⟨⟨eq hu,h0.1.1.2⟩,h0.1.2.1,hu.far hk hf⟩,h0.2.1,hf⟩
theorem nq(w:World)(e:TypeId)(sz:Nat):(w.alloc (.cells #[] e)).ownsRow w.heap.size e sz (.slice (some ⟨w.heap.size,0,none⟩) 0 0) 0 []:=
 ⟨by simp,.inr ⟨w.heap.size,0,#[],rfl,aF _,ag.new w e #[],aF _,by decide,by simp,by simp⟩⟩
theorem xr{w:World}{Z:List (aO×Value×Value)}(h:∀z∈Z,jf w z):∀u∈aL eT Z,u.oneCell'=true:=by
 intro u hu;unfold aL at hu;obtain⟨z,hz,hu⟩:=List.mem_flatMap.1 hu;obtain⟨_,⟨a,c,e1,_⟩,⟨a',c',e2,_⟩⟩:=h z hz;simp only[eT,List.mem_cons,List.not_mem_nil,or_false] at hu;rcases hu with rfl|rfl|rfl
 ·rw[e1];rfl
 ·rw[e2];rfl
 ·rfl
theorem xp(L:List cH):∀u∈aL gA L,u.oneCell'=true:=by
 intro u hu;unfold aL at hu;obtain⟨z,_,hu⟩:=List.mem_flatMap.1 hu;simp only[gA,List.mem_cons,List.not_mem_nil,or_false] at hu;rcases hu with rfl|rfl<;>rfl
theorem nI{w:World}{a:Option Addr}{n c:Nat}{L:List cH}(h:aI w (.slice a n c) L):∀p,a=some p->∀j u,(aL gA L)[j]?=some u->w.cell? (p.add j)=some u:=by
 intro p hp j u hu;obtain⟨a',c',h1,_,_,_,h5⟩:=h;obtain⟨rfl,rfl,rfl⟩:=Value.slice.inj h1;obtain⟨i,r,z,rfl,h8,h9⟩:=oi (sz:=2) (fun _=>rfl) L j u hu;obtain⟨b,o,e,_,k1,k2⟩:=h5 i z h8;rw[hp] at e;obtain rfl:=az e;rw[du,<-Nat.add_assoc];match r,h9 with
 |0,h9=>obtain rfl:=az h9;exact k1
 |1,h9=>obtain rfl:=az h9;exact k2
 |r+2,h9=>simp[gA] at h9
theorem fQ(v:Value)(S:List aO)(w0 w:World)(h:aM w0 v S)(hbw:Below w0.heap.size w0 w):
 Calls Tryz.prog 86 #[v] w fun e w'=>∃v' Z,e=.returned v'/\Z.map (fun z=>z.1)=S/\(∀z∈Z,jf w0 z)/\w'.ownsRow w.heap.size 88 3 v' Z.length (aL eT Z)/\Below w.heap.size w w':=by
 obtain⟨i0,z0,hin,hz0,hz1,hz2,hz3⟩:=ii.info
 have qn:∀(w:World) (a:Option Addr) (n c n' c':Nat),(binOp .eql 23 (.slice a n c) (.slice none n' c')).run Tryz.prog w=.ok (.bool a.isNone) w:=fun w a n c n' c'=>Lib.run_eql_slice_nil w _ _ a n c n' c' ii.und
 obtain⟨a,c,hv,h2,h3,h4,_⟩:=id h
 cases a with
 |none=>
  have hc:=h2 rfl;obtain rfl:S=[]:=List.length_eq_zero_iff.1 (by omega);subst hv hc;go_enter Tryz.func86,Tryz.ntmps86
  go_wp2_with fail
  go_ret;exact⟨_,rfl,eE,bR⟩
 |some p=>
  subst hv;obtain⟨Z,hZ,hV,hc⟩:=xq h;have hl:S.length=Z.length:=by rw[<-hZ,List.length_map]
  have HZ:=af hZ;have HV:=af hV;have HC:=af (fun W (hb:Below w0.heap.size w0 W) a' (e:some p=some a') j u hj=>(hb.cell (World.block_lt_of_cell? _ _ (hc a' e j u hj))).trans (hc a' e j u hj));have HO:=af (xr hV);have HL:=af (jy (sz:=3) (enc:=eT) (fun _=>rfl) Z);rw[hl] at h3⊢;clear hc hV hZ h h2 h4 hl;go_enter Tryz.func86,Tryz.ntmps86
  go_wp2_with (at_builtin;(refine fj rfl _ _ 23 rfl w.heap.size 88 i0 z0 3 56 ii.und hin hz0 hz1 hz2 hz3 (by decide) _ 0 [] rfl (nq w _ 3) (some p) Z.length c (aL eT Z) rfl (fun e=>by cases e) HL.out (HC.out _ (hbw.trans ((ai w _).mono hbw.size))) HO.out (by unfold maxLen;omega) (by omega) (by simp) ?_);intro v' w5 hown hgrow hloc)
  have hk5:=(ak.alloc w (.cells #[] 88) (fun k=>w.heap.size<=k)).trans (ak.of_grown hgrow fun k e=>by obtain rfl:=az e;exact aF _);have b5:=hk5.below (aF _) fun k e=>e;have HR:=af (show w5.ownsRow w.heap.size 88 3 v' Z.length (aL eT Z) from by rw[Nat.zero_add,List.nil_append] at hown;exact hown);clear hown hgrow hloc hk5 HC HO HL;go_wp2_with fail
  go_ret;exact⟨v',Z,rfl,HZ.out,HV.out,HR.out,b5⟩
theorem pk(v:Value)(L:List cH)(w:World)(h:aI w v L):
 Calls Tryz.prog 96 #[v] w fun e w'=>∃v',e=.returned v'/\w'.ownsRow w.heap.size 127 2 v' L.length (aL gA L)/\Below w.heap.size w w':=by
 obtain⟨i0,z0,hin,hz0,hz1,hz2,hz3⟩:=kO.info
 have qn:∀(w:World) (a:Option Addr) (n c n' c':Nat),(binOp .eql 86 (.slice a n c) (.slice none n' c')).run Tryz.prog w=.ok (.bool a.isNone) w:=fun w a n c n' c'=>Lib.run_eql_slice_nil w _ _ a n c n' c' kO.und
 obtain⟨a,c,hv,h2,h3,h4,_⟩:=id h
 cases a with
 |none=>
  have hc:=h2 rfl;obtain rfl:L=[]:=List.length_eq_zero_iff.1 (by omega);subst hv hc;go_enter Tryz.func96,Tryz.ntmps96
  go_wp2_with fail
  go_ret;exact⟨_,rfl,eE,bR⟩
 |some p=>
  subst hv;have hc:=nI h;have HC:=af (fun W (hb:Below w.heap.size w W) a' (e:some p=some a') j u hj=>(hb.cell (World.block_lt_of_cell? _ _ (hc a' e j u hj))).trans (hc a' e j u hj));have HO:=af (xp L);have HL:=af (jy (sz:=2) (enc:=gA) (fun _=>rfl) L);obtain⟨N,hN⟩:∃N,L.length=N:=⟨_,rfl⟩
  rw[hN] at h3 HL⊢;clear hc h h2 h4 hN;go_enter Tryz.func96,Tryz.ntmps96
  go_wp2_with (at_builtin;(refine fj rfl _ _ 86 rfl w.heap.size 127 i0 z0 2 16 kO.und hin hz0 hz1 hz2 hz3 (by decide) _ 0 [] rfl (nq w _ 2) (some p) N c (aL gA L) rfl (fun e=>by cases e) HL.out (HC.out _ (ai w _)) HO.out (by unfold maxLen;omega) (by omega) (by simp) ?_);intro v' w5 hown hgrow hloc)
  have hk5:=(ak.alloc w (.cells #[] 127) (fun k=>w.heap.size<=k)).trans (ak.of_grown hgrow fun k e=>by obtain rfl:=az e;exact aF _);have b5:=hk5.below (aF _) fun k e=>e;have HR:=af (show w5.ownsRow w.heap.size 127 2 v' N (aL gA L) from by rw[Nat.zero_add,List.nil_append] at hown;exact hown);clear hown hgrow hloc hk5 HC HO HL;go_wp2_with fail
  go_ret;exact⟨v',rfl,HR.out,b5⟩
theorem Ky(x y:cH):(decide (x.1=y.1)&&decide ((x.2:Int)=(y.2:Int)))=decide (x=y):=by
 rw[Bool.eq_iff_iff];simp only[Bool.and_eq_true,decide_eq_true_eq];exact⟨fun ⟨a,b⟩=>Prod.ext a (by omega),fun e=>by subst e;exact⟨rfl,rfl⟩⟩
theorem vE(x y:cH)(w:World):(Op.equalIn 10000 127 (.agg #[.int .i64 x.1,.int .u64 (x.2:Int)]) (.agg #[.int .i64 y.1,.int .u64 (y.2:Int)])).run Tryz.prog w=.ok (decide (x=y)) w:=by
 have u3:=Tryz.underlying2;have u4:=Tryz.underlying67;have hS:Tryz.prog.underlying 127=some (.struct (Tryz.prog.fieldsOf 127)):=by kernel_rfl
 have hp:Tryz.prog.stoodInHeld 127=false:=by kernel_rfl
 have h1:=Ky x y;rw[show (10000:Nat)=9999+1 from rfl,run_equalIn_agg w 9999 127 _ _ hS hp];simp only[Program.fieldsOf,Tryz.underlying127];go_simp;rw[<-h1];by_cases h2:x.1=y.1<;>by_cases h3:(x.2:Int)=(y.2:Int)<;>simp[h2,h3]
theorem Fm(x y:cH)(w:World):(binOp .eql 127 (.agg #[.int .i64 x.1,.int .u64 (x.2:Int)]) (.agg #[.int .i64 y.1,.int .u64 (y.2:Int)])).run Tryz.prog w=.ok (.bool (decide (x=y))) w:=by
 rw[run_eql_struct,vE];rfl
theorem EG(x y:cH)(w:World):(binOp .neq 127 (.agg #[.int .i64 x.1,.int .u64 (x.2:Int)]) (.agg #[.int .i64 y.1,.int .u64 (y.2:Int)])).run Tryz.prog w=.ok (.bool (!decide (x=y))) w:=by
 rw[run_neq_struct,vE];rfl
theorem fO{w:World}{a:Option Addr}{n c:Nat}{L:List cH}(h:aI w (.slice a n c) L){j:Nat}(hj:j<L.length){wr:World}(hb:Below w.heap.size w wr):∃g o,a=some ⟨g,o,none⟩/\ew L[j]/\wr.cell? ⟨g,o+j*2,none⟩=some (.int .i64 L[j].1)/\wr.cell? ⟨g,o+j*2+1,none⟩=some (.int .u64 (L[j].2:Int)):=by
 obtain⟨a',c',h1,_,_,_,h5⟩:=h;obtain⟨rfl,_,_⟩:=Value.slice.inj h1;obtain⟨g,o,e,k1,k2,k3⟩:=h5 j L[j] (aV hj);exact⟨g,o,e,k1,cu hb k2,cu hb k3⟩
theorem Cf(v:Value)(L:List cH)(x:cH)(w:World)(h:aI w v L):
 Calls Tryz.prog 161 #[v,.agg #[.int .i64 x.1,.int .u64 (x.2:Int)]] w fun e w'=>e=.returned (.int .i64 (dU (L.findIdx? fun y=>decide (x=y))))/\Below w.heap.size w w':=by
 have hlen:=h.len
 have H:=af h
 obtain⟨a,c,rfl,_⟩:=h
 obtain⟨N,hN⟩:∃N,L.length=N:=⟨_,rfl⟩
 have HN:=af hN
 rw[hN] at hlen H⊢
 clear hN
 obtain⟨x1,x2⟩:=x
 have b1:=ai w (.cells #[.int .i64 x1,.int .u64 (x2:Int)] 127)
 have k1:=ag.new w 127 #[.int .i64 x1,.int .u64 (x2:Int)]
 go_enter Tryz.func161,Tryz.ntmps161
 go_wp2_with fail
 generalize hW0:w.alloc _=W0 at*
 clear hW0
 go_loopw [5,8] (fun _ vi wr=>∃(i:Nat),i<=N/\vi=.int .i64 (i:Int)/\Below W0.heap.size W0 wr/\Hid (L.findIdx? (fun y=>decide ((x1,x2)=y))=((L.drop i).findIdx? fun y=>decide ((x1,x2)=y)).map (·+i))) (fun _ vi _=>N-(intOf vi).toNat)
 case atStart=>exact⟨0,Nat.zero_le _,rfl,bR,af (by rw[List.drop_zero];cases L.findIdx? (fun y=>decide ((x1,x2)=y))<;>rfl)⟩
 obtain⟨i,hi',rfl,hb,HJ⟩:=hrel
 have hbw:=ay b1 hb
 rcases(show i<N\/i=N by omega) with hil|rfl
 ·have hiL:i<L.length:=by rw[HN.out];exact hil
  obtain⟨b,o,rfl,hok,d0,d1⟩:=fO H.out hiL hbw;have k2:=ag.below k1 hb k1.lt;have e0:=aj (ax k2 0 (.int .i64 x1) rfl);have e1:=aj (ax k2 1 (.int .u64 (x2:Int)) rfl);have g0:=aj d0;have g1:=aj d1;rw[jd _ L i hiL] at HJ;generalize L[i]=y at*;clear hiL hok d0 d1;have hq:=fun W=>Fm (x1,x2) y W;obtain⟨y1,y2⟩:=y;simp only at g0 g1 hq;generalize decide ((x1,x2)=(y1,y2))=bo at*;have hw9:IntKind.i64.wrap ((i:Int)+1)=(i:Int)+1:=ct _ (by omega);go_wp2_with fail
  refine dY ?_;iterate 5 (refine bJ fun K hK=>?_;go_big_quiet_step (fail);refine hK _ ?_;clear hK K)
  (refine nw (v:=.bool bo) (fun W hW=>by have hq1:=hq W;go_simp) fun K hK=>?_;go_big_quiet_step (fail);refine hK _ ?_;clear hK K);refine eR ?_;intro w5 hb5;simp only[aB];have b5:=ay hb hb5;clear e0 e1 g0 g1 hq k2 hb hb5;cases bo with
  |true=>
   have HZ:=af (show dU (L.findIdx? fun y=>decide ((x1,x2)=y))=(i:Int) by rw[HJ.out];simp[dU]);clear HJ;go_wp2_with fail
   go_ret;exact⟨by rw[HZ.out];rfl,ay b1 b5⟩
  |false=>
   have HZ:=af (show L.findIdx? (fun y=>decide ((x1,x2)=y))=((L.drop (i+1)).findIdx? fun y=>decide ((x1,x2)=y)).map (·+(i+1)) by rw[HJ.out,if_neg (by decide)];cases (L.drop (i+1)).findIdx? (fun y=>decide ((x1,x2)=y))<;>simp[Nat.add_assoc,Nat.add_comm 1]);clear HJ;go_wp2_with fail
   go_roundw
   case rel=>exact⟨i+1,hil,by go_num,b5,HZ⟩
   case measure=>simp[intOf];omega
 ·have HZ:=af (show dU (L.findIdx? fun y=>decide ((x1,x2)=y))= -1 by rw[HJ.out,List.drop_of_length_le (by rw[HN.out];exact aF _)];rfl);clear HJ;go_wp2_with fail
  go_ret;exact⟨by rw[HZ.out];rfl,hbw⟩
theorem JH(L:List cH)(x:cH):decide (0<=dU (L.findIdx? fun y=>decide (x=y)))=decide (x∈L):=by
 rw[decide_eq_decide];cases h:L.findIdx? (fun y=>decide (x=y)) with
 |none=>
  rw[List.findIdx?_eq_none_iff] at h;simp only[dU];constructor
  ·intro e;omega
  ·intro hm;have:=h x hm;simp at this
 |some i=>
  simp only[dU];rw[List.findIdx?_eq_some_iff_getElem] at h;obtain⟨hi,h1,_⟩:=h;constructor
  ·intro _;rw[of_decide_eq_true h1];exact dK _
  ·intro _;omega
theorem nS(v:Value)(L:List cH)(x:cH)(w:World)(h:aI w v L):
 Calls Tryz.prog 93 #[v,.agg #[.int .i64 x.1,.int .u64 (x.2:Int)]] w fun e w'=>e=.returned (.bool (decide (x∈L)))/\Below w.heap.size w w':=by
 have b1:=ai w (.cells #[.int .i64 x.1,.int .u64 (x.2:Int)] 127)
 have k1:=ag.new w 127 #[.int .i64 x.1,.int .u64 (x.2:Int)]
 have e0:=ax k1 0 (.int .i64 x.1) rfl
 have e1:=ax k1 1 (.int .u64 (x.2:Int)) rfl
 have q:=af (Cf v L x _ (h.below b1))
 have HM:=af (JH L x)
 generalize dU (L.findIdx? fun y=>decide (x=y))=z at*
 clear k1 h
 go_enter Tryz.func93,Tryz.ntmps93
 go_wp2_with fail
 refine bL q.out fun w1 hb=>?_
 go_wp2_with fail
 go_ret
 exact⟨by rw[<-HM.out];rfl,ay b1 hb⟩
theorem Aj{α:Type}{L M:List α}{i:Nat}(h1:i<L.length)(h2:i<M.length):(L.drop i=M.drop i)↔(L[i]=M[i]/\L.drop (i+1)=M.drop (i+1)):=by
 rw[List.drop_eq_getElem_cons h1,List.drop_eq_getElem_cons h2];exact⟨fun e=>List.cons.inj e,fun ⟨a,b⟩=>by rw[a,b]⟩
theorem um(v u:Value)(L M:List cH)(w:World)(h1:aI w v L)(h2:aI w u M):
 Calls Tryz.prog 73 #[v,u] w fun e w'=>e=.returned (.bool (decide (L=M)))/\Below w.heap.size w w':=by
 have hlen:=h1.len
 have hlen2:=h2.len
 have H1:=af h1
 have H2:=af h2
 obtain⟨a,c,rfl,_⟩:=h1
 obtain⟨a2,c2,rfl,_⟩:=h2
 by_cases hl:L.length=M.length
 ·obtain⟨N,hN⟩:∃N,L.length=N:=⟨_,rfl⟩
  have HN:=af hN;have HM:=af (hl.symm.trans hN);rw[<-hl,hN] at H2 hlen2⊢;rw[hN] at H1 hlen;clear hN hl;go_enter Tryz.func73,Tryz.ntmps73
  go_wp2_with fail
  go_loopw [5,13] (fun _ vi wr=>∃(i:Nat),i<=N/\vi=.int .i64 (i:Int)/\Below w.heap.size w wr/\Hid (L=M↔L.drop i=M.drop i)) (fun _ vi _=>N-(intOf vi).toNat)
  case atStart=>exact⟨0,Nat.zero_le _,rfl,bR,af (by rw[List.drop_zero,List.drop_zero])⟩
  obtain⟨i,hi',rfl,hb,HJ⟩:=hrel;rcases(show i<N\/i=N by omega) with hil|rfl
  ·have hiL:i<L.length:=by rw[HN.out];exact hil
   have hiM:i<M.length:=by rw[HM.out];exact hil
   obtain⟨b,o,rfl,_,d0,d1⟩:=fO H1.out hiL hb;obtain⟨b2,o2,rfl,_,d2,d3⟩:=fO H2.out hiM hb;have g0:=aj d0;have g1:=aj d1;have g2:=aj d2;have g3:=aj d3;rw[Aj hiL hiM] at HJ;generalize L[i]=y at*;generalize M[i]=z at*;clear hiL hiM d0 d1 d2 d3;have hq:=fun W=>EG y z W;obtain⟨y1,y2⟩:=y;obtain⟨z1,z2⟩:=z;simp only at g0 g1 g2 g3 hq;have HB:=af (show decide ((y1,y2)=(z1,z2))=true↔(y1,y2)=(z1,z2) from decide_eq_true_iff);generalize decide ((y1,y2)=(z1,z2))=bo at*;have hw9:IntKind.i64.wrap ((i:Int)+1)=(i:Int)+1:=ct _ (by omega);go_wp2_with fail
   refine dY ?_;iterate 8 (refine bJ fun K hK=>?_;go_big_quiet_step (fail);refine hK _ ?_;clear hK K)
   (refine nw (v:=.bool (!bo)) (fun W hW=>by have hq1:=hq W;go_simp) fun K hK=>?_;go_big_quiet_step (fail);refine hK _ ?_;clear hK K);refine eR ?_;intro w5 hb5;simp only[aB];have b5:=ay hb hb5;clear g0 g1 g2 g3 hq hb hb5;cases bo with
   |false=>
    have HZ:=af (show decide (L=M)=false from decide_eq_false fun e=>by have:=HB.out.2 (HJ.out.1 e).1;cases this);clear HJ HB;go_wp2_with fail
    go_ret;exact⟨by rw[HZ.out];rfl,b5⟩
   |true=>
    have HZ:=af (show L=M↔L.drop (i+1)=M.drop (i+1) from HJ.out.trans ⟨fun e=>e.2,fun e=>⟨HB.out.1 rfl,e⟩⟩);clear HJ HB;go_wp2_with fail
    go_roundw
    case rel=>exact⟨i+1,hil,by go_num,b5,HZ⟩
    case measure=>simp[intOf];omega
  ·have HZ:=af (show decide (L=M)=true from decide_eq_true (HJ.out.2 (by rw[List.drop_of_length_le (by rw[HN.out];exact aF _),List.drop_of_length_le (by rw[HM.out];exact aF _)])));clear HJ;go_wp2_with fail
   go_ret;exact⟨by rw[HZ.out];rfl,hb⟩
 ·have HZ:=af (show decide (L=M)=false from decide_eq_false fun e=>hl (by rw[e]));have hne:((L.length:Int)==(M.length:Int))=false:=by simp;omega
  have hne2:¬((L.length:Int)=(M.length:Int)):=by omega
  clear hl;go_enter Tryz.func73,Tryz.ntmps73
  go_wp2_with fail
  go_ret;exact⟨by rw[HZ.out];rfl,bR⟩
def ir {α:Type}(p:α->α->Bool):List α->List α->Bool
 |[],[]=>true
 |x::l,y::m=>p x y&&ir p l m
 |_,_=>false
theorem uF{α:Type}(p:α->α->Bool):∀L M:List α,L.length≠M.length->ir p L M=false
 |[],[],h=>absurd rfl h
 |x::l,y::m,h=>by
  unfold ir;rw[uF p l m (fun e=>h (by rw[cY,cY,e])),Bool.and_false]
 |[],y::m,_=>rfl
 |x::l,[],_=>rfl
theorem wM{α:Type}(p:α->α->Bool){L M:List α}{i:Nat}(h1:i<L.length)(h2:i<M.length):ir p (L.drop i) (M.drop i)=(p L[i] M[i]&&ir p (L.drop (i+1)) (M.drop (i+1))):=by
 rw[List.drop_eq_getElem_cons h1,List.drop_eq_getElem_cons h2];rfl
theorem li:∀L M:List aO,jk L M=ir fm L M
 |[],[]=>rfl
 |x::l,y::m=>by unfold jk ir;rw[li l m]
 |[],y::m=>rfl
 |x::l,[]=>rfl
theorem qQ:∀L M:List Rc,rZ L M=ir nK L M
 |[],[]=>rfl
 |x::l,y::m=>by unfold rZ ir;rw[qQ l m]
 |[],y::m=>rfl
 |x::l,[]=>rfl
def KQ (w:World)(x:Rc)(sl:Value):Prop:=x.ok/\aC w sl x.labels
def yC(f:Nat)(p:aO->aO->Bool)(w:World):Prop:=∀(x y:aO) (sl sv tl tv:Value) (W:World),Below w.heap.size w W->jf W (x,sl,sv)->jf W (y,tl,tv)->
 Calls Tryz.prog f #[.agg #[sl,sv,.int .i64 x.last],.agg #[tl,tv,.int .i64 y.last]] W fun e W'=>e=.returned (.bool (p x y))/\Below W.heap.size W W'
theorem nB(f:Nat)(p:aO->aO->Bool)(v u:Value)(L M:List aO)(w:World)(h1:aM w v L)(h2:aM w u M)(hlen:L.length<=1048576)(hlen2:M.length<=1048576)(hp:yC f p w)(hcf:∀args W,(callFunc f args).run Tryz.prog W=.ok (.enter f args) W):
 Calls Tryz.prog 75 #[v,u,.func (.func f) #[] #[]] w fun e w'=>e=.returned (.bool (ir p L M))/\Below w.heap.size w w':=by
 obtain⟨a,c,rfl,_,_,_,h1⟩:=h1
 obtain⟨a2,c2,rfl,_,_,_,h2⟩:=h2
 have HP:=af hp
 clear hp
 by_cases hl:L.length=M.length
 ·obtain⟨N,hN⟩:∃N,L.length=N:=⟨_,rfl⟩
  have HN:=af hN;have HM:=af (hl.symm.trans hN);have H1:=af h1;have H2:=af h2;rw[<-hl,hN] at hlen2⊢;rw[hN] at hlen;clear hN hl h1 h2;go_enter Tryz.func75,Tryz.ntmps75
  go_wp2_with fail
  go_loopw [7,17] (fun _ vi wr=>∃(i:Nat),i<=N/\vi=.int .i64 (i:Int)/\Below w.heap.size w wr/\Hid (ir p L M=ir p (L.drop i) (M.drop i))) (fun _ vi _=>N-(intOf vi).toNat)
  case atStart=>exact⟨0,Nat.zero_le _,rfl,bR,af (by rw[List.drop_zero,List.drop_zero])⟩
  obtain⟨i,hi',rfl,hb,HJ⟩:=hrel;rcases(show i<N\/i=N by omega) with hil|rfl
  ·have hiL:i<L.length:=by rw[HN.out];exact hil
   have hiM:i<M.length:=by rw[HM.out];exact hil
   obtain⟨b,o,rfl,k1⟩:=H1.out i L[i] (aV hiL);obtain⟨b2,o2,rfl,k2⟩:=H2.out i M[i] (aV hiM);rw[wM p hiL hiM] at HJ;generalize L[i]=x at*;generalize M[i]=y at*;clear hiL hiM;obtain⟨hx,sl,sv,sd0,sk1,sd1,sk2,sd2⟩:=k1.below hb;obtain⟨hy,tl,tv,td0,tk1,td1,tk2,td2⟩:=k2.below hb;obtain⟨sa,sc,rfl,_⟩:=id sk1;obtain⟨sb,se,rfl,_⟩:=id sk2;obtain⟨ta,tc,rfl,_⟩:=id tk1;obtain⟨tb,te,rfl,_⟩:=id tk2;have bA:=ai wr (.cells #[(Value.slice sa x.labels.length sc),(Value.slice sb x.samples.length se),.int .i64 x.last] 88);have bB:=bA.alloc bA.size (.cells #[(Value.slice ta y.labels.length tc),(Value.slice tb y.samples.length te),.int .i64 y.last] 88);have BB:=ay hb bB;have q:=af (HP.out x y _ _ _ _ _ BB ⟨hx,sk1.below bB,sk2.below bB⟩ ⟨hy,tk1.below bB,tk2.below bB⟩);have kA:=ag.alloc (ag.new wr 88 #[(Value.slice sa x.labels.length sc),(Value.slice sb x.samples.length se),.int .i64 x.last]) (.cells #[(Value.slice ta y.labels.length tc),(Value.slice tb y.samples.length te),.int .i64 y.last] 88);have kB:=ag.new (wr.alloc (.cells #[(Value.slice sa x.labels.length sc),(Value.slice sb x.samples.length se),.int .i64 x.last] 88)) 88 #[(Value.slice ta y.labels.length tc),(Value.slice tb y.samples.length te),.int .i64 y.last];rw[aW] at kB;have u0:=(ag.cell kA 0).trans (show _=some ((Value.slice sa x.labels.length sc):Value) from rfl);have u1:=(ag.cell kA 1).trans (show _=some ((Value.slice sb x.samples.length se):Value) from rfl);have u2:=(ag.cell kA 2).trans (show _=some (.int .i64 x.last:Value) from rfl);have z0:=(ag.cell kB 0).trans (show _=some ((Value.slice ta y.labels.length tc):Value) from rfl);have z1:=(ag.cell kB 1).trans (show _=some ((Value.slice tb y.samples.length te):Value) from rfl);have z2:=(ag.cell kB 2).trans (show _=some (.int .i64 y.last:Value) from rfl);have m0:=cu bA td0;have m1:=cu bA td1;have m2:=cu bA td2;obtain⟨bo,hbo⟩:∃bo,p x y=bo:=⟨_,rfl⟩
   rw[hbo] at HJ q;clear hbo kA kB k1 k2 sk1 sk2 tk1 tk2 hx hy bA;have hw9:IntKind.i64.wrap ((i:Int)+1)=(i:Int)+1:=ct _ (by omega);go_wp2_with fail
   refine bL q.out fun w5 hb5=>?_;have b5:=ay BB hb5;clear q hb5 BB bB u0 z0 m0 u1 z1 m1 u2 z2 m2;cases bo with
   |false=>
    have HZ:=af (show ir p L M=false by rw[HJ.out,Bool.false_and]);clear HJ;go_wp2_with fail
    go_ret;exact⟨by rw[HZ.out];rfl,b5⟩
   |true=>
    have HZ:=af (show ir p L M=ir p (L.drop (i+1)) (M.drop (i+1)) by rw[HJ.out,Bool.true_and]);clear HJ;go_wp2_with fail
    go_roundw
    case rel=>exact⟨i+1,hil,by go_num,b5,HZ⟩
    case measure=>simp[intOf];omega
  ·have HZ:=af (show ir p L M=true by rw[HJ.out,List.drop_of_length_le (by rw[HN.out];exact aF _),List.drop_of_length_le (by rw[HM.out];exact aF _)];rfl);clear HJ;go_wp2_with fail
   go_ret;exact⟨by rw[HZ.out];rfl,hb⟩
 ·have HZ:=af (uF p L M hl);have hne2:¬((L.length:Int)=(M.length:Int)):=by omega
  clear hl h1 h2;go_enter Tryz.func75,Tryz.ntmps75
  go_wp2_with fail
  go_ret;exact⟨by rw[HZ.out];rfl,bR⟩
def DS(f:Nat)(p:Rc->Rc->Bool)(w:World):Prop:=∀(x y:Rc) (sl tl:Value) (W:World),Below w.heap.size w W->KQ W x sl->KQ W y tl->
 Calls Tryz.prog f #[.agg #[.int .i64 x.kind,sl,.int .i64 x.t,.int .i64 x.u,.int .u64 (x.v:Int)],.agg #[.int .i64 y.kind,tl,.int .i64 y.t,.int .i64 y.u,.int .u64 (y.v:Int)]] W fun e W'=>e=.returned (.bool (p x y))/\Below W.heap.size W W'
theorem Cr(f:Nat)(p:Rc->Rc->Bool)(v u:Value)(L M:List Rc)(w:World)(h1:dw w v L)(h2:dw w u M)(hlen:L.length<=1048576)(hlen2:M.length<=1048576)(hp:DS f p w)(hcf:∀args W,(callFunc f args).run Tryz.prog W=.ok (.enter f args) W):
 Calls Tryz.prog 74 #[v,u,.func (.func f) #[] #[]] w fun e w'=>e=.returned (.bool (ir p L M))/\Below w.heap.size w w':=by
 obtain⟨a,c,rfl,_,h1⟩:=h1
 obtain⟨a2,c2,rfl,_,h2⟩:=h2
 have HP:=af hp
 clear hp
 by_cases hl:L.length=M.length
 ·obtain⟨N,hN⟩:∃N,L.length=N:=⟨_,rfl⟩
  have HN:=af hN;have HM:=af (hl.symm.trans hN);have H1:=af h1;have H2:=af h2;rw[<-hl,hN] at hlen2⊢;rw[hN] at hlen;clear hN hl h1 h2;go_enter Tryz.func74,Tryz.ntmps74
  go_wp2_with fail
  go_loopw [7,17] (fun _ vi wr=>∃(i:Nat),i<=N/\vi=.int .i64 (i:Int)/\Below w.heap.size w wr/\Hid (ir p L M=ir p (L.drop i) (M.drop i))) (fun _ vi _=>N-(intOf vi).toNat)
  case atStart=>exact⟨0,Nat.zero_le _,rfl,bR,af (by rw[List.drop_zero,List.drop_zero])⟩
  obtain⟨i,hi',rfl,hb,HJ⟩:=hrel;rcases(show i<N\/i=N by omega) with hil|rfl
  ·have hiL:i<L.length:=by rw[HN.out];exact hil
   have hiM:i<M.length:=by rw[HM.out];exact hil
   obtain⟨b,o,rfl,k1⟩:=H1.out i L[i] (aV hiL);obtain⟨b2,o2,rfl,k2⟩:=H2.out i M[i] (aV hiM);rw[wM p hiL hiM] at HJ;generalize L[i]=x at*;generalize M[i]=y at*;clear hiL hiM;obtain⟨hx,sl,sd0,sd1,sk1,sd2,sd3,sd4⟩:=k1.below hb;obtain⟨hy,tl,td0,td1,tk1,td2,td3,td4⟩:=k2.below hb;obtain⟨sa,sc,rfl,_⟩:=id sk1;obtain⟨ta,tc,rfl,_⟩:=id tk1;have bA:=ai wr (.cells #[.int .i64 x.kind,(Value.slice sa x.labels.length sc),.int .i64 x.t,.int .i64 x.u,.int .u64 (x.v:Int)] 108);have bB:=bA.alloc bA.size (.cells #[.int .i64 y.kind,(Value.slice ta y.labels.length tc),.int .i64 y.t,.int .i64 y.u,.int .u64 (y.v:Int)] 108);have BB:=ay hb bB;have q:=af (HP.out x y _ _ _ BB ⟨hx,sk1.below bB⟩ ⟨hy,tk1.below bB⟩);have kA:=ag.alloc (ag.new wr 108 #[.int .i64 x.kind,(Value.slice sa x.labels.length sc),.int .i64 x.t,.int .i64 x.u,.int .u64 (x.v:Int)]) (.cells #[.int .i64 y.kind,(Value.slice ta y.labels.length tc),.int .i64 y.t,.int .i64 y.u,.int .u64 (y.v:Int)] 108);have kB:=ag.new (wr.alloc (.cells #[.int .i64 x.kind,(Value.slice sa x.labels.length sc),.int .i64 x.t,.int .i64 x.u,.int .u64 (x.v:Int)] 108)) 108 #[.int .i64 y.kind,(Value.slice ta y.labels.length tc),.int .i64 y.t,.int .i64 y.u,.int .u64 (y.v:Int)];rw[aW] at kB;have u0:=(ag.cell kA 0).trans (show _=some (.int .i64 x.kind:Value) from rfl);have u1:=(ag.cell kA 1).trans (show _=some ((Value.slice sa x.labels.length sc):Value) from rfl);have u2:=(ag.cell kA 2).trans (show _=some (.int .i64 x.t:Value) from rfl);have u3:=(ag.cell kA 3).trans (show _=some (.int .i64 x.u:Value) from rfl);have u4:=(ag.cell kA 4).trans (show _=some (.int .u64 (x.v:Int):Value) from rfl);have z0:=(ag.cell kB 0).trans (show _=some (.int .i64 y.kind:Value) from rfl);have z1:=(ag.cell kB 1).trans (show _=some ((Value.slice ta y.labels.length tc):Value) from rfl);have z2:=(ag.cell kB 2).trans (show _=some (.int .i64 y.t:Value) from rfl);have z3:=(ag.cell kB 3).trans (show _=some (.int .i64 y.u:Value) from rfl);have z4:=(ag.cell kB 4).trans (show _=some (.int .u64 (y.v:Int):Value) from rfl);have m0:=cu bA td0;have m1:=cu bA td1;have m2:=cu bA td2;have m3:=cu bA td3;have m4:=cu bA td4;obtain⟨bo,hbo⟩:∃bo,p x y=bo:=⟨_,rfl⟩
   rw[hbo] at HJ q;clear hbo kA kB k1 k2 sk1 tk1 hx hy bA;have hw9:IntKind.i64.wrap ((i:Int)+1)=(i:Int)+1:=ct _ (by omega);go_wp2_with fail
   refine bL q.out fun w5 hb5=>?_;have b5:=ay BB hb5;clear q hb5 BB bB u0 z0 m0 u1 z1 m1 u2 z2 m2 u3 z3 m3 u4 z4 m4;cases bo with
   |false=>
    have HZ:=af (show ir p L M=false by rw[HJ.out,Bool.false_and]);clear HJ;go_wp2_with fail
    go_ret;exact⟨by rw[HZ.out];rfl,b5⟩
   |true=>
    have HZ:=af (show ir p L M=ir p (L.drop (i+1)) (M.drop (i+1)) by rw[HJ.out,Bool.true_and]);clear HJ;go_wp2_with fail
    go_roundw
    case rel=>exact⟨i+1,hil,by go_num,b5,HZ⟩
    case measure=>simp[intOf];omega
  ·have HZ:=af (show ir p L M=true by rw[HJ.out,List.drop_of_length_le (by rw[HN.out];exact aF _),List.drop_of_length_le (by rw[HM.out];exact aF _)];rfl);clear HJ;go_wp2_with fail
   go_ret;exact⟨by rw[HZ.out];rfl,hb⟩
 ·have HZ:=af (uF p L M hl);have hne2:¬((L.length:Int)=(M.length:Int)):=by omega
  clear hl h1 h2;go_enter Tryz.func74,Tryz.ntmps74
  go_wp2_with fail
  go_ret;exact⟨by rw[HZ.out];rfl,bR⟩
theorem A9(w:World):yC 90 fm w:=by
 intro x y sl sv tl tv W _ hS hT;obtain⟨xl,xs,a⟩:=x;obtain⟨yl,ys,b⟩:=y;have b1:=ai W (.cells #[sl,sv,.int .i64 a] 88);have b2:=b1.alloc b1.size (.cells #[tl,tv,.int .i64 b] 88);have k1:=ag.alloc (ag.new W 88 #[sl,sv,.int .i64 a]) (.cells #[tl,tv,.int .i64 b] 88);have k2:=ag.new (W.alloc (.cells #[sl,sv,.int .i64 a] 88)) 88 #[tl,tv,.int .i64 b];rw[aW] at k2;have u0:=ax k1 0 sl rfl;have u1:=ax k1 1 sv rfl;have u2:=ax k1 2 (.int .i64 a) rfl;have z0:=ax k2 0 tl rfl;have z1:=ax k2 1 tv rfl;have z2:=ax k2 2 (.int .i64 b) rfl;have q1:=af (m5 xl yl sl tl _ (hS.2.1.below b2) (hT.2.1.below b2));have q2:=af (fun W' (hb:Below W.heap.size W W')=>um sv tv xs ys W' (hS.2.2.below hb) (hT.2.2.below hb));have HZ:=af (show fm ⟨xl,xs,a⟩ ⟨yl,ys,b⟩=(decide (a=b)&&(hU xl yl&&decide (xs=ys))) from rfl);have HK:=af (fun W' (hb:Below (((W.alloc (.cells #[sl,sv,.int .i64 a] 88)).alloc (.cells #[tl,tv,.int .i64 b] 88)).heap.size) ((W.alloc (.cells #[sl,sv,.int .i64 a] 88)).alloc (.cells #[tl,tv,.int .i64 b] 88)) W')=>And.intro (cu hb u1) (cu hb z1));generalize hU xl yl=s1 at*;generalize decide (xs=ys)=s2 at*;clear k1 k2 hS hT;by_cases hab:a=b
 ·subst hab;rw[decide_eq_true rfl,Bool.true_and] at HZ;go_enter Tryz.func90,Tryz.ntmps90
  go_wp2_with fail
  refine bL q1.out fun w1 hb1=>?_;obtain⟨c1,c2⟩:=HK.out w1 hb1;have B1:=ay b2 hb1;clear u0 u1 u2 z0 z1 z2 q1 HK;cases s1 with
  |false=>
   go_wp2_with fail
   go_ret;exact⟨by rw[HZ.out];rfl,B1⟩
  |true=>
   go_wp2_with fail
   refine(q2.out _ B1).mono ?_;rintro e w2 ⟨rfl,hb2⟩;go_wp2_with fail
   go_ret;exact⟨by rw[HZ.out];rfl,ay B1 hb2⟩
 ·rw[decide_eq_false hab,Bool.false_and] at HZ;clear q1 q2 HK;go_enter Tryz.func90,Tryz.ntmps90
  go_wp2_with fail
  go_ret;exact⟨by rw[HZ.out];rfl,b2⟩
theorem CH(w:World):yC 72 fm w:=by
 intro x y sl sv tl tv W _ hS hT;obtain⟨xl,xs,a⟩:=x;obtain⟨yl,ys,b⟩:=y;have b1:=ai W (.cells #[sl,sv,.int .i64 a] 88);have b2:=b1.alloc b1.size (.cells #[tl,tv,.int .i64 b] 88);have k1:=ag.alloc (ag.new W 88 #[sl,sv,.int .i64 a]) (.cells #[tl,tv,.int .i64 b] 88);have k2:=ag.new (W.alloc (.cells #[sl,sv,.int .i64 a] 88)) 88 #[tl,tv,.int .i64 b];rw[aW] at k2;have u0:=ax k1 0 sl rfl;have u1:=ax k1 1 sv rfl;have u2:=ax k1 2 (.int .i64 a) rfl;have z0:=ax k2 0 tl rfl;have z1:=ax k2 1 tv rfl;have z2:=ax k2 2 (.int .i64 b) rfl;have q1:=af (m5 xl yl sl tl _ (hS.2.1.below b2) (hT.2.1.below b2));have q2:=af (fun W' (hb:Below W.heap.size W W')=>um sv tv xs ys W' (hS.2.2.below hb) (hT.2.2.below hb));have HZ:=af (show fm ⟨xl,xs,a⟩ ⟨yl,ys,b⟩=(decide (a=b)&&(hU xl yl&&decide (xs=ys))) from rfl);have HK:=af (fun W' (hb:Below (((W.alloc (.cells #[sl,sv,.int .i64 a] 88)).alloc (.cells #[tl,tv,.int .i64 b] 88)).heap.size) ((W.alloc (.cells #[sl,sv,.int .i64 a] 88)).alloc (.cells #[tl,tv,.int .i64 b] 88)) W')=>And.intro (cu hb u1) (cu hb z1));generalize hU xl yl=s1 at*;generalize decide (xs=ys)=s2 at*;clear k1 k2 hS hT;by_cases hab:a=b
 ·subst hab;rw[decide_eq_true rfl,Bool.true_and] at HZ;go_enter Tryz.func72,Tryz.ntmps72
  go_wp2_with fail
  refine bL q1.out fun w1 hb1=>?_;obtain⟨c1,c2⟩:=HK.out w1 hb1;have B1:=ay b2 hb1;clear u0 u1 u2 z0 z1 z2 q1 HK;cases s1 with
  |false=>
   go_wp2_with fail
   go_ret;exact⟨by rw[HZ.out];rfl,B1⟩
  |true=>
   go_wp2_with fail
   refine(q2.out _ B1).mono ?_;rintro e w2 ⟨rfl,hb2⟩;go_wp2_with fail
   go_ret;exact⟨by rw[HZ.out];rfl,ay B1 hb2⟩
 ·rw[decide_eq_false hab,Bool.false_and] at HZ;clear q1 q2 HK;go_enter Tryz.func72,Tryz.ntmps72
  go_wp2_with fail
  go_ret;exact⟨by rw[HZ.out];rfl,b2⟩
theorem CI(w:World):DS 70 nK w:=by
 intro x y sl tl W _ hS hT;obtain⟨k,xl,a,b,c⟩:=x;obtain⟨k2,yl,a2,b2,c2⟩:=y;have b1:=ai W (.cells #[.int .i64 k,sl,.int .i64 a,.int .i64 b,.int .u64 (c:Int)] 108);have bb:=b1.alloc b1.size (.cells #[.int .i64 k2,tl,.int .i64 a2,.int .i64 b2,.int .u64 (c2:Int)] 108);have m1:=ag.alloc (ag.new W 108 #[.int .i64 k,sl,.int .i64 a,.int .i64 b,.int .u64 (c:Int)]) (.cells #[.int .i64 k2,tl,.int .i64 a2,.int .i64 b2,.int .u64 (c2:Int)] 108);have m2:=ag.new (W.alloc (.cells #[.int .i64 k,sl,.int .i64 a,.int .i64 b,.int .u64 (c:Int)] 108)) 108 #[.int .i64 k2,tl,.int .i64 a2,.int .i64 b2,.int .u64 (c2:Int)];rw[aW] at m2;have u0:=(ag.cell m1 0).trans (show _=some (.int .i64 k:Value) from rfl);have z0:=(ag.cell m2 0).trans (show _=some (.int .i64 k2:Value) from rfl);have u1:=(ag.cell m1 1).trans (show _=some (sl:Value) from rfl);have z1:=(ag.cell m2 1).trans (show _=some (tl:Value) from rfl);have u2:=(ag.cell m1 2).trans (show _=some (.int .i64 a:Value) from rfl);have z2:=(ag.cell m2 2).trans (show _=some (.int .i64 a2:Value) from rfl);have u3:=(ag.cell m1 3).trans (show _=some (.int .i64 b:Value) from rfl);have z3:=(ag.cell m2 3).trans (show _=some (.int .i64 b2:Value) from rfl);have u4:=(ag.cell m1 4).trans (show _=some (.int .u64 (c:Int):Value) from rfl);have z4:=(ag.cell m2 4).trans (show _=some (.int .u64 (c2:Int):Value) from rfl);have q1:=af (m5 xl yl sl tl _ (hS.2.below bb) (hT.2.below bb));have HZ:=af (show nK ⟨k,xl,a,b,c⟩ ⟨k2,yl,a2,b2,c2⟩=(decide (k=k2)&&(decide (a=a2)&&(decide (b=b2)&&(decide (c=c2)&&hU xl yl)))) from rfl);generalize hU xl yl=s1 at*;clear m1 m2 hS hT;go_enter Tryz.func70,Tryz.ntmps70
 by_cases hk:k=k2
 case neg=>
  rw[decide_eq_false hk,Bool.false_and] at HZ;clear q1;go_wp2_with fail
  go_ret;exact⟨by rw[HZ.out];rfl,bb⟩
 subst hk;rw[decide_eq_true rfl,Bool.true_and] at HZ;by_cases ha:a=a2
 case neg=>
  rw[decide_eq_false ha,Bool.false_and] at HZ;clear q1;go_wp2_with fail
  go_ret;exact⟨by rw[HZ.out];rfl,bb⟩
 subst ha;rw[decide_eq_true rfl,Bool.true_and] at HZ;by_cases hb:b=b2
 case neg=>
  rw[decide_eq_false hb,Bool.false_and] at HZ;clear q1;go_wp2_with fail
  go_ret;exact⟨by rw[HZ.out];rfl,bb⟩
 subst hb;rw[decide_eq_true rfl,Bool.true_and] at HZ;by_cases hc:c=c2
 case neg=>
  rw[decide_eq_false hc,Bool.false_and] at HZ;have hcc:¬((c:Int)=(c2:Int)):=by omega
  clear q1;go_wp2_with fail
  go_ret;exact⟨by rw[HZ.out];rfl,bb⟩
 subst hc;rw[decide_eq_true rfl,Bool.true_and] at HZ;go_wp2_with fail
 refine bL q1.out fun w1 hb1=>?_;go_wp2_with fail
 go_ret;exact⟨by rw[HZ.out];rfl,ay bb hb1⟩
theorem qq(va vb:Value)(s t:kt)(w:World)(h1:aM w va s.ser)(h2:aM w vb t.ser):
 Calls Tryz.prog 26 #[.agg #[va,.int .i64 s.floor],.agg #[vb,.int .i64 t.floor]] w fun e w'=>e=.returned (.bool (vG s t))/\Below w.heap.size w w':=by
 obtain⟨S,a⟩:=s
 obtain⟨T,b⟩:=t
 have l1:=h1.len
 have l2:=h2.len
 simp only at h1 h2 l1 l2⊢
 have b1:=ai w (.cells #[va,.int .i64 a] 49)
 have bb:=b1.alloc b1.size (.cells #[vb,.int .i64 b] 49)
 have k1:=ag.alloc (ag.new w 49 #[va,.int .i64 a]) (.cells #[vb,.int .i64 b] 49)
 have k2:=ag.new (w.alloc (.cells #[va,.int .i64 a] 49)) 49 #[vb,.int .i64 b]
 rw[aW] at k2
 have u0:=ax k1 0 va rfl
 have u1:=ax k1 1 (.int .i64 a) rfl
 have z0:=ax k2 0 vb rfl
 have z1:=ax k2 1 (.int .i64 b) rfl
 have q:=af (nB 90 fm va vb S T _ (h1.below bb) (h2.below bb) (by omega) (by omega) (A9 _) (fun args W=>by go_simp))
 have HZ:=af (show vG ⟨S,a⟩ ⟨T,b⟩=(decide (a=b)&&ir fm S T) from by unfold vG;rw[li])
 generalize ir fm S T=s1 at*
 clear k1 k2 h1 h2
 by_cases hab:a=b
 ·subst hab;rw[decide_eq_true rfl,Bool.true_and] at HZ;go_enter Tryz.func26,Tryz.ntmps26
  go_wp2_with fail
  refine bL q.out fun w1 hb1=>?_;go_wp2_with fail
  go_ret;exact⟨by rw[HZ.out];rfl,ay bb hb1⟩
 ·rw[decide_eq_false hab,Bool.false_and] at HZ;clear q;go_enter Tryz.func26,Tryz.ntmps26
  go_wp2_with fail
  go_ret;exact⟨by rw[HZ.out];rfl,bb⟩
def jE(w:World)(gv sv:Value)(b:nd):Prop:=(-9223372036854775808<=b.floor/\b.floor<=9223372036854775807)/\dw w gv b.gone/\aM w sv b.ser
theorem jE.below{w w':World}{gv sv:Value}{b:nd}(h:jE w gv sv b)(hb:Below w.heap.size w w'):jE w' gv sv b:=⟨h.1,h.2.1.below hb,h.2.2.below hb⟩
theorem qx(ga sa gb sb:Value)(s t:nd)(w:World)(h1:jE w ga sa s)(h2:jE w gb sb t):
 Calls Tryz.prog 19 #[.agg #[.int .i64 s.floor,ga,sa],.agg #[.int .i64 t.floor,gb,sb]] w fun e w'=>e=.returned (.bool (qR s t))/\Below w.heap.size w w':=by
 obtain⟨a,R,S⟩:=s
 obtain⟨b,R2,T⟩:=t
 obtain⟨_,hR1,hS1⟩:=h1
 obtain⟨_,hR2,hS2⟩:=h2
 simp only at hR1 hR2 hS1 hS2⊢
 have l1:=hS1.len
 have l2:=hS2.len
 have b1:=ai w (.cells #[.int .i64 a,ga,sa] 25)
 have bb:=b1.alloc b1.size (.cells #[.int .i64 b,gb,sb] 25)
 have k1:=ag.alloc (ag.new w 25 #[.int .i64 a,ga,sa]) (.cells #[.int .i64 b,gb,sb] 25)
 have k2:=ag.new (w.alloc (.cells #[.int .i64 a,ga,sa] 25)) 25 #[.int .i64 b,gb,sb]
 rw[aW] at k2
 have u0:=ax k1 0 (.int .i64 a) rfl
 have u1:=ax k1 1 ga rfl
 have u2:=ax k1 2 sa rfl
 have z0:=ax k2 0 (.int .i64 b) rfl
 have z1:=ax k2 1 gb rfl
 have z2:=ax k2 2 sb rfl
 have q1:=af (Cr 70 nK ga gb R R2 _ (hR1.below bb) (hR2.below bb) (by obtain⟨_,_,_,h,_⟩:=hR1;exact h) (by obtain⟨_,_,_,h,_⟩:=hR2;exact h) (CI _) (fun args W=>by go_simp))
 have q2:=af (fun W (hb:Below w.heap.size w W)=>nB 72 fm sa sb S T W (hS1.below hb) (hS2.below hb) (by omega) (by omega) (CH _) (fun args W=>by go_simp))
 have HZ:=af (show qR ⟨a,R,S⟩ ⟨b,R2,T⟩=(decide (a=b)&&(ir nK R R2&&ir fm S T)) from by unfold qR;rw[li,qQ])
 have HK:=af (fun W' (hb:Below (((w.alloc (.cells #[.int .i64 a,ga,sa] 25)).alloc (.cells #[.int .i64 b,gb,sb] 25)).heap.size) ((w.alloc (.cells #[.int .i64 a,ga,sa] 25)).alloc (.cells #[.int .i64 b,gb,sb] 25)) W')=>And.intro (cu hb u2) (cu hb z2))
 generalize ir nK R R2=s1 at*
 generalize ir fm S T=s2 at*
 clear k1 k2 hR1 hR2 hS1 hS2
 by_cases hab:a=b
 ·subst hab;rw[decide_eq_true rfl,Bool.true_and] at HZ;go_enter Tryz.func19,Tryz.ntmps19
  go_wp2_with fail
  refine bL q1.out fun w1 hb1=>?_;obtain⟨c1,c2⟩:=HK.out w1 hb1;have B1:=ay bb hb1;clear u0 u1 u2 z0 z1 z2 q1 HK;cases s1 with
  |false=>
   go_wp2_with fail
   go_ret;exact⟨by rw[HZ.out];rfl,B1⟩
  |true=>
   go_wp2_with fail
   refine(q2.out _ B1).mono ?_;rintro e w2 ⟨rfl,hb2⟩;go_wp2_with fail
   go_ret;exact⟨by rw[HZ.out];rfl,ay B1 hb2⟩
 ·rw[decide_eq_false hab,Bool.false_and] at HZ;clear q1 q2 HK;go_enter Tryz.func19,Tryz.ntmps19
  go_wp2_with fail
  go_ret;exact⟨by rw[HZ.out];rfl,bb⟩
theorem JG{w:World}{B n:Nat}{v:Value}{xs:List Value}(hown:w.ownsRow B 88 3 v n xs)(hn:n<=100000)(g2:Nat)(e0 e1 e2:Value)(hg2:ag w g2 88 #[e0,e1,e2])(hone:∀u∈[e0,e1,e2],u.oneCell'=true)(hB:B<=w.heap.size):
 Calls Tryz.prog 156 #[v,.int .i64 (n:Int),.slice (some ⟨g2,0,none⟩) 1 1] w fun e w'=>∃v',e=.returned v'/\w'.ownsRow B 88 3 v' (n+1) (xs++[e0,e1,e2])/\ak w w' (fun k=>v.ownBlock=some k)/\(v'.ownBlock=v.ownBlock\/∀k,v'.ownBlock=some k->w.heap.size<=k):=by
 obtain⟨i0,z0,hin,hz0,hz1,hz2,hz3⟩:=ii.info
 have hc:∀j u,[e0,e1,e2][j]?=some u->w.cell? ((⟨g2,0,none⟩:Addr).add j)=some u:=fun j u hj=>by
  rw[du,Nat.zero_add,ag.cell hg2,List.getElem?_toArray];exact hj
 have HO:=af hown
 rcases hown.2 with⟨rfl,rfl⟩|⟨g,cap,cur,rfl,_⟩
 ·go_enter Tryz.func156,Tryz.ntmps156
  go_wp2_with (at_builtin;(refine wpList_append_own_at _ rfl _ _ 23 rfl B 88 i0 z0 3 56 ii.und hin hz0 hz1 hz2 hz3 (by decide) _ 0 xs rfl HO.out ⟨g2,0,none⟩ 1 1 [e0,e1,e2] rfl rfl hc hone (by unfold maxLen;omega) (by omega) hB ?_);intro v' w5 hown' hgrow hnil hloc)
  all_goals
   go_ret
   exact⟨v',rfl,hown',ak.of_grown hgrow fun k e=>e,hloc.imp id fun e k hk=>by rw[e] at hk;exact Nat.le_of_eq (az hk)⟩
 ·go_enter Tryz.func156,Tryz.ntmps156
  go_wp2_with (at_builtin;(refine wpList_append_own_at _ rfl _ _ 23 rfl B 88 i0 z0 3 56 ii.und hin hz0 hz1 hz2 hz3 (by decide) _ n xs rfl HO.out ⟨g2,0,none⟩ 1 1 [e0,e1,e2] rfl rfl hc hone (by unfold maxLen;omega) (by omega) hB ?_);intro v' w5 hown' hgrow hnil hloc)
  all_goals
   go_ret
   exact⟨v',rfl,hown',ak.of_grown hgrow fun k e=>e,hloc.imp id fun e k hk=>by rw[e] at hk;exact Nat.le_of_eq (az hk)⟩
theorem sQ{α:Type}(A B C:List α){k:Nat}(h:A.length+B.length=k):(A++B++C).take k=A++B:=by
 subst h;rw[<-aG,List.take_left'];rfl
theorem Ht{w:World}{B n i g:Nat}{xs:List Value}(hown:w.ownsRow B 88 3 (.slice (some ⟨g,0,none⟩) n n) n xs)(h1:∀u∈xs,u.oneCell'=true)(hi:i<n)(hn:n<=100000)(g2:Nat)(e0 e1 e2:Value)(hg2:ag w g2 88 #[e0,e1,e2])(hone:∀u∈[e0,e1,e2],u.oneCell'=true)(hB:B<=w.heap.size):
 Calls Tryz.prog 156 #[.slice (some ⟨g,0,none⟩) n n,.int .i64 (i:Int),.slice (some ⟨g2,0,none⟩) 1 1] w fun e w'=>∃v',e=.returned v'/\w'.ownsRow B 88 3 v' (n+1) (xs.take (i*3)++[e0,e1,e2]++xs.drop (i*3))/\ak w w' (fun _=>False)/\∀k,v'.ownBlock=some k->w.heap.size<=k:=by
 obtain⟨i0,z0,hin,hz0,hz1,hz2,hz3⟩:=ii.info
 have hxl:=hown.1
 have hxc:=hown.cells (g:=g) rfl
 have hgl:=(hown.lt g rfl).2
 have hsz:(Tryz.prog.info? 88).map (·.size)=some 3:=by rw[hin];simp[hz1]
 have hold:(Builtin.firstCells i0.size i (.slice (some ⟨g,0,none⟩) i n)).run Tryz.prog w.drew=.ok (xs.take (i*3)).toArray w.drew:=by
  rw[hz1];exact run_firstCells_some w.drew 3 i ⟨g,0,none⟩ i n (xs.take (i*3)) (by rw[dp];omega) (fun j u hj=>by
   rw[List.getElem?_take] at hj
   split at hj
   ·exact hxc j u hj
   ·cases hj)
 obtain⟨G,hG⟩:∃G,G=grownCap w (n+1) n 88:=⟨_,rfl⟩
 have hrz:∀ty,(Builtin.append_ #[23,3] ty #[.slice (some ⟨g,0,none⟩) i n,.int .i64 ((n:Int)+1-(i:Int))]).run Tryz.prog w=
  .ok (.slice (some ⟨w.heap.size,0,none⟩) (n+1) G) (w.drew.alloc (.cells ((xs.take (i*3)).toArray++Builtin.zeroCells z0.cells (n+1-i)++Builtin.zeroCells z0.cells (G-(n+1))) 88)):=fun ty=>by
  have h:=Lib.run_append_grow_zeros w 23 3 ty 88 i0 z0 .i64 .i64 ii.und Tryz.underlying3 hin hz0 (some ⟨g,0,none⟩) i n (xs.take (i*3)) hold (n+1-i) (by omega) (by omega) (by omega) (by omega) (by rw[hz2];omega) (by rw[hz2,show i+(n+1-i)=n+1 by omega];exact growslice_fits (by omega) (by omega))
  rw[show i+(n+1-i)=n+1 by omega,<-hG] at h
  rw[show (n:Int)+1-(i:Int)=((n+1-i:Nat):Int) by omega]
  exact h
 have hGn:n+1<=G:=by rw[hG];exact grownCap_ge w _ _ _
 have hG63:G<=maxLen:=by rw[hG];exact grownCap_le_maxLen w (n+1) n 88 (by unfold maxLen;omega)
 obtain⟨ROW,hROW⟩:∃ROW:Array Value,ROW=(xs.take (i*3)).toArray++Builtin.zeroCells z0.cells (n+1-i)++Builtin.zeroCells z0.cells (G-(n+1)):=⟨_,rfl⟩
 rw[<-hROW] at hrz
 have hRs:ROW.size=G*3:=by
  rw[hROW];simp only[Array.size_append,List.size_toArray,dp,size_zeroCells,hz3];omega
 have hRt:ROW.toList.take (i*3)=xs.take (i*3):=by
  rw[hROW];simp only[Array.toList_append,List.append_assoc];rw[List.take_append_of_le_length (by simp;omega),List.take_of_length_le (by simp;omega)]
 clear hROW hold hG
 have hB1:ag (w.drew.alloc (.cells ROW 88)) w.heap.size 88 ROW:=ag.new w.drew 88 ROW
 have hb01:Below w.heap.size w (w.drew.alloc (.cells ROW 88)):=((Below.refl _ w).drew).alloc (aF _) _
 obtain⟨W1,hW1⟩:∃W1,w.drew.alloc (.cells ROW 88)=W1:=⟨_,rfl⟩
 rw[hW1] at hrz hB1 hb01
 have hg21:=ag.below hg2 hb01 hg2.lt
 have hcp1:∀ty dc,(Builtin.copy_ #[23,23] ty #[.slice (some ⟨w.heap.size,i*3,none⟩) (n+1-i) dc,.slice (some ⟨g2,0,none⟩) 1 1]).run Tryz.prog W1=.ok (goInt 1) (W1.setRow w.heap.size (ROW.toList.take (i*3)++[e0,e1,e2]++ROW.toList.drop (i*3+3)).toArray):=fun ty dc=>by
  have:=dM W1 23 23 ty 88 w.heap.size (i*3) (n+1-i) dc ⟨g2,0,none⟩ 1 1 ROW _ [e0,e1,e2] 3 1 ii.und hsz hB1 (by simp only[Nat.min_def];split<;>omega) rfl (fun j u hj=>by rw[du,Nat.zero_add,ag.cell hg21,List.getElem?_toArray];exact hj) (by simp;omega) hone;exact this
 rw[hRt] at hcp1
 have hB2:=setRow_heap W1 w.heap.size ROW (xs.take (i*3)++[e0,e1,e2]++ROW.toList.drop (i*3+3)).toArray _ _ hB1
 have hk2:ak W1 (W1.setRow w.heap.size (xs.take (i*3)++[e0,e1,e2]++ROW.toList.drop (i*3+3)).toArray) (fun k=>k=w.heap.size):=⟨rfl,rfl,rfl,by rw[setRow_size];exact aF _,fun k _ hk=>setRow_other _ _ _ _ hk⟩
 obtain⟨R2,hR2⟩:∃R2,(xs.take (i*3)++[e0,e1,e2]++ROW.toList.drop (i*3+3)).toArray=R2:=⟨_,rfl⟩
 have hR2s:R2.size=G*3:=by
  rw[<-hR2];simp only[List.size_toArray,aG,dp,List.length_drop,cY,List.length_nil,Array.length_toList];omega
 have hR2t:R2.toList.take ((i+1)*3)=xs.take (i*3)++[e0,e1,e2]:=by
  rw[<-hR2,List.toList_toArray];exact sQ _ _ _ (by simp only[dp,cY,List.length_nil];omega)
 rw[hR2] at hcp1 hB2 hk2
 obtain⟨W2,hW2⟩:∃W2,W1.setRow w.heap.size R2=W2:=⟨_,rfl⟩
 rw[hW2] at hcp1 hB2 hk2
 have hb02:Below w.heap.size w W2:=hb01.trans (hk2.below hb01.size fun k e=>by omega)
 have hxc2:∀j u,(xs.drop (i*3))[j]?=some u->W2.cell? ((⟨g,i*3,none⟩:Addr).add j)=some u:=fun j u hj=>by
  rw[List.getElem?_drop] at hj;have:=hxc _ _ hj;rw[du,Nat.zero_add] at this;rw[du];exact(hb02.cell hgl).trans this
 have HC2:=af (fun W (hb:Below W2.heap.size W2 W) ty dc sc=>dM W 23 23 ty 88 w.heap.size ((i+1)*3) (n-i) dc ⟨g,i*3,none⟩ (n-i) sc R2 _ (xs.drop (i*3)) 3 (n-i) ii.und hsz (ag.below hB2 hb (dQ (ag.lt hB2) (aF _))) (by simp) (by rw[List.length_drop];omega) (fun j u hj=>(Below.cell hb (World.block_lt_of_cell? _ _ (hxc2 j u hj))).trans (hxc2 j u hj)) (by rw[List.length_drop];omega) (fun u hu=>h1 u (List.mem_of_mem_drop hu)))
 have HFIN:=af (fun W (hb:Below W2.heap.size W2 W)=>show (W.setRow w.heap.size (R2.toList.take ((i+1)*3)++xs.drop (i*3)++R2.toList.drop ((i+1)*3+(xs.drop (i*3)).length)).toArray).ownsRow B 88 3 (.slice (some ⟨w.heap.size,0,none⟩) (n+1) G) (n+1) (xs.take (i*3)++[e0,e1,e2]++xs.drop (i*3))/\ak w (W.setRow w.heap.size (R2.toList.take ((i+1)*3)++xs.drop (i*3)++R2.toList.drop ((i+1)*3+(xs.drop (i*3)).length)).toArray) (fun _=>False) from by
  rw[hR2t]
  refine⟨⟨by simp only[aG,dp,List.length_drop,cY,List.length_nil];omega,.inr ⟨w.heap.size,G,_,rfl,hB,setRow_heap W _ _ _ _ _ (ag.below hB2 hb (ag.lt hB2)),hGn,hG63,?_,?_⟩⟩,?_⟩
  ·simp only[List.size_toArray,aG,dp,List.length_drop,cY,List.length_nil,Array.length_toList]
   omega
  ·rw[List.toList_toArray]
   exact sQ _ _ _ (by simp only[aG,dp,List.length_drop,cY,List.length_nil];omega)
  ·have hb0W:=ay hb02 hb
   exact⟨hb0W.os,hb0W.tape,hb0W.output,by rw[setRow_size];exact hb0W.size,fun k hk _=>(setRow_other _ _ _ _ (by omega)).trans (hb0W.block k hk)⟩)
 have HCF:=af (show ∀W,Below W2.heap.size W2 W->∃R3:Array Value,(∀ty dc sc,(Builtin.copy_ #[23,23] ty #[.slice (some ⟨w.heap.size,(i+1)*3,none⟩) (n-i) dc,.slice (some ⟨g,i*3,none⟩) (n-i) sc]).run Tryz.prog W=.ok (goInt (n-i:Nat)) (W.setRow w.heap.size R3))/\(W.setRow w.heap.size R3).ownsRow B 88 3 (.slice (some ⟨w.heap.size,0,none⟩) (n+1) G) (n+1) (xs.take (i*3)++[e0,e1,e2]++xs.drop (i*3))/\ak w (W.setRow w.heap.size R3) (fun _=>False) from fun W hb=>⟨_,HC2.out W hb,HFIN.out W hb⟩)
 clear HC2 HFIN
 have hz2:¬((i:Int)=(n:Int)):=by omega
 have hz3:(n:Int)<(n:Int)+1:=by omega
 have hw0:IntKind.i64.wrap ((n:Int)+1)=(n:Int)+1:=ct _ (by omega)
 have hw1:IntKind.i64.wrap ((i:Int)+1)=(i:Int)+1:=ct _ (by omega)
 have hw2:IntKind.i64.wrap ((n:Int)+1-(i:Int))=(n:Int)+1-(i:Int):=ct _ (by omega)
 have hGi:¬(G=i):=by omega
 have hGim:¬(G=i+1):=by omega
 have hni:¬(n=i):=by omega
 have hin2:i<=n:=by omega
 have htn:((i:Int)+1).toNat=i+1:=by omega
 have hb1:(0:Int)<=(i:Int)+1:=by omega
 have hb3:(i:Int)<=(n:Int):=by omega
 clear hB1 hB2 hk2 hxc hxc2 hR2 hW1 hR2s hR2t hRs hRt hg21 hb01 hown hg2 hone h1
 go_enter Tryz.func156,Tryz.ntmps156
 go_wp2_with (first
  |(at_builtin;refine Lib.wpList_append_run _ rfl _ _ _ _ rfl _ _ rfl rfl _ _ (hrz _) ?_)
  |(at_builtin;refine dW _ rfl _ _ 23 23 rfl _ _ rfl rfl (hcp1 _ _) ?_))
 refine l6 ?_
 iterate 4 (refine bJ fun K hK=>?_;go_big_quiet_step (fail);refine hK _ ?_;clear hK K)
 (refine nw (v:=.slice (some ⟨w.heap.size,(i+1)*3,none⟩) (n-i) (G-(i+1))) (fun _ _=>by go_simp) fun K hK=>?_;go_big_quiet_step (fail);refine hK _ ?_;clear hK K)
 iterate 2 (refine bJ fun K hK=>?_;go_big_quiet_step (fail);refine hK _ ?_;clear hK K)
 (refine nw (v:=.slice (some ⟨g,i*3,none⟩) (n-i) (n-i)) (fun _ _=>by go_simp) fun K hK=>?_;go_big_quiet_step (fail);refine hK _ ?_;clear hK K)
 refine eR ?_
 intro w5 hb5
 simp only[aB]
 obtain⟨R3,hC,hF1,hF2⟩:=HCF.out w5 hb5
 clear hcp1 hrz HCF
 go_wp2_with (at_builtin;refine dW _ rfl _ _ 23 23 rfl _ _ rfl rfl (hC _ _ _) ?_)
 go_ret
 exact⟨_,rfl,hF1,hF2,fun k hk=>Nat.le_of_eq (az hk)⟩
theorem Hs{w:World}{B n i g c:Nat}{xs:List Value}(hown:w.ownsRow B 88 3 (.slice (some ⟨g,0,none⟩) n c) n xs)(h1:∀u∈xs,u.oneCell'=true)(hi:i<n)(hn:n<=100000)(hc:n<c)(g2:Nat)(e0 e1 e2:Value)(hg2:ag w g2 88 #[e0,e1,e2])(hne:g2≠g)(hone:∀u∈[e0,e1,e2],u.oneCell'=true):
 Calls Tryz.prog 156 #[.slice (some ⟨g,0,none⟩) n c,.int .i64 (i:Int),.slice (some ⟨g2,0,none⟩) 1 1] w fun e w'=>∃v',e=.returned v'/\w'.ownsRow B 88 3 v' (n+1) (xs.take (i*3)++[e0,e1,e2]++xs.drop (i*3))/\ak w w' (fun k=>k=g)/\v'.ownBlock=some g:=by
 obtain⟨i0,z0,hin,hz0,hz1,hz2,hz3⟩:=ii.info
 have hxl:=hown.1
 have hxc:=hown.cells (g:=g) rfl
 have hgl:=(hown.lt g rfl).2
 have hsz:(Tryz.prog.info? 88).map (·.size)=some 3:=by rw[hin];simp[hz1]
 rcases hown.2 with⟨e,_⟩|⟨g',cap,cur,e,hBg,hcur,_,hcm,hcs,hct⟩
 ·cases e
 obtain⟨hgg,_,rfl⟩:=Value.slice.inj e
 obtain rfl:g=g':=by have:=az hgg;exact congrArg Addr.block this
 have hcB:ag w g 88 cur:=hcur
 have hov:∀lb cb,(callFunc 210 #[.slice (some ⟨g2,0,none⟩) 1 1,.slice (some ⟨g,(i+1)*3,none⟩) lb cb]).run Tryz.prog w=.ok (.value (.bool false)) w:=fun lb cb=>by
  rw[run_callFunc_extern Tryz.func210 (by kernel_rfl) (by kernel_rfl) (by kernel_rfl) (e:=Extern.SlicesOverlaps.overlaps #[23,23] #[4]) (by kernel_rfl),
   Lib.run_overlaps_apart w 23 4 88 ii.und 3 Tryz.sizeOf88 ⟨g2,0,none⟩ ⟨g,(i+1)*3,none⟩ 1 1 lb cb hne 88 88 3 cur.size (by simp only[World.shape?];rw[show w.heap[g2]?=some (.cells #[e0,e1,e2] 88 (0,0)) from hg2];(try rfl)) (by simp only[World.shape?];rw[hcur];(try rfl)) (by rw[hcs];omega) (ag.frozen hg2 0) (ag.frozen hg2 3)]
  rfl
 obtain⟨C2,hC2⟩:∃C2,cur.toList.take ((i+1)*3)++xs.drop (i*3)++cur.toList.drop ((i+1)*3+(xs.drop (i*3)).length)=C2:=⟨_,rfl⟩
 have hdl:(xs.drop (i*3)).length=(n-i)*3:=by rw[List.length_drop];omega
 have hcl:cur.toList.length=c*3:=by rw[Array.length_toList];exact hcs
 have hC2l:C2.length=c*3:=by
  rw[<-hC2];simp only[aG,dp,List.length_drop,hcl];omega
 have hC2t:C2.take (i*3)=xs.take (i*3):=by
  rw[<-hC2,List.append_assoc,List.take_append_of_le_length (by rw[dp,hcl];omega),List.take_take,<-hct,List.take_take];congr 1;omega
 have hC2d:C2.drop (i*3+3)=xs.drop (i*3)++cur.toList.drop ((i+1)*3+(xs.drop (i*3)).length):=by
  rw[<-hC2,List.append_assoc,List.drop_left' (by rw[dp,hcl];omega)]
 have HC2:=af (fun W (hb:Below w.heap.size w W) ty dc sc=>dM W 23 23 ty 88 g ((i+1)*3) (n-i) dc ⟨g,i*3,none⟩ (n+1-i) sc cur _ (xs.drop (i*3)) 3 (n-i) ii.und hsz (ag.below hcB hb hgl) (by simp only[Nat.min_def];split<;>omega) hdl (fun j u hj=>by
  rw[List.getElem?_drop] at hj
  have:=hxc _ _ hj
  rw[du,Nat.zero_add] at this
  rw[du]
  exact(hb.cell hgl).trans this) (by rw[hdl,hcs];omega) (fun u hu=>h1 u (List.mem_of_mem_drop hu)))
 rw[hC2] at HC2
 have HB2:=af (fun W (hb:Below w.heap.size w W)=>setRow_heap W g cur C2.toArray _ _ (ag.below hcB hb hgl))
 have HC3:=af (show ∀W,Below w.heap.size w W->∃R3:Array Value,(∀ty dc,(Builtin.copy_ #[23,23] ty #[.slice (some ⟨g,i*3,none⟩) (n+1-i) dc,.slice (some ⟨g2,0,none⟩) 1 1]).run Tryz.prog (W.setRow g C2.toArray)=.ok (goInt 1) ((W.setRow g C2.toArray).setRow g R3))/\((W.setRow g C2.toArray).setRow g R3).ownsRow B 88 3 (.slice (some ⟨g,0,none⟩) (n+1) c) (n+1) (xs.take (i*3)++[e0,e1,e2]++xs.drop (i*3))/\ak w ((W.setRow g C2.toArray).setRow g R3) (fun k=>k=g) from fun W hb=>by
  have hB2:=HB2.out W hb
  have hg2W:(W.setRow g C2.toArray).heap[g2]?=some (.cells #[e0,e1,e2] 88 (0,0)):=(setRow_other _ _ _ _ hne).trans (ag.below hg2 hb hg2.lt)
  have hcp:=fun ty dc=>dM (W.setRow g C2.toArray) 23 23 ty 88 g (i*3) (n+1-i) dc ⟨g2,0,none⟩ 1 1 C2.toArray _ [e0,e1,e2] 3 1 ii.und hsz hB2 (by simp only[Nat.min_def];split<;>omega) rfl (fun j u hj=>by rw[du,Nat.zero_add,ag.cell (show ag _ g2 _ _ from hg2W),List.getElem?_toArray];exact hj) (by simp only[List.size_toArray,hC2l,cY,List.length_nil];omega) hone
  refine⟨_,hcp,?_,?_⟩
  ·refine⟨by simp only[aG,dp,List.length_drop,cY,List.length_nil];omega,.inr ⟨g,c,_,rfl,hBg,setRow_heap _ _ _ _ _ _ hB2,by omega,hcm,?_,?_⟩⟩
   ·simp only[List.size_toArray,aG,dp,List.length_drop,cY,List.length_nil,hC2l]
    omega
   ·rw[hC2t,show i*3+[e0,e1,e2].length=i*3+3 from rfl,hC2d,<-List.append_assoc]
    exact sQ _ _ _ (by simp only[aG,dp,List.length_drop,cY,List.length_nil];omega)
  ·exact⟨hb.os,hb.tape,hb.output,by rw[setRow_size,setRow_size];exact hb.size,fun k hk hg=>(setRow_other _ _ _ _ hg).trans ((setRow_other _ _ _ _ hg).trans (hb.block k hk))⟩)
 have hz2:¬((i:Int)=(n:Int)):=by omega
 have hz3:¬((c:Int)<(n:Int)+1):=by omega
 have hw0:IntKind.i64.wrap ((n:Int)+1)=(n:Int)+1:=ct _ (by omega)
 have hw1:IntKind.i64.wrap ((i:Int)+1)=(i:Int)+1:=ct _ (by omega)
 have hGi:¬(c=i):=by omega
 have hGim:¬(c=i+1):=by omega
 have hin2:i<=n:=by omega
 have htn:((i:Int)+1).toNat=i+1:=by omega
 have htn2:((n:Int)+1).toNat=n+1:=by omega
 have hb1:(0:Int)<=(i:Int)+1:=by omega
 have hb4:(0:Int)<=(n:Int)+1:=by omega
 have hb3:(i:Int)<=(n:Int):=by omega
 have hb5:(n:Int)+1<=(c:Int):=by omega
 have hb6:(i:Int)+1<=(n:Int)+1:=by omega
 have hb7:¬((n:Int)+1<(i:Int)):=by omega
 clear hC2 hdl hcl hC2l hC2t hC2d hcur hcB hcs hct hxc hown h1 hg2 hone e HB2
 go_enter Tryz.func156,Tryz.ntmps156
 go_wp2_with fail
 refine l6 ?_
 iterate 4 (refine bJ fun K hK=>?_;go_big_quiet_step (fail);refine hK _ ?_;clear hK K)
 (refine nw (v:=.slice (some ⟨g,(i+1)*3,none⟩) (n-i) (c-(i+1))) (fun _ _=>by go_simp) fun K hK=>?_;go_big_quiet_step (fail);refine hK _ ?_;clear hK K)
 iterate 2 (refine bJ fun K hK=>?_;go_big_quiet_step (fail);refine hK _ ?_;clear hK K)
 (refine nw (v:=.slice (some ⟨g,i*3,none⟩) (n+1-i) (c-i)) (fun _ _=>by go_simp) fun K hK=>?_;go_big_quiet_step (fail);refine hK _ ?_;clear hK K)
 refine eR ?_
 intro w5 hb5
 simp only[aB]
 have hC:=HC2.out w5 hb5
 obtain⟨R3,hC3,hF1,hF2⟩:=HC3.out w5 hb5
 clear HC2 HC3 hov
 go_wp2_with (at_builtin;first
  |(refine dW _ rfl _ _ 23 23 rfl _ _ rfl rfl (hC _ _ _) ?_)
  |(refine dW _ rfl _ _ 23 23 rfl _ _ rfl rfl (hC3 _ _) ?_))
 go_ret
 exact⟨_,rfl,hF1,hF2,rfl⟩
theorem tV{w:World}{B n i:Nat}{v:Value}{xs:List Value}(hown:w.ownsRow B 88 3 v n xs)(h1:∀u∈xs,u.oneCell'=true)(hi:i<=n)(hn:n<=100000)(g2:Nat)(e0 e1 e2:Value)(hg2:ag w g2 88 #[e0,e1,e2])(hne:v.ownBlock≠some g2)(hone:∀u∈[e0,e1,e2],u.oneCell'=true)(hB:B<=w.heap.size):
 Calls Tryz.prog 156 #[v,.int .i64 (i:Int),.slice (some ⟨g2,0,none⟩) 1 1] w fun e w'=>∃v',e=.returned v'/\w'.ownsRow B 88 3 v' (n+1) (xs.take (i*3)++[e0,e1,e2]++xs.drop (i*3))/\ak w w' (fun k=>v.ownBlock=some k)/\(v'.ownBlock=v.ownBlock\/∀k,v'.ownBlock=some k->w.heap.size<=k):=by
 by_cases hin:i=n
 ·subst hin;rw[List.take_of_length_le (by rw[hown.1];exact aF _),List.drop_of_length_le (by rw[hown.1];exact aF _),List.append_nil];exact JG hown hn g2 e0 e1 e2 hg2 hone hB
 ·rcases hown.2 with⟨rfl,rfl⟩|⟨g,cap,cur,rfl,_,_,hnc,_⟩
  ·omega
  by_cases hc:n<cap
  ·exact(Hs hown h1 (by omega) hn hc g2 e0 e1 e2 hg2 (fun e=>hne (by rw[e];rfl)) hone).mono fun e w' ⟨v',k1,k2,k3,k4⟩=>⟨v',k1,k2,k3.weaken fun k hk=>by rw[hk];rfl,.inl (k4.trans rfl)⟩
  ·obtain rfl:n=cap:=by omega
   exact(Ht hown h1 (by omega) hn g2 e0 e1 e2 hg2 hone hB).mono fun e w' ⟨v',k1,k2,k3,k4⟩=>⟨v',k1,k2,k3.weaken fun k hk=>hk.elim,.inr k4⟩
end
section
open Go.RowKit Go.Maps Go.WideMaps
attribute [local go_sem] am aq
theorem iV{W:World}{b:Nat}{T:TypeId}{u0 u1 u2:Value}(h:ag W b T #[u0,u1,u2]):W.cell? ⟨b,0,none⟩=some u0/\W.cell? ⟨b,1,none⟩=some u1/\W.cell? ⟨b,2,none⟩=some u2:=
 ⟨(ag.cell h 0).trans rfl,(ag.cell h 1).trans rfl,(ag.cell h 2).trans rfl⟩
theorem FI(L:List Lb)(n:List UInt8):decide (0<(L.filter fun y=>decide (y.1=n)).length)=L.any fun y=>decide (y.1=n):=by
 rw[Bool.eq_iff_iff,decide_eq_true_eq,List.length_pos_iff_exists_mem,List.any_eq_true];constructor
 ·rintro⟨y,hy⟩;exact⟨y,(List.mem_filter.1 hy).1,(List.mem_filter.1 hy).2⟩
 ·rintro⟨y,hy,h⟩;exact⟨y,List.mem_filter.2 ⟨hy,h⟩⟩
theorem IM(m:Mr)(L:List Lb)(v:Value)(w:World)(h:aC w v L):
 Calls Tryz.prog 216 #[J8 m,v] w fun e w'=>e=.returned (.bool (iR m L))/\Below w.heap.size w w':=by
 have b0:=ai w (.cells #[.int .i64 m.kind,.string (bs m.name),.string (bs m.value)] 233)
 have k0:=ag.new w 233 #[.int .i64 m.kind,.string (bs m.name),.string (bs m.value)]
 have hL:=h.below b0
 have qg:=af (IJ L v m.name _ hL)
 have qp:=af (fun W (hW:Below (w.alloc (.cells #[.int .i64 m.kind,.string (bs m.name),.string (bs m.value)] 233)).heap.size (w.alloc (.cells #[.int .i64 m.kind,.string (bs m.name),.string (bs m.value)] 233)) W)=>Ex L v m w.heap.size W (hL.below hW) (ag.below k0 hW k0.lt))
 have HF:=af (show iR m L=if m.kind=0 then mx L m.name==m.value
  else if m.kind=1 then !(mx L m.name==m.value)
  else if m.kind=2 then Lib.hasPrefix (mx L m.name) m.value
  else if m.kind=3 then L.any fun y=>decide (y.1=m.name)
  else false from rfl)
 have HA:=af (FI L m.name)
 have HH:=af (fun (a b:List UInt8) W=>Tryz.strings_HasPrefix (bs a) (bs b) W)
 obtain⟨c0,c1,c2⟩:=iV k0
 obtain⟨a,c,rfl,_⟩:=id h
 generalize iR m L=R at*
 generalize mx L m.name=gv at*
 generalize (L.any fun y=>decide (y.1=m.name))=an at*
 generalize (L.filter fun y=>decide (y.1=m.name)).length=cn at*
 obtain⟨ki,na,va⟩:=m
 rw[show J8 ⟨ki,na,va⟩=.agg #[.int .i64 ki,.string (bs na),.string (bs va)] from rfl]
 simp only at HF c0 c1 c2 qg k0 b0 hL qp
 go_enter Tryz.func216,Tryz.ntmps216
 go_wp2_with fail
 refine bL qg.out fun w1 b1=>?_
 have k1:=ag.below k0 b1 k0.lt
 have B1:=ay b0 b1
 have QP:=af (qp.out _ b1)
 obtain⟨d0,d1,d2⟩:=iV k1
 clear qg qp k0 c0 c1 c2 b0 b1 hL h k1
 by_cases t0:ki=0
 ·have f0:(ki==0)=true:=by simpa using t0
  have HE:=af (show R=(gv==va) by rw[HF.out,if_pos t0]);clear HF QP HA t0;go_wp2_with fail
  go_ret;exact⟨by rw[HE.out];rfl,B1⟩
 have f0:(ki==0)=false:=by simpa using t0
 by_cases t1:ki=1
 ·have f1:(ki==1)=true:=by simpa using t1
  have HE:=af (show R= !(gv==va) by rw[HF.out,if_neg t0,if_pos t1]);clear HF QP HA t0 t1;go_wp2_with fail
  go_ret;exact⟨by rw[HE.out];rfl,B1⟩
 have f1:(ki==1)=false:=by simpa using t1
 by_cases t2:ki=2
 ·have f2:(ki==2)=true:=by simpa using t2
  have HE:=af (show R=Lib.hasPrefix gv va by rw[HF.out,if_neg t0,if_neg t1,if_pos t2]);clear HF QP HA t0 t1 t2;go_wp2_with fail
  refine(HH.out _ _ _).mono ?_;rintro e w2 ⟨rfl,rfl⟩;rw[io,io];go_wp2_with fail
  go_ret;exact⟨by rw[HE.out];rfl,B1⟩
 have f2:(ki==2)=false:=by simpa using t2
 by_cases t3:ki=3
 ·have f3:(ki==3)=true:=by simpa using t3
  have HE:=af (show R=an by rw[HF.out,if_neg t0,if_neg t1,if_neg t2,if_pos t3]);clear HF t0 t1 t2 t3;go_wp2_with fail
  refine QP.out.mono ?_;rintro e w2 ⟨pa,pc,rfl,b2⟩;clear QP;go_wp2_with fail
  go_ret;exact⟨by rw[HE.out,<-HA.out];simp,ay B1 b2⟩
 have f3:(ki==3)=false:=by simpa using t3
 have HE:=af (show R=false by rw[HF.out,if_neg t0,if_neg t1,if_neg t2,if_neg t3])
 clear HF QP HA t0 t1 t2 t3
 go_wp2_with fail
 go_ret
 exact⟨by rw[HE.out];rfl,B1⟩
def iG(w:World)(v:Value)(M:List Mr):Prop:=
 ∃a c,v=.slice a M.length c/\M.length<=1048576/\∀(i:Nat) x,M[i]?=some x->(-9223372036854775808<=x.kind/\x.kind<=9223372036854775807)/\x.name.length<=maxLen/\x.value.length<=maxLen/\∃b o,a=some ⟨b,o,none⟩/\w.cell? ⟨b,o+i*3,none⟩=some (.int .i64 x.kind)/\w.cell? ⟨b,o+i*3+1,none⟩=some (.string (bs x.name))/\w.cell? ⟨b,o+i*3+2,none⟩=some (.string (bs x.value))
theorem iG.below{w w':World}{v:Value}{M:List Mr}(h:iG w v M)(hb:Below w.heap.size w w'):iG w' v M:=by
 obtain⟨a,c,h1,h2,h3⟩:=h;refine⟨a,c,h1,h2,fun i x hx=>?_⟩;obtain⟨h4,h5,h6,b,o,h7,h8,h9,h10⟩:=h3 i x hx;exact⟨h4,h5,h6,b,o,h7,cu hb h8,cu hb h9,cu hb h10⟩
theorem IQ(m:Mr)(L:List Lb)(v:Value)(p:Addr)(w:World)(h:aC w v L)(hp:w.cell? p=some v):
 Calls Tryz.prog 215 #[J8 m,.pointer (some p)] w fun e w'=>e=.returned (.bool (iR m L))/\Below w.heap.size w w':=by
 have b0:=ai w (.cells #[.int .i64 m.kind,.string (bs m.name),.string (bs m.value)] 233)
 have k0:=ag.new w 233 #[.int .i64 m.kind,.string (bs m.name),.string (bs m.value)]
 have cp:=cu b0 hp
 have q:=af (IM m L v _ (h.below b0))
 obtain⟨c0,c1,c2⟩:=iV k0
 obtain⟨a,c,rfl,_⟩:=id h
 rw[show J8 m=.agg #[.int .i64 m.kind,.string (bs m.name),.string (bs m.value)] from rfl] at q⊢
 generalize iR m L=R at*
 clear k0 h hp
 go_enter Tryz.func215,Tryz.ntmps215
 go_wp2_with fail
 refine bL q.out fun w1 b1=>?_
 go_wp2_with fail
 go_ret
 exact⟨rfl,ay b0 b1⟩
theorem Ew(M:List Mr)(mv:Value)(L:List Lb)(v:Value)(p:Addr)(w:World)(hM:iG w mv M)(h:aC w v L)(hp:w.cell? p=some v):
 Calls Tryz.prog 214 #[mv,.func (.func 215) #[] #[.pointer (some p)]] w fun e w'=>∃a c,e=.returned (.slice a (M.filter fun m=>iR m L).length c)/\Below w.heap.size w w':=by
 obtain⟨a,c,rfl,hl,hx⟩:=hM
 have HX:=af hx
 clear hx
 have Q:=af (fun m W (hW:Below w.heap.size w W)=>IQ m L v p W (h.below hW) (cu hW hp))
 have HC:=af (fun i (h:i<M.length)=>od (fun m:Mr=>iR m L) M h)
 have ⟨i0,hi,hz0,hz1,hz2⟩:=info_parts (show (Tryz.prog.info? 233).map (fun i=>(i.zero,i.size,i.bytes))=some (some (.agg #[.int .i64 0,.string ⟨#[]⟩,.string ⟨#[]⟩]),3,40) by kernel_rfl)
 have r0:w.ownsRow w.heap.size 233 3 (.slice none 0 0) ((M.take 0).filter fun m=>iR m L).length []:=eE
 clear h hp
 go_enter Tryz.func214,Tryz.ntmps214
 go_wp2_with fail
 go_loopw [5,10] (fun vo vi wr=>∃(i:Nat) (xs:List Value),i<=M.length/\vi=.int .i64 (i:Int)/\wr.ownsRow w.heap.size 233 3 vo ((M.take i).filter fun m=>iR m L).length xs/\Below w.heap.size w wr) (fun _ vi _=>M.length-(intOf vi).toNat)
 case atStart=>exact⟨0,[],Nat.zero_le _,rfl,r0,bR⟩
 clear r0
 obtain⟨i,xs,hi',rfl,hrow,hb⟩:=hrel
 obtain⟨sa,sc,rfl⟩:=aH hrow
 rcases(show i<M.length\/i=M.length by omega) with hil|rfl
 ·obtain⟨h0,h1,h2,b,o,rfl,d0,d1,d2⟩:=HX.out i M[i] (aV hil);have e0:=cu hb d0;have e1:=cu hb d1;have e2:=cu hb d2;have HCI:=af (HC.out i hil);have hcl:((M.take i).filter fun m=>iR m L).length<=i:=aK (List.length_filter_le _ _) (by rw[dp];omega);have bA:=ai wr (.cells #[.int .i64 M[i].kind,.string (bs M[i].name),.string (bs M[i].value)] 233);have BA:=ay hb bA;have q:=Q.out M[i] _ BA;rw[show J8 M[i]=.agg #[.int .i64 M[i].kind,.string (bs M[i].name),.string (bs M[i].value)] from rfl] at q;have q:=af q;have hrA:=World.ownsRow.alloc hrow (.cells #[.int .i64 M[i].kind,.string (bs M[i].name),.string (bs M[i].value)] 233);have kA:=ag.new wr 233 #[.int .i64 M[i].kind,.string (bs M[i].name),.string (bs M[i].value)];clear hrow bA d0 d1 d2;generalize ((M.take i).filter fun m=>iR m L).length=cn at*;generalize hc2:((M.take (i+1)).filter fun m=>iR m L).length=cn2 at*;have HC2:=af hc2;clear hc2;generalize M[i]=y at*;generalize iR y L=bo at*;go_wp2_with fail
  refine bL q.out fun w2 hb2=>?_;have k2:=ag.below kA hb2 kA.lt;obtain⟨c0,c1,c2⟩:=iV k2;have r2:=aw hrA (ak.of_below (S:=fun _=>False) hb2) (fun _ _ e=>e);have B2:=ay BA hb2;have hs2:=B2.size;clear q hrA kA k2 BA hb2 hb;cases bo with
  |true=>
   go_wp2_with (at_builtin;refine wpList_append_own_at _ rfl _ _ 66 rfl w.heap.size 233 i0 (.agg #[.int .i64 0,.string ⟨#[]⟩,.string ⟨#[]⟩]) 3 40 Tryz.underlying66 hi hz0 hz1 hz2 rfl (by decide) _ _ _ rfl (World.ownsRow.alloc r2 _) ⟨_,0,none⟩ 1 1 [.int .i64 y.kind,.string (bs y.name),.string (bs y.value)] rfl rfl (iD _ _ _ _ rfl) (by simp[Value.oneCell']) (by unfold maxLen;omega) (by omega) (by simp;omega) ?_;intro v' w5 hown' hgrow hnil2 hloc;obtain⟨sa',sc',rfl⟩:=aH hown')
   go_roundw
   case rel=>
    have hkq:ak w2 w5 (fun k=>w.heap.size<=k):=(ak.alloc w2 _ _).trans (ak.of_grown hgrow fun k e=>(r2.lt k e).1);exact⟨i+1,_,by omega,by go_num,by rw[HC2.out,HCI.out];exact hown',B2.trans (hkq.below hs2 fun k e=>e)⟩
   case measure=>simp[intOf];omega
  |false=>
   go_wp2_with fail
   go_roundw
   case rel=>exact⟨i+1,xs,by omega,by go_num,by rw[HC2.out,HCI.out];exact r2,B2⟩
   case measure=>simp[intOf];omega
 ·rw[List.take_length];go_wp2_with fail
  go_ret;exact⟨_,_,rfl,hb⟩
theorem FJ(M:List Mr)(L:List Lb):((M.filter fun m=>iR m L).length==M.length)=uG M L:=by
 unfold uG;rw[Bool.eq_iff_iff,beq_iff_eq,List.length_filter_eq_length_iff,List.all_eq_true]
theorem DY(M:List Mr)(mv:Value)(L:List Lb)(v:Value)(w:World)(hM:iG w mv M)(h:aC w v L):
 Calls Tryz.prog 167 #[mv,v] w fun e w'=>e=.returned (.bool (uG M L))/\Below w.heap.size w w':=by
 have b0:=ai w (.cells #[v] 65)
 have c0:(w.alloc (.cells #[v] 65)).cell? ⟨w.heap.size,0,none⟩=some v:=(World.cell?_alloc_new _ _ _ _).trans rfl
 have q:=af (Ew M mv L v ⟨w.heap.size,0,none⟩ _ (hM.below b0) (h.below b0) c0)
 have HA:=FJ M L
 obtain⟨a,c,rfl,_⟩:=id h
 obtain⟨a',c',rfl,hml,_⟩:=id hM
 have hfl:(M.filter fun m=>iR m L).length<=M.length:=List.length_filter_le _ _
 generalize (M.filter fun m=>iR m L).length=cn at*
 have HE:((cn:Int)==(M.length:Int))=uG M L:=by
  rw[<-HA];rw[Bool.eq_iff_iff,beq_iff_eq,beq_iff_eq];omega
 generalize uG M L=R at*
 have HE:=af HE
 have HA:=af HA
 clear h hM c0
 go_enter Tryz.func167,Tryz.ntmps167
 go_wp2_with fail
 refine q.out.mono ?_
 rintro e w1 ⟨pa,pc,rfl,b1⟩
 go_wp2_with fail
 go_ret
 exact⟨by first|(rw[<-HE.out];rfl)|(rw[<-HA.out];rfl),ay b0 b1⟩
end
section
open Go.RowKit Go.Maps Go.WideMaps Go.Shelf
attribute [local go_sem] am aq
attribute [local go_sem] Oper.semAt_some
theorem eJ{w:World}{b c:Nat}{e:TypeId}{size n:Nat}{v:Value}{xs:List Value}(h:w.ownsRow b e size v n xs)(hc:c<=b):w.ownsRow c e size v n xs:=by
 refine⟨h.1,?_⟩;rcases h.2 with h2|⟨g,cap,cur,rfl,h3,h4⟩
 ·exact .inl h2
 ·exact .inr ⟨g,cap,cur,rfl,aK hc h3,h4⟩
end
section
open Go.RowKit
attribute [local go_sem] am aq
theorem Eb(l:List Lb)(lv:Value)(g:Nat)(w:World)(hl:aC w lv l)(hg:w.cell? ⟨g,0,none⟩=some lv):jT 289 #[.pointer (some ⟨g,0,none⟩)] (fun x=> !dN x.labels l) w:=by
 intro x sl sv W hW hS;have bA:=ai W (.cells #[sl,sv,.int .i64 x.last] 88);have B:=ay hW bA;have g1:=cu B hg;have z0:=ax (ag.new W 88 #[sl,sv,.int .i64 x.last]) 0 sl rfl;have q:=af (kQ x.labels l sl lv _ (hS.2.1.below bA) (hl.below B));clear hW hS hg hl B;go_enter Tryz.func289,Tryz.ntmps289
 go_wp2_with fail
 refine bL q.out fun w1 hb=>?_;go_wp2_with fail
 go_ret;exact⟨rfl,ay bA hb⟩
theorem d9{w:World}{B g n c k:Nat}{Z:List (aO×Value×Value)}(h:w.ownsRow B 88 3 (.slice (some ⟨g,0,none⟩) n c) k (aL eT Z)){i:Nat}{z:aO×Value×Value}(hz:Z[i]?=some z):w.cell? ⟨g,i*3,none⟩=some z.2.1/\w.cell? ⟨g,i*3+1,none⟩=some z.2.2/\w.cell? ⟨g,i*3+2,none⟩=some (.int .i64 z.1.last):=by
 have hc:=h.cells (g:=g) rfl;have q:∀j u,(eT z)[j]?=some u->w.cell? ⟨g,i*3+j,none⟩=some u:=fun j u hj=>by
  have:=hc (i*3+j) u (jz (sz:=3) (fun _=>rfl) Z i z hz j u hj);rwa[du,Nat.zero_add] at this
 exact⟨q 0 _ rfl,q 1 _ rfl,q 2 _ rfl⟩
theorem Jh{α:Type}(A B:List α)(a b:α):(A++a::B).set A.length b=A++b::B:=by
 rw[List.set_append_right _ _ (aF _),Nat.sub_self,List.set_cons_zero]
theorem fG{α:Type}(p:α->Bool)(L:List α){i:Nat}(h:L.findIdx? p=some i):i<L.length:=by
 rw[List.findIdx?_eq_some_iff_getElem] at h;exact h.1
theorem zW(S:List aO)(l:List Lb):fU S l<=S.length:=by
 unfold fU;cases h:S.findIdx? (fun x=> !dN x.labels l) with
 |none=>exact aF _
 |some i=>exact Nat.le_of_lt (fG _ _ h)
theorem Jo(S:List aO)(f:Int)(l:List Lb)(x:cH):(∃i,cP S l=some i/\i<S.length/\(tw ⟨S,f⟩ l x).ser=S.set i ⟨(S.getD i cy).labels,(S.getD i cy).samples++[x],x.1⟩)\/(cP S l=none/\(tw ⟨S,f⟩ l x).ser=S.take (fU S l)++(⟨l,[x],x.1⟩::S.drop (fU S l))):=by
 unfold tw;cases h:cP S l with
 |none=>exact .inr ⟨rfl,rfl⟩
 |some i=>exact .inl ⟨i,rfl,fG _ _ h,rfl⟩
theorem Hy{Z:List (aO×Value×Value)}{i:Nat}(h:i<Z.length):(Z.map fun z=>z.1).getD i cy=Z[i].1:=by
 rw[List.getD_eq_getElem?_getD,List.getElem?_map,aV h];rfl
theorem gF{β:Type}{enc:β->List Value}{sz:Nat}(he:∀z,(enc z).length=sz):∀(Z:List β) (k:Nat),(aL enc Z).take (k*sz)=aL enc (Z.take k)/\(aL enc Z).drop (k*sz)=aL enc (Z.drop k)
 |[],k=>by simp[aL]
 |z::Z,0=>by simp[aL]
 |z::Z,k+1=>by
  obtain⟨h1,h2⟩:=gF he Z k;unfold aL at*;have e:(k+1)*sz=(enc z).length+k*sz:=by rw[he,Nat.add_mul];omega
  rw[List.flatMap_cons,e,List.take_length_add_append,List.drop_length_add_append,h1,h2,List.take_succ_cons,List.drop_succ_cons,List.flatMap_cons];exact⟨rfl,rfl⟩
def Lt(w:World)(B:Nat)(l:List Lb)(S:List aO)(f:Int)(x:cH)(wx:World)(v1:Value)(i:Nat):Prop:=
 ∃Z,wx.ownsRow B 88 3 v1 Z.length (aL eT Z)/\(∀z∈Z,jf w z)/\Z.length<=S.length+1/\∃z,Z[i]?=some z/\z.1.samples.length<=1000/\(tw ⟨S,f⟩ l x).ser=(Z.map fun z=>z.1).set i ⟨z.1.labels,z.1.samples++[x],x.1⟩
theorem IE(v lv:Value)(S:List aO)(l:List Lb)(f t:Int)(u:Nat)(w:World)(h:aM w v S)(hl:aC w lv l)(hu:ew (t,u))(hS:S.length<=1000)(hSs:∀x∈S,x.samples.length<=1000):
 Calls Tryz.prog 256 #[.agg #[v,.int .i64 f],lv,.agg #[.int .i64 t,.int .u64 (u:Int)]] w fun e w'=>∃v',e=.returned (.agg #[v',.int .i64 f])/\aM w' v' (tw ⟨S,f⟩ l (t,u)).ser/\Below w.heap.size w w':=by
 obtain⟨la,lc,rfl,_⟩:=id hl
 have b1:=ai w (.cells #[v,.int .i64 f] 49)
 have b2:=b1.alloc b1.size (.cells #[.slice la l.length lc] 65)
 have b3:=b2.alloc b2.size (.cells #[.int .i64 t,.int .u64 (u:Int)] 127)
 have b4:=b3.alloc b3.size (.cells #[.slice none 0 0,.int .i64 0] 49)
 have k1:=((ag.alloc (ag.new w 49 #[v,.int .i64 f]) (.cells #[.slice la l.length lc] 65)).alloc (.cells #[.int .i64 t,.int .u64 (u:Int)] 127)).alloc (.cells #[.slice none 0 0,.int .i64 0] 49)
 have k2:=((ag.new (w.alloc (.cells #[v,.int .i64 f] 49)) 65 #[.slice la l.length lc]).alloc (.cells #[.int .i64 t,.int .u64 (u:Int)] 127)).alloc (.cells #[.slice none 0 0,.int .i64 0] 49)
 have k3:=(ag.new ((w.alloc (.cells #[v,.int .i64 f] 49)).alloc (.cells #[.slice la l.length lc] 65)) 127 #[.int .i64 t,.int .u64 (u:Int)]).alloc (.cells #[.slice none 0 0,.int .i64 0] 49)
 have k4:=ag.new (((w.alloc (.cells #[v,.int .i64 f] 49)).alloc (.cells #[.slice la l.length lc] 65)).alloc (.cells #[.int .i64 t,.int .u64 (u:Int)] 127)) 49 #[.slice none 0 0,.int .i64 0]
 rw[aW] at k2
 rw[aW,aW] at k3
 rw[aW,aW,aW] at k4
 have hs4:(((((w.alloc (.cells #[v,.int .i64 f] 49)).alloc (.cells #[.slice la l.length lc] 65)).alloc (.cells #[.int .i64 t,.int .u64 (u:Int)] 127)).alloc (.cells #[.slice none 0 0,.int .i64 0] 49))).heap.size=w.heap.size+4:=by rw[aW,aW,aW,aW]
 have y0:=ax k1 0 v rfl
 have y1:=ax k1 1 (.int .i64 f) rfl
 have yl:=ax k2 0 (.slice la l.length lc) rfl
 have q1:=af (jD v _ S l f _ (h.below b4) (hl.below b4))
 have H:=af h
 have HL:=af hl
 have HS:=af (And.intro hS hSs)
 clear h hl hSs
 go_enter Tryz.func256,Tryz.ntmps256
 go_wp2_with fail
 generalize hW4:(((w.alloc _).alloc _).alloc _).alloc _=W4 at*
 clear hW4
 refine bL q1.out fun w5 hb5=>?_
 have B5:=ay b4 hb5
 have m1:=ag.below k1 hb5 k1.lt
 have m2:=ag.below k2 hb5 k2.lt
 have m3:=ag.below k3 hb5 k3.lt
 have m4:=ag.below k4 hb5 k4.lt
 have hs5:w.heap.size+4<=w5.heap.size:=by have:=hb5.size;omega
 have q2:=af (fQ v S w w5 H.out B5)
 have c0:=ax m1 0 v rfl
 clear q1 hb5 k1 k2 k3 k4 y0 y1 yl b1 b2 b3 b4 hs4
 go_wp2_with fail
 refine q2.out.mono ?_
 rintro e w6 ⟨v1,Z,rfl,hZ,hV,hrow,hb6⟩
 obtain⟨za,zc,rfl⟩:=aH hrow
 have B6:=ay B5 hb6
 have m1:=ag.below m1 hb6 m1.lt
 have m2:=ag.below m2 hb6 m2.lt
 have m3:=ag.below m3 hb6 m3.lt
 have m4:=ag.below m4 hb6 m4.lt
 have fz:=ag.frozen m1 0
 have c0:=ax m1 0 v rfl
 have hb6s:=hb6.size
 clear q2 hb6
 go_upto_if 17 with fail
 have n1:ag (w6.setCell ⟨w.heap.size,0,none⟩ (.slice za Z.length zc)) w.heap.size 49 #[.slice za Z.length zc,.int .i64 f]:=ag.set_ m1 0 _
 have n2:=ag.far (u:=.slice za Z.length zc) (p:=⟨w.heap.size,0,none⟩) m2 (by simp)
 have n3:=ag.far (u:=.slice za Z.length zc) (p:=⟨w.heap.size,0,none⟩) m3 (by simp;omega)
 have n4:=ag.far (u:=.slice za Z.length zc) (p:=⟨w.heap.size,0,none⟩) m4 (by simp;omega)
 have hkk:ak w6 (w6.setCell ⟨w.heap.size,0,none⟩ (.slice za Z.length zc)) (fun k=>k=w.heap.size):=ak.of_grown (ap _ _ _ _) fun k e=>(az e).symm
 have row7:=eJ (aw hrow hkk fun b hb e=>by have:=(hrow.lt b hb).1;omega) (show w.heap.size+4<=w5.heap.size from hs5)
 have B7:=B6.trans (hkk.below B6.size fun k e=>by omega)
 have hs7:w.heap.size+4<=(w6.setCell ⟨w.heap.size,0,none⟩ (.slice za Z.length zc)).heap.size:=by have:=hkk.size;have:=B6.size;have:=(hb6s:w5.heap.size<=w6.heap.size);omega
 have HZ:=af hZ
 have HV:=af hV
 generalize w6.setCell ⟨w.heap.size,0,none⟩ (.slice za Z.length zc)=w7 at*
 have hZl:=af (show Z.length=S.length by rw[<-hZ,List.length_map])
 clear hkk hrow B6 m1 m2 m3 m4 fz c0 hV hb6s B5 hs5 hZ
 go_cut [7] (fun s7 wx=>∃(i:Nat) (v1:Value),s7=.int .i64 (i:Int)/\ag wx w.heap.size 49 #[v1,.int .i64 f]/\ag wx (w.heap.size+1+1) 127 #[.int .i64 t,.int .u64 (u:Int)]/\ag wx (w.heap.size+1+1+1) 49 #[.slice none 0 0,.int .i64 0]/\Below w.heap.size w wx/\w.heap.size+4<=wx.heap.size/\Lt w (w.heap.size+4) l S f (t,u) wx v1 i)
 case first=>
  rcases Jo S f l (t,u) with⟨i,hf,hi,hP⟩|⟨hf,hP⟩
  ·rw[hf];have hlt:¬((i:Int)<0):=by omega
   simp only[dU];go_wp2_with fail
   go_meet;have hiZ:i<Z.length:=by rw[hZl.out];exact hi
   refine⟨i,_,rfl,n1,n3,n4,B7,hs7,Z,row7,HV.out,by rw[hZl.out];omega,Z[i],aV hiZ,HS.out.2 _ (by rw[<-HZ.out];exact List.mem_map_of_mem (dK hiZ)),?_⟩;rw[hP,<-HZ.out,Hy hiZ]
  ·rw[hf];have g0:=ax n1 0 (.slice za Z.length zc) rfl;have g2:=ax n2 0 (.slice la l.length lc) rfl;have hser:aM w7 (.slice za Z.length zc) S:=by
    have:=cV row7 rfl (by rw[hZl.out];omega) (fun z hz=>(HV.out z hz).below B7);rwa[HZ.out] at this
   have q3:=af (mt 289 #[.pointer (some ⟨w.heap.size+1,0,none⟩)] _ _ S w7 hser (Eb l _ (w.heap.size+1) w7 (HL.out.below B7) g2) (fun args W=>by go_simp));clear hser;simp only[dU];go_wp2_with fail
   refine bL q3.out fun w8 hb8=>?_;have B8:=ay B7 hb8;have m1:=ag.below n1 hb8 n1.lt;have m2:=ag.below n2 hb8 n2.lt;have m3:=ag.below n3 hb8 n3.lt;have m4:=ag.below n4 hb8 n4.lt;have row8:=aw row7 (ak.of_below (S:=fun _=>False) hb8) (fun _ _ e=>e);have hs8:=aK hs7 hb8.size;have g0:=ax m1 0 (.slice za Z.length zc) rfl;clear q3 n1 n2 n3 n4 row7 hb8 g2 B7 hs7;go_upto_if 23 with fail
   go_cut [7] (fun s7 wx=>s7=.int .i64 (fU S l:Int)/\w8=wx)
   case first=>
    cases hfi:S.findIdx? (fun x=> !dN x.labels l) with
    |none=>
     have HI:=af (show fU S l=Z.length by unfold fU;rw[hfi,hZl.out];rfl);clear hfi;go_wp2_with fail
     go_meet;exact⟨by rw[HI.out],rfl⟩
    |some j=>
     have HI:=af (show fU S l=j by unfold fU;rw[hfi];rfl);have hlt:¬((j:Int)<0):=by omega
     simp only[dU];clear hfi;go_wp2_with fail
     go_meet;exact⟨by rw[HI.out],rfl⟩
   case rest=>
    obtain⟨rfl,rfl⟩:=hcut;have hk:=zW S l;generalize fU S l=k at*;have hkZ:k<=Z.length:=by rw[hZl.out];exact hk
    have r9:=World.ownsRow.alloc row8 (.cells #[.slice la l.length lc,.slice none 0 0,.int .i64 0] 88);have k9:=ag.new w8 88 #[.slice la l.length lc,.slice none 0 0,.int .i64 0];have q4:=af (tV r9 (xr HV.out) hkZ (by rw[hZl.out];omega) w8.heap.size _ _ _ k9 (fun e=>by have:=(row8.lt _ e).2;omega) (by simp[Value.oneCell']) (aK hs8 (ai w8 _).size));have m1a:=ag.alloc m1 (.cells #[.slice la l.length lc,.slice none 0 0,.int .i64 0] 88);have m3a:=ag.alloc m3 (.cells #[.slice la l.length lc,.slice none 0 0,.int .i64 0] 88);have m4a:=ag.alloc m4 (.cells #[.slice la l.length lc,.slice none 0 0,.int .i64 0] 88);have B9:=B8.alloc B8.size (.cells #[.slice la l.length lc,.slice none 0 0,.int .i64 0] 88);have hlt8:=row8.lt;have yl:=ax m2 0 (.slice la l.length lc) rfl;have hs9:=aK hs8 (ai w8 (.cells #[.slice la l.length lc,.slice none 0 0,.int .i64 0] 88)).size;clear m1 m3 m4 m2 row8 r9 k9;go_wp2_with fail
    refine q4.out.mono ?_;rintro e w10 ⟨v2,rfl,row10,hk10,hloc⟩;obtain⟨ta,tc,rfl⟩:=aH row10;have hS10:∀j,j<w.heap.size+4->¬((Value.slice za Z.length zc).ownBlock=some j):=fun j hj e=>by have:=(hlt8 j e).1;omega
    have m1:=ag.keptK m1a hk10 (hS10 _ (by omega));have m3:=ag.keptK m3a hk10 (hS10 _ (by omega));have m4:=ag.keptK m4a hk10 (hS10 _ (by omega));have B10:=B9.trans (hk10.below B9.size fun j e=>by have:=(hlt8 j e).1;omega);have hs10:=aK hs9 hk10.size;have fz:=ag.frozen m1 0;have c0:=ax m1 0 (.slice za Z.length zc) rfl;have n1:ag (w10.setCell ⟨w.heap.size,0,none⟩ (.slice ta (Z.length+1) tc)) w.heap.size 49 #[.slice ta (Z.length+1) tc,.int .i64 f]:=ag.set_ m1 0 _;have n3:=ag.far (u:=.slice ta (Z.length+1) tc) (p:=⟨w.heap.size,0,none⟩) m3 (by simp;omega);have n4:=ag.far (u:=.slice ta (Z.length+1) tc) (p:=⟨w.heap.size,0,none⟩) m4 (by simp;omega);have hkk:ak w10 (w10.setCell ⟨w.heap.size,0,none⟩ (.slice ta (Z.length+1) tc)) (fun k=>k=w.heap.size):=ak.of_grown (ap _ _ _ _) fun k e=>(az e).symm;have row11:=aw row10 hkk fun b hb e=>by have:=(row10.lt b hb).1;omega
    have B11:=B10.trans (hkk.below B10.size fun k e=>by omega);have hs11:=aK hs10 hkk.size;rw[(gF (sz:=3) (fun _=>rfl) Z k).1,(gF (sz:=3) (fun _=>rfl) Z k).2,show aL eT (Z.take k)++[.slice la l.length lc,.slice none 0 0,.int .i64 0]++aL eT (Z.drop k)=aL eT (Z.take k++(⟨l,[],0⟩,.slice la l.length lc,.slice none 0 0)::Z.drop k) by unfold aL;rw[List.flatMap_append,List.flatMap_cons,List.append_assoc];rfl] at row11;have hln:(Z.take k++((⟨l,[],0⟩:aO),Value.slice la l.length lc,Value.slice none 0 0)::Z.drop k).length=Z.length+1:=by rw[aG,cY,dp,List.length_drop];omega
    clear q4 m1a m3a m4a hk10 hloc row10 hkk B10 hs10 m3 m4;go_wp2_with fail
    go_meet;refine⟨k,_,rfl,n1,n3,n4,B11,hs11,Z.take k++(⟨l,[],0⟩,.slice la l.length lc,.slice none 0 0)::Z.drop k,by rw[hln];exact row11,fun z hz=>?_,by rw[hln,hZl.out];exact aF _,(⟨l,[],0⟩,.slice la l.length lc,.slice none 0 0),?_,by simp,?_⟩
    ·rcases List.mem_append.1 hz with hz|hz
     ·exact HV.out z (List.mem_of_mem_take hz)
     ·rcases List.mem_cons.1 hz with rfl|hz
      ·exact⟨⟨by simp,by simp,by simp⟩,HL.out,iu.nil _⟩
      ·exact HV.out z (List.mem_of_mem_drop hz)
    ·rw[List.getElem?_append_right (by rw[dp];omega),dp,show k-min k Z.length=0 by omega];rfl
    ·have e:=Jh (S.take k) (S.drop k) (⟨l,[],0⟩:aO) ⟨l,[(t,u)],t⟩;rw[dp,show min k S.length=k by omega] at e;rw[hP,List.map_append,List.map_cons,List.map_take,List.map_drop,HZ.out];exact e.symm
 case rest=>
  clear n1 n2 n3 n4 row7 B7 hs7 HV HZ hZl;obtain⟨i,v1,rfl,n1,n3,n4,BX,hsX,Z1,row,hV1,hZn,z,hz,hz1000,hP⟩:=hcut;have hiZ:i<Z1.length:=(List.getElem?_eq_some_iff.1 hz).1;rcases row.2 with⟨_,h0⟩|⟨g,gc,cur,rfl,_⟩
  ·omega
  obtain⟨e0,e1,e2⟩:=d9 row hz;have hzV:=hV1 z (List.mem_of_getElem? hz);obtain⟨zs,zl,zv⟩:=z;simp only at e0 e1 e2 hP hz1000;have hok:zs.ok:=hzV.1;have hlab:aC w zl zs.labels:=hzV.2.1;have hsm:aI w zv zs.samples:=hzV.2.2;clear hzV;obtain⟨sa,sc,rfl,_⟩:=id hsm;have hsl:=hsm.len;have hglt:=row.lt g rfl;have QC:=af (fun W (hb:Below wc.heap.size wc W)=>(pk _ zs.samples W (hsm.below (ay BX hb))));have G1:=aj e1;have x0:=ax n3 0 (.int .i64 t) rfl;have x1:=ax n3 1 (.int .u64 (u:Int)) rfl;have G2:=aj x0;have G3:=aj x1;have c0:=ax n1 0 (.slice (some ⟨g,0,none⟩) Z1.length gc) rfl;have HR:=af (And.intro row (And.intro hV1 (And.intro hz (And.intro hP hZn))));have HN:=af (And.intro n1 (And.intro n3 n4));have HE:=af (And.intro e2 (And.intro hok (And.intro hlab hsm)));clear row hV1 hz hP hZn n1 n3 n4 e0 e2 hok hlab hsm;go_wp2_with fail
  refine cB (R:=co) 8 0 (by kernel_rfl) (by kernel_rfl) (by kernel_rfl) ?_;simp only[List.take_succ_cons,List.take_zero,List.drop_succ_cons,List.drop_zero];iterate 5 (refine bJ fun K hK=>?_;go_big_quiet_step (fail);refine hK _ ?_;clear hK K)
  (refine pP (d:=44) (f:=96) (args:=#[.slice sa zs.samples.length sc]) (r:=fun y W=>W.ownsRow wc.heap.size 127 2 y zs.samples.length (aL gA zs.samples)) (fun x W W' hx hk=>aw hx (ak.of_below (S:=fun _=>False) hk) (fun _ _ e=>e)) (by kernel_rfl) (fun _ _ h=>by cases h) (by kernel_rfl) rfl (fun _=>by go_simp) (fun W hW=>(QC.out W hW).mono fun e w' ⟨y,h1,h2,h3⟩=>⟨y,h1,h3,eJ h2 hW.size⟩) ?_)
  (refine bJ fun K hK=>?_;go_big_quiet_step (fail);refine hK _ ?_;clear hK K);refine js 46 1 [.int .i64 t,.int .u64 (u:Int)] (by kernel_rfl) (fun _ _ h=>by cases h) (by kernel_rfl) rfl 127 (fun W=>by go_simp) ?_;refine eR ?_;intro w5 hb5;simp only[aB];rintro x ⟨p,c,rfl,hp,hcells⟩ y hy;obtain⟨ya,yc,rfl⟩:=aH hy;have hya:=hy.lt;have HFA:=af (show ∀w6,ak w5 w6 (fun k=>(Value.slice ya zs.samples.length yc).ownBlock=some k)->∀na nc,(w6.frozen? ⟨g,i*3+1,none⟩=false/\w6.cell? ⟨g,i*3+1,none⟩=some (.slice sa zs.samples.length sc))/\
   ((w6.setCell ⟨g,i*3+1,none⟩ (.slice na (zs.samples.length+1) nc)).cell? ⟨w.heap.size+1+1,0,none⟩=some (.int .i64 t)/\(w6.setCell ⟨g,i*3+1,none⟩ (.slice na (zs.samples.length+1) nc)).frozen? ⟨g,i*3+2,none⟩=false/\(w6.setCell ⟨g,i*3+1,none⟩ (.slice na (zs.samples.length+1) nc)).cell? ⟨g,i*3+2,none⟩=some (.int .i64 zs.last))/\
   (((w6.setCell ⟨g,i*3+1,none⟩ (.slice na (zs.samples.length+1) nc)).setCell ⟨g,i*3+2,none⟩ (.int .i64 t)).cell? ⟨w.heap.size,0,none⟩=some (.slice (some ⟨g,0,none⟩) Z1.length gc)/\((w6.setCell ⟨g,i*3+1,none⟩ (.slice na (zs.samples.length+1) nc)).setCell ⟨g,i*3+2,none⟩ (.int .i64 t)).cell? ⟨w.heap.size,1,none⟩=some (.int .i64 f)/\ag ((w6.setCell ⟨g,i*3+1,none⟩ (.slice na (zs.samples.length+1) nc)).setCell ⟨g,i*3+2,none⟩ (.int .i64 t)) (w.heap.size+1+1+1) 49 #[.slice none 0 0,.int .i64 0])/\
   ((w6.setCell ⟨g,i*3+1,none⟩ (.slice na (zs.samples.length+1) nc)).setCell ⟨g,i*3+2,none⟩ (.int .i64 t)).ownsRow (w.heap.size+4) 88 3 (.slice (some ⟨g,0,none⟩) Z1.length gc) Z1.length (aL eT (Z1.set i (⟨zs.labels,zs.samples++[(t,u)],t⟩,zl,.slice na (zs.samples.length+1) nc)))/\
   Below w.heap.size w ((w6.setCell ⟨g,i*3+1,none⟩ (.slice na (zs.samples.length+1) nc)).setCell ⟨g,i*3+2,none⟩ (.int .i64 t))/\ak w6 ((w6.setCell ⟨g,i*3+1,none⟩ (.slice na (zs.samples.length+1) nc)).setCell ⟨g,i*3+2,none⟩ (.int .i64 t)) (fun k=>k=g) from by
   intro w6 hk na nc
   obtain⟨row,hV1,hz,hP,hZn⟩:=HR.out
   obtain⟨n1,n3,n4⟩:=HN.out
   have hyb:∀k,k<wc.heap.size->¬((Value.slice ya zs.samples.length yc).ownBlock=some k):=fun k hk e=>by have:=(hya k e).1;omega
   have row6:=aw (aw row (ak.of_below (S:=fun _=>False) hb5) (fun _ _ e=>e)) hk fun b hb=>by cases hb;exact hyb g hglt.2
   have n16:=ag.keptK (ag.below n1 hb5 n1.lt) hk (hyb _ n1.lt)
   have n36:=ag.keptK (ag.below n3 hb5 n3.lt) hk (hyb _ n3.lt)
   have n46:=ag.keptK (ag.below n4 hb5 n4.lt) hk (hyb _ n4.lt)
   have r7:=cF (j:=i*3+1) (u:=.slice na (zs.samples.length+1) nc) row6 rfl
   rw[db (sz:=3) (fun _=>rfl) Z1 i 1 _ (⟨zs.labels,zs.samples++[(t,u)],zs.last⟩,zl,.slice na (zs.samples.length+1) nc) _ hz (by decide) rfl] at r7
   have hz7:(Z1.set i (⟨zs.labels,zs.samples++[(t,u)],zs.last⟩,zl,.slice na (zs.samples.length+1) nc))[i]?=some (⟨zs.labels,zs.samples++[(t,u)],zs.last⟩,zl,.slice na (zs.samples.length+1) nc):=by rw[List.getElem?_set_self hiZ]
   have r8:=cF (j:=i*3+2) (u:=.int .i64 t) r7 rfl
   rw[db (sz:=3) (fun _=>rfl) _ i 2 _ (⟨zs.labels,zs.samples++[(t,u)],t⟩,zl,.slice na (zs.samples.length+1) nc) _ hz7 (by decide) rfl,List.set_set] at r8
   have hkk:ak w6 ((w6.setCell ⟨g,i*3+1,none⟩ (.slice na (zs.samples.length+1) nc)).setCell ⟨g,i*3+2,none⟩ (.int .i64 t)) (fun k=>k=g):=(ak.of_grown (ap _ _ _ _) fun k e=>(az e).symm).trans (ak.of_grown (ap _ _ _ _) fun k e=>(az e).symm)
   have hB6:=(ay BX hb5).trans (hk.below (ay BX hb5).size fun k e=>aK BX.size (hya k e).1)
   have hgne:∀k,k<w.heap.size+4->k≠g:=fun k h1 e=>by have:=hglt.1;omega
   refine⟨⟨bq row6 rfl,(d9 row6 hz).2.1⟩,⟨(ag.cell (ag.far n36 (hgne _ (by omega)) _) 0).trans rfl,bq r7 rfl,(d9 r7 hz7).2.2⟩,⟨(ag.cell (ag.far (ag.far n16 (hgne _ (by omega)) _) (hgne _ (by omega)) _) 0).trans rfl,(ag.cell (ag.far (ag.far n16 (hgne _ (by omega)) _) (hgne _ (by omega)) _) 1).trans rfl,ag.far (ag.far n46 (hgne _ (by omega)) _) (hgne _ (by omega)) _⟩,r8,hB6.trans (hkk.below hB6.size fun k e=>by have:=hglt.1;omega),hkk⟩)
  have HYG:=af (show ∀k,(Value.slice ya zs.samples.length yc).ownBlock=some k->wc.heap.size<=k from fun k e=>(hya k e).1);obtain⟨i0,z0,hin,hz0,hz1,hz2,hz3⟩:=kO.info;have hs5:wc.heap.size<=w5.heap.size:=hb5.size;unfold bF;clear G1 G2 G3 x0 x1 c0 QC hya hp;go_wp2_with (at_builtin;(refine wpList_append_own_at _ rfl _ _ 86 rfl wc.heap.size 127 i0 z0 2 16 kO.und hin hz0 hz1 hz2 hz3 (by decide) _ zs.samples.length _ rfl hy ⟨p,0,none⟩ 1 c [.int .i64 t,.int .u64 (u:Int)] rfl rfl hcells (by simp[Value.oneCell']) (by unfold maxLen;omega) (by omega) hs5 ?_);intro v' w6 hown' hgrow hnil hloc;obtain⟨na,nc,rfl⟩:=aH hown';obtain⟨⟨f1,f2⟩,⟨f3,f4,f5⟩,⟨f6,f7,f8⟩,f9,f10,f11⟩:=HFA.out w6 (ak.of_grown hgrow fun k e=>e) na nc;have f12:=ag.frozen f8 0;have f13:=ag.frozen f8 1;have f14:=ag.cell f8 0;have f15:=ag.cell f8 1)
  generalize hw8:(w6.setCell ⟨g,i*3+1,none⟩ _).setCell ⟨g,i*3+2,none⟩ _=w8 at*;have n9:=((ag.set_ f8 0 (.slice (some ⟨g,0,none⟩) Z1.length gc)).set_ 1 (.int .i64 f))
  refine bodyPost_ret (results_cell_row rfl _ _ (w.heap.size+1+1+1) 49 #[.slice (some ⟨g,0,none⟩) Z1.length gc,.int .i64 f] (0,0) _ rfl n9 Tryz.underlying49 rfl (by kernel_rfl)) rfl ?_;obtain⟨row,hV1,hz,hP,hZn⟩:=HR.out;obtain⟨e2,hok,hlab,hsm⟩:=HE.out;have hkk:ak w8 ((w8.setCell ⟨w.heap.size+1+1+1,0,none⟩ (.slice (some ⟨g,0,none⟩) Z1.length gc)).setCell ⟨w.heap.size+1+1+1,1,none⟩ (.int .i64 f)) (fun k=>k=w.heap.size+1+1+1):=(ak.of_grown (ap _ _ _ _) fun k e=>(az e).symm).trans (ak.of_grown (ap _ _ _ _) fun k e=>(az e).symm);have hB9:=f10.trans (hkk.below f10.size fun k e=>by omega);have hnb:∀k,(Value.slice na (zs.samples.length+1) nc).ownBlock=some k->wc.heap.size<=k:=fun k e=>(hown'.lt k e).1;have hsm':aI w6 (.slice na (zs.samples.length+1) nc) (zs.samples++[(t,u)]):=iC (Z:=zs.samples++[(t,u)]) (by rw[dO,gE];exact hown') (by rw[aG];rfl) (by rw[aG];simp;omega) (fun x hx=>by
   rcases List.mem_append.1 hx with hx|hx
   ·exact eq hsm x hx
   ·obtain rfl:=List.mem_singleton.1 hx;exact hu)
  have row9:=aw f9 hkk fun k hk e=>by have:=(f9.lt k hk).1;omega
  refine⟨_,rfl,?_,hB9⟩;have:=cV row9 (by rw[List.length_set]) (by rw[List.length_set];omega) fun z hz=>?_
  ·rw[List.map_set] at this;rw[hP];exact this
  ·rcases List.mem_or_eq_of_mem_set hz with hz|rfl
   ·exact(hV1 z hz).below hB9
   ·exact⟨⟨eq hsm',hu.1⟩,hlab.below hB9,(hsm'.kept f11 fun k e e2=>by have:=hnb k e;have:=hglt.2;omega).kept hkk fun k e e2=>by have:=hnb k e;omega⟩
end
section
open Go.RowKit
theorem o8{S:List aO}{i:Nat}(hi:i<S.length):S.getD i cy=S[i]:=by rw[List.getD_eq_getElem?_getD,aV hi];rfl
theorem GT{S:List aO}{i:Nat}{x y:aO}(h:y∈S.set i x):y=x\/y∈S:=(List.mem_or_eq_of_mem_set h).symm
end
section
open Go.RowKit
attribute [local go_sem] am aq
theorem i3(t:Int)(w:World):Calls Tryz.prog 81 #[.int .i64 t] w fun e w'=>e=.returned (.bool (aX t))/\w=w':=by
 by_cases h:0<=t
 ·have hd:decide (0<=t)=true:=by simpa using h
  have hb:aX t=decide (t<=1125899906842624):=by unfold aX;rw[hd];rfl
  rw[hb];clear hb;go_enter Tryz.func81,Tryz.ntmps81
  go_wp2;go_ret;exact⟨rfl,rfl⟩
 ·have hd:decide (0<=t)=false:=by simpa using h
  have hb:aX t=false:=by unfold aX;rw[hd];rfl
  rw[hb];clear hb;go_enter Tryz.func81,Tryz.ntmps81
  go_wp2;go_ret;exact⟨rfl,rfl⟩
theorem pm(t:Int)(w:World):Calls Tryz.prog 63 #[.int .i64 t] w fun e w'=>e=.returned (.bool (aX t))/\w=w':=by
 by_cases h:0<=t
 ·have hd:decide (0<=t)=true:=by simpa using h
  have hb:aX t=decide (t<=1125899906842624):=by unfold aX;rw[hd];rfl
  rw[hb];clear hb;go_enter Tryz.func63,Tryz.ntmps63
  go_wp2;go_ret;exact⟨rfl,rfl⟩
 ·have hd:decide (0<=t)=false:=by simpa using h
  have hb:aX t=false:=by unfold aX;rw[hd];rfl
  rw[hb];clear hb;go_enter Tryz.func63,Tryz.ntmps63
  go_wp2;go_ret;exact⟨rfl,rfl⟩
theorem oh(l:List Lb):bD l=0\/bD l=2:=by unfold bD;split<;>simp
def mG(S:List aO)(l:List Lb)(x:cH):Int×Bool:=match cP S l with
 |none=>if 20<=S.length then(7,false) else(0,false)
 |some i=>
  let y:=S.getD i cy
  if x.1<y.last then(4,false)
  else if x.1=y.last then(if x∈y.samples then(0,true) else(5,false))
  else if 200<=y.samples.length then(7,false) else(0,false)
theorem AG(S:List aO)(f:Int)(l:List Lb)(x:cH)(g:Int):cI ⟨S,f⟩ l x g=if bD l≠0 then(2,false) else if cZ g<(a8 l:Int) then(3,false) else if aX x.1=false then(1,false) else if x.1<f then(6,false) else mG S l x:=rfl
theorem vA{S:List aO}{l:List Lb}{x:cH}(h:cP S l=none):mG S l x=if 20<=S.length then(7,false) else(0,false):=by unfold mG;rw[h]
theorem vz{S:List aO}{l:List Lb}{x:cH}{i:Nat}(h:cP S l=some i)(hi:i<S.length):mG S l x=if x.1<S[i].last then(4,false) else if x.1=S[i].last then(if x∈S[i].samples then(0,true) else(5,false)) else if 200<=S[i].samples.length then(7,false) else(0,false):=by
 unfold mG;rw[h];simp only[o8 hi]
theorem cq{w wr:World}{a:Option Addr}{n c:Nat}{S:List aO}(h:aM w (.slice a n c) S){i:Nat}(hi:i<S.length)(hb:Below w.heap.size w wr):∃g o sl sv,a=some ⟨g,o,none⟩/\jf wr (S[i],sl,sv)/\wr.cell? ⟨g,o+i*3,none⟩=some sl/\wr.cell? ⟨g,o+i*3+1,none⟩=some sv/\wr.cell? ⟨g,o+i*3+2,none⟩=some (.int .i64 S[i].last):=by
 obtain⟨a',c',h1,_,_,_,h5⟩:=h;obtain⟨rfl,_,_⟩:=Value.slice.inj h1;obtain⟨g,o,e,h6⟩:=h5 i S[i] (aV hi);obtain⟨k1,sl,sv,k2,k3,k4,k5,k6⟩:=rL.below h6 hb;exact⟨g,o,sl,sv,e,⟨k1,k3,k5⟩,k2,k4,k6⟩
theorem rK(v lv:Value)(S:List aO)(l:List Lb)(f t g:Int)(u:Nat)(w:World)(h:aM w v S)(hl:aC w lv l)(hg: -9223372036854775808<=g/\g<=9223372036854775807):
 Calls Tryz.prog 164 #[.agg #[v,.int .i64 f],lv,.agg #[.int .i64 t,.int .u64 (u:Int)],.int .i64 g] w fun e w'=>e=.returned (.tuple #[.int .i64 (cI ⟨S,f⟩ l (t,u) g).1,.bool (cI ⟨S,f⟩ l (t,u) g).2])/\Below w.heap.size w w':=by
 have hlen:=h.len
 have H:=af h
 obtain⟨sa,sc,rfl,_⟩:=id h
 obtain⟨N,hN⟩:∃N,S.length=N:=⟨_,rfl⟩
 have HN:=af hN
 rw[hN] at H hlen⊢
 have b1:=ai w (.cells #[.slice sa N sc,.int .i64 f] 49)
 have b2:=b1.alloc b1.size (.cells #[.int .i64 t,.int .u64 (u:Int)] 127)
 have k1:=ag.alloc (ag.new w 49 #[.slice sa N sc,.int .i64 f]) (.cells #[.int .i64 t,.int .u64 (u:Int)] 127)
 have k2:=ag.new (w.alloc (.cells #[.slice sa N sc,.int .i64 f] 49)) 127 #[.int .i64 t,.int .u64 (u:Int)]
 rw[aW] at k2
 have q1:=af (jj l lv _ (hl.below b2))
 have q2:=af (fun W (hb:Below w.heap.size w W)=>iS l lv W (hl.below hb))
 have q3:=af (fun W=>mZ g W hg.1 hg.2)
 have q4:=af (fun W=>i3 t W)
 have q5:=af (fun W (hb:Below w.heap.size w W)=>jD _ lv S l f W (H.out.below hb) (hl.below hb))
 have HA:=af (AG S f l (t,u) g)
 clear h hl hN
 go_enter Tryz.func164,Tryz.ntmps164
 go_wp2_with fail
 generalize hW0:(w.alloc _).alloc _=W0 at*
 clear hW0
 refine bL q1.out fun w1 hb1=>?_
 have B1:=ay b2 hb1
 have m1:=ag.below k1 hb1 k1.lt
 have m2:=ag.below k2 hb1 k2.lt
 clear q1 hb1 k1 k2 b1 b2
 rcases oh l with hc|hc
 case inr=>
  have HZ:=af (show cI ⟨S,f⟩ l (t,u) g=(2,false) by rw[HA.out,if_pos (by rw[hc];decide)]);rw[hc];clear hc HA;go_wp2_with fail
  go_ret2;exact⟨by rw[HZ.out];rfl,B1⟩
 rw[if_neg (by rw[hc];decide)] at HA
 rw[hc]
 clear hc
 go_wp2_with fail
 refine(q2.out _ B1).mono ?_
 rintro e w2 ⟨rfl,hb2⟩
 have B2:=ay B1 hb2
 have m1:=ag.below m1 hb2 m1.lt
 have m2:=ag.below m2 hb2 m2.lt
 clear q2 hb2 B1
 go_wp2_with fail
 refine(q3.out _).mono ?_
 rintro e _ ⟨rfl,rfl⟩
 clear q3
 by_cases hlm:cZ g<(a8 l:Int)
 ·have HZ:=af (show cI ⟨S,f⟩ l (t,u) g=(3,false) by rw[HA.out,if_pos hlm]);clear HA;go_wp2_with fail
  go_ret2;exact⟨by rw[HZ.out];rfl,B2⟩
 rw[if_neg hlm] at HA
 have x0:=ax m2 0 (.int .i64 t) rfl
 go_wp2_with fail
 refine(q4.out _).mono ?_
 rintro e _ ⟨rfl,rfl⟩
 clear q4 hlm
 cases hti:aX t with
 |false=>
  have HZ:=af (show cI ⟨S,f⟩ l (t,u) g=(1,false) by rw[HA.out,if_pos hti]);clear HA hti;go_wp2_with fail
  go_ret2;exact⟨by rw[HZ.out];rfl,B2⟩
 |true=>
  rw[if_neg (by rw[hti];decide)] at HA;have y0:=ax m1 0 (.slice sa N sc) rfl;have y1:=ax m1 1 (.int .i64 f) rfl;clear hti;by_cases hfl:t<f
  ·have HZ:=af (show cI ⟨S,f⟩ l (t,u) g=(6,false) by rw[HA.out,if_pos hfl]);clear HA;go_wp2_with fail
   go_ret2;exact⟨by rw[HZ.out];rfl,B2⟩
  rw[if_neg hfl] at HA;go_wp2_with fail
  refine(q5.out _ B2).mono ?_;rintro e w3 ⟨rfl,hb3⟩;have B3:=ay B2 hb3;have m1:=ag.below m1 hb3 m1.lt;have m2:=ag.below m2 hb3 m2.lt;have y0:=ax m1 0 (.slice sa N sc) rfl;have x0:=ax m2 0 (.int .i64 t) rfl;have x1:=ax m2 1 (.int .u64 (u:Int)) rfl;clear q5 hb3 B2 hfl;cases hfi:cP S l with
  |none=>
   rw[vA hfi,HN.out] at HA;simp only[dU];clear hfi;by_cases hn:20<=N
   ·have HZ:=af (show cI ⟨S,f⟩ l (t,u) g=(7,false) by rw[HA.out];exact if_pos hn);have hn2:(20:Int)<=(N:Int):=by omega
    clear HA;go_wp2_with fail
    go_ret2;exact⟨by rw[HZ.out];rfl,B3⟩
   ·have HZ:=af (show cI ⟨S,f⟩ l (t,u) g=(0,false) by rw[HA.out];exact if_neg hn);have hn2:¬((20:Int)<=(N:Int)):=by omega
    clear HA;go_wp2_with fail
    go_ret2;exact⟨by rw[HZ.out];rfl,B3⟩
  |some i=>
   have hi:=fG _ _ hfi;rw[vz hfi hi] at HA;have hiN:(i:Int)<(N:Int):=by have:=HN.out;omega
   obtain⟨gg,o,sl,sv,rfl,hV,d0,d1,d2⟩:=cq H.out hi B3;simp only[dU];have hlt:¬((i:Int)<0):=by omega
   clear hfi;generalize S[i]=y at*;clear hi;obtain⟨yl,ys,b⟩:=y;have hlab:aC w3 sl yl:=hV.2.1;have hsm:aI w3 sv ys:=hV.2.2;clear hV;obtain⟨ya,yc,rfl,_⟩:=id hlab;obtain⟨za,zc,rfl,_⟩:=id hsm;simp only at d0 d1 d2 HA;have b4:=ai w3 (.cells #[.slice ya yl.length yc,.slice za ys.length zc,.int .i64 b] 88);have k4:=ag.new w3 88 #[.slice ya yl.length yc,.slice za ys.length zc,.int .i64 b];have e1:=ax k4 1 (.slice za ys.length zc) rfl;have e2:=ax k4 2 (.int .i64 b) rfl;have x0':=(b4.cell m2.lt).trans x0;have x1':=(b4.cell m2.lt).trans x1;have B4:=ay B3 b4;have q6:=af (nS _ ys (t,u) _ (hsm.below b4));clear hlab hsm k4 m1 m2 x0 x1 b4;by_cases h1:t<b
   ·have HZ:=af (show cI ⟨S,f⟩ l (t,u) g=(4,false) by rw[HA.out,if_pos h1]);clear HA q6;go_wp2_with fail
    go_ret2;exact⟨by rw[HZ.out];rfl,B4⟩
   rw[if_neg h1] at HA;by_cases h2:t=b
   ·subst h2;rw[if_pos rfl] at HA;by_cases hm:(t,u)∈ys
    ·have HZ:=af (show cI ⟨S,f⟩ l (t,u) g=(0,true) by rw[HA.out,if_pos hm]);rw[decide_eq_true hm] at q6;clear HA hm;go_wp2_with fail
     refine bL q6.out fun w5 hb5=>?_;go_wp2_with fail
     go_ret2;exact⟨by rw[HZ.out];rfl,ay B4 hb5⟩
    ·have HZ:=af (show cI ⟨S,f⟩ l (t,u) g=(5,false) by rw[HA.out,if_neg hm]);rw[decide_eq_false hm] at q6;clear HA hm;go_wp2_with fail
     refine bL q6.out fun w5 hb5=>?_;have x0:=cu hb5 x0';have e3:=cu hb5 e2;clear e1 e2 x0' x1' q6;go_wp2_with fail
     go_ret2;exact⟨by rw[HZ.out];rfl,ay B4 hb5⟩
   rw[if_neg h2] at HA;clear q6;by_cases hn:200<=ys.length
   ·have HZ:=af (show cI ⟨S,f⟩ l (t,u) g=(7,false) by rw[HA.out,if_pos hn]);have hn2:(200:Int)<=(ys.length:Int):=by omega
    clear HA;go_wp2_with fail
    go_ret2;exact⟨by rw[HZ.out];rfl,B4⟩
   ·have HZ:=af (show cI ⟨S,f⟩ l (t,u) g=(0,false) by rw[HA.out,if_neg hn]);have hn2:¬((200:Int)<=(ys.length:Int)):=by omega
    clear HA;go_wp2_with fail
    go_ret2;exact⟨by rw[HZ.out];rfl,B4⟩
theorem pd{v u:Value}{n:Nat}(hv:∀k,v.ownBlock=some k->k<n)(hu:∀k,u.ownBlock=some k->n<=k):yD v u:=by
 rintro p m c rfl _ e;have:=hv _ e;have:=hu _ rfl;omega
theorem aC.st{w w':World}{b:Nat}{T:TypeId}{a:Option Addr}{n c:Nat}{ik:IntKind}{f:Int}{v:Value}{L:List Lb}(h:aC w v L)(hB:ag w b T #[.slice a n c,.int ik f])(hk:ak w w' (fun k=>k=b)):aC w' v L:=by
 obtain⟨a',c',rfl,h2,h3⟩:=h;refine⟨a',c',rfl,h2,fun i x hx=>?_⟩;obtain⟨k1,k2,g,o,e,k3,k4⟩:=h3 i x hx;have hne:g≠b:=fun e=>by
  subst e;rw[ag.cell hB] at k3;generalize o+i*2=j at k3;match j with
  |0=>simp at k3
  |1=>simp at k3
  |j+2=>simp at k3
 exact⟨k1,k2,g,o,e,hk.cell k3 hne,hk.cell k4 hne⟩
theorem aI.st{w w':World}{b:Nat}{T:TypeId}{a:Option Addr}{n c:Nat}{ik:IntKind}{f:Int}{v:Value}{L:List cH}(h:aI w v L)(hB:ag w b T #[.slice a n c,.int ik f])(hk:ak w w' (fun k=>k=b)):aI w' v L:=by
 obtain⟨a',c',rfl,h2,h3,h4,h5⟩:=h;refine⟨a',c',rfl,h2,h3,h4,fun i x hx=>?_⟩;obtain⟨g,o,e,k1,k2,k3⟩:=h5 i x hx;have hne:g≠b:=fun e=>by
  subst e;rw[ag.cell hB] at k2 k3;generalize o+i*2=j at k2 k3;match j with
  |0=>simp at k2
  |1=>simp at k3
  |j+2=>simp at k2
 exact⟨g,o,e,k1,hk.cell k2 hne,hk.cell k3 hne⟩
theorem aM.st{w w':World}{b:Nat}{T:TypeId}{a:Option Addr}{n c:Nat}{ik:IntKind}{f:Int}{v:Value}{S:List aO}(h:aM w v S)(hB:ag w b T #[.slice a n c,.int ik f])(hk:ak w w' (fun k=>k=b)):aM w' v S:=by
 obtain⟨a',c',rfl,h2,h3,h4,h5⟩:=h;refine⟨a',c',rfl,h2,h3,h4,fun i x hx=>?_⟩;obtain⟨g,o,e,k1,sl,sv,k2,k3,k4,k5,k6⟩:=h5 i x hx;have hne:g≠b:=fun e=>by
  subst e;obtain⟨_,_,hsl,_⟩:=id k3;obtain⟨_,_,hsv,_⟩:=id k5;rw[ag.cell hB] at k2 k4;rw[hsl] at k2;rw[hsv] at k4;generalize o+i*3=j at k2 k4;match j with
  |0=>simp at k4
  |1=>simp at k2
  |j+2=>simp at k2
 exact⟨g,o,e,k1,sl,sv,hk.cell k2 hne,k3.st hB hk,hk.cell k4 hne,k5.st hB hk,hk.cell k6 hne⟩
def ui(t:Int)(x:aO):aO:=⟨x.labels,ek x.samples t 9223372036854775807,x.last⟩
def mr(t:Int)(x:aO):Bool:= !x.samples.isEmpty||decide (t<=x.last)
theorem Fg(S:List aO)(f t:Int):(v8 ⟨S,f⟩ t).ser=(S.map (ui t)).filter (mr t):=rfl
theorem Ff(S:List aO)(t:Int){j:Nat}(h:j<S.length):((S.take (j+1)).map (ui t)).filter (mr t)=((S.take j).map (ui t)).filter (mr t)++if mr t (ui t S[j]) then[ui t S[j]] else[]:=by
 rw[eM h,List.map_append,List.filter_append];congr 1;simp[List.filter_cons]
theorem FO(v:Value)(S:List aO)(f t:Int)(w:World)(h:aM w v S):
 Calls Tryz.prog 257 #[.agg #[v,.int .i64 f],.int .i64 t] w fun e w'=>∃v',e=.returned (.agg #[v',.int .i64 t])/\aM w' v' (v8 ⟨S,f⟩ t).ser/\Below w.heap.size w w':=by
 have hlen:=h.len
 have H:=af h
 obtain⟨sa,sc,rfl,_⟩:=id h
 obtain⟨N,hN⟩:∃N,S.length=N:=⟨_,rfl⟩
 have HN:=af hN
 rw[hN] at H hlen⊢
 rw[Fg]
 have b1:=ai w (.cells #[.slice sa N sc,.int .i64 f] 49)
 have b2:=b1.alloc b1.size (.cells #[.slice none 0 0,.int .i64 0] 49)
 have k1:=ag.alloc (ag.new w 49 #[.slice sa N sc,.int .i64 f]) (.cells #[.slice none 0 0,.int .i64 0] 49)
 have k2:=ag.new (w.alloc (.cells #[.slice sa N sc,.int .i64 f] 49)) 49 #[.slice none 0 0,.int .i64 0]
 rw[aW] at k2
 have y0:=ax k1 0 (.slice sa N sc) rfl
 have hs2:w.heap.size+2<=((w.alloc (.cells #[.slice sa N sc,.int .i64 f] 49)).alloc (.cells #[.slice none 0 0,.int .i64 0] 49)).heap.size:=by rw[aW,aW];exact aF _
 have r0:((w.alloc (.cells #[.slice sa N sc,.int .i64 f] 49)).alloc (.cells #[.slice none 0 0,.int .i64 0] 49)).ownsRow (w.heap.size+2) 88 3 (.slice none 0 0) 0 (aL eT []):=eE
 clear h hN k1 b1
 go_enter Tryz.func257,Tryz.ntmps257
 go_wp2_with fail
 generalize hW0:(w.alloc _).alloc _=W0 at*
 clear hW0 y0
 go_loopw [5,11] (fun vl vi wr=>∃(j:Nat) (Z:List (aO×Value×Value)),j<=N/\vi=.int .i64 (j:Int)/\Below w.heap.size w wr/\w.heap.size+2<=wr.heap.size/\ag wr (w.heap.size+1) 49 #[.slice none 0 0,.int .i64 0]/\wr.ownsRow (w.heap.size+2) 88 3 vl Z.length (aL eT Z)/\(∀z∈Z,ix wr vl z)/\Hid (Z.map (fun z=>z.1)=((S.take j).map (ui t)).filter (mr t))/\Z.length<=j) (fun _ vi _=>N-(intOf vi).toNat)
 case atStart=>exact⟨0,[],Nat.zero_le _,rfl,b2,hs2,k2,r0,by simp,af rfl,aF _⟩
 clear b2 hs2 k2 r0
 obtain⟨j,Z,hj,rfl,hb,hs,kr,row,hF,HJ,hZj⟩:=hrel
 obtain⟨za,zc,rfl⟩:=aH row
 rcases(show j<N\/j=N by omega) with hjn|rfl
 ·have hjl:j<S.length:=by rw[HN.out];exact hjn
  obtain⟨gg,o,sl,sv,rfl,hV,d0,d1,d2⟩:=cq H.out hjl hb;have hVw:∃sl0 sv0,jf w (S[j],sl0,sv0)/\sl0=sl:=by
   obtain⟨g2,o2,sl0,sv0,e,k1,k2,_⟩:=cq H.out hjl (Below.refl _ w);have e2:=az e;cases e2;exact⟨sl0,sv0,k1,az ((cu hb k2).symm.trans d0)⟩
  have HS:=af (Ff S t hjl);generalize S[j]=y at*;clear hjl;obtain⟨yl,ys,b⟩:=y;have hlab:aC wr sl yl:=hV.2.1;have hsm:aI wr sv ys:=hV.2.2;have hok:(⟨yl,ys,b⟩:aO).ok:=hV.1;obtain⟨sl0,_,hV0,rfl⟩:=hVw;have hlab0:aC w sl0 yl:=hV0.2.1;clear hV hV0;obtain⟨ya,yc,rfl,_⟩:=id hlab;obtain⟨za2,zc2,rfl,_⟩:=id hsm;simp only at d0 d1 d2;have b3:=ai wr (.cells #[.slice ya yl.length yc,.slice za2 ys.length zc2,.int .i64 b] 88);have k3:=ag.new wr 88 #[.slice ya yl.length yc,.slice za2 ys.length zc2,.int .i64 b];have e1:=ax k3 1 (.slice za2 ys.length zc2) rfl;have q:=af (mL _ ys t 9223372036854775807 _ (hsm.below b3));have HR:=af (And.intro row (And.intro hF (And.intro hlab (And.intro hlab0 hok))));have hHS:ui t ⟨yl,ys,b⟩=⟨yl,ek ys t 9223372036854775807,b⟩:=rfl;rw[hHS] at HS;clear hHS;generalize ek ys t 9223372036854775807=ys2 at*;clear row hF hlab hlab0 hsm hok;go_wp2_with fail
  refine q.out.mono ?_;rintro e w2 ⟨v2,rfl,hs2,hb2,hfr⟩;have k4:=ag.below k3 hb2 k3.lt;have B2:=ay b3 hb2;have kr2:=ag.below kr B2 kr.lt;have hlen2:=hs2.len;obtain⟨ba,bc,rfl,_⟩:=id hs2;have f1:=ag.frozen k4 1;have e1:=ax k4 1 (.slice za2 ys.length zc2) rfl;have k5:ag (w2.setCell ⟨wr.heap.size,1,none⟩ (.slice ba ys2.length bc)) wr.heap.size 88 #[.slice ya yl.length yc,.slice ba ys2.length bc,.int .i64 b]:=ag.set_ k4 1 _;have kr3:=ag.far (u:=.slice ba ys2.length bc) (p:=⟨wr.heap.size,1,none⟩) kr2 (by simp;omega);have hkk:ak w2 (w2.setCell ⟨wr.heap.size,1,none⟩ (.slice ba ys2.length bc)) (fun k=>k=wr.heap.size):=ak.of_grown (ap _ _ _ _) fun k e=>(az e).symm;have hszn:wr.heap.size+1<=(wr.alloc (.cells #[.slice ya yl.length yc,.slice za2 ys.length zc2,.int .i64 b] 88)).heap.size:=by rw[aW];exact aF _
  have hs3:=hs2.kept hkk fun k e e2=>by have:=hfr k e;omega
  have B3:=B2.trans (hkk.below B2.size fun k e=>Nat.le_of_eq e.symm);have z0:=ax k5 0 (.slice ya yl.length yc) rfl;have z1:=ax k5 1 (.slice ba ys2.length bc) rfl;have z2:=ax k5 2 (.int .i64 b) rfl;have HB:=af (And.intro kr3 (And.intro hs3 (And.intro B3 (fun k (e:(Value.slice ba ys2.length bc).ownBlock=some k)=>aK hszn (hfr k e)))));have hw9:IntKind.i64.wrap ((j:Int)+1)=(j:Int)+1:=ct _ (by omega);have B3s:=B3.size;clear q hs2 hb2 k3 k4 k5 kr kr2 kr3 hkk hs3 B3 hfr b3 d0 d1 d2 B2;go_upto_region 6 with fail
  have HW:=af (show w2.setCell ⟨wr.heap.size,1,none⟩ (.slice ba ys2.length bc)=w2.setCell ⟨wr.heap.size,1,none⟩ (.slice ba ys2.length bc) from rfl);generalize w2.setCell ⟨wr.heap.size,1,none⟩ (.slice ba ys2.length bc)=W3 at*;clear HW e1 f1;go_cut [29] (fun s29 wx=>s29=.bool (mr t ⟨yl,ys2,b⟩)/\W3=wx)
  case first=>
   have hk1:mr t ⟨yl,ys2,b⟩=(decide (0<ys2.length)||decide (t<=b)):=by unfold mr;cases ys2<;>simp
   by_cases h1:0<ys2.length
   ·have h2:(0:Int)<(ys2.length:Int):=by omega
    have HK:=af (show mr t ⟨yl,ys2,b⟩=true by rw[hk1,decide_eq_true h1];rfl);clear hk1;go_wp2_with fail
    go_meet;exact⟨by rw[HK.out],rfl⟩
   ·have h2:¬((0:Int)<(ys2.length:Int)):=by omega
    have HK:=af (show mr t ⟨yl,ys2,b⟩=decide (t<=b) by rw[hk1,decide_eq_false h1];rfl);clear hk1;go_wp2_with fail
    go_meet;exact⟨by rw[HK.out],rfl⟩
  case rest=>
   obtain⟨rfl,rfl⟩:=hcut;obtain⟨kr3,hs3,B3,hfr⟩:=HB.out;obtain⟨row,hF,hlab,hlab0,hok⟩:=HR.out;have row3:=aw row (ak.of_below (S:=fun _=>False) B3) (fun _ _ e=>e);have hlt:=row.lt;have hbW:=ay hb B3;cases hkp:mr t ⟨yl,ys2,b⟩ with
   |true=>
    rw[hkp,if_pos rfl] at HS;have HKR:=af hkp;clear row;go_wp2_with (at_builtin;(refine l7 ii rfl _ _ rfl rfl row3 [.slice ya yl.length yc,.slice ba ys2.length bc,.int .i64 b] rfl rfl rfl (by simp[Value.oneCell']) (by omega) (aK hs B3s) ?_);intro sa' sc' w5 hown' hk5 hloc)
    have hnb:¬((Value.slice za Z.length zc).ownBlock=some (w.heap.size+1)):=fun e=>by have:=(hlt _ e).1;omega
    have HC:=af (show Below w.heap.size w w5/\w.heap.size+2<=w5.heap.size/\ag w5 (w.heap.size+1) 49 #[.slice none 0 0,.int .i64 0]/\w5.ownsRow (w.heap.size+2) 88 3 (.slice sa' (Z.length+1) sc') (Z++[((⟨yl,ys2,b⟩:aO),Value.slice ya yl.length yc,Value.slice ba ys2.length bc)]).length (aL eT (Z++[((⟨yl,ys2,b⟩:aO),Value.slice ya yl.length yc,Value.slice ba ys2.length bc)]))/\(∀z∈Z++[((⟨yl,ys2,b⟩:aO),Value.slice ya yl.length yc,Value.slice ba ys2.length bc)],ix w5 (.slice sa' (Z.length+1) sc') z) from by
     have hst:∀z,ix W3 (.slice za Z.length zc) z->ix w5 (.slice sa' (Z.length+1) sc') z:=fun z hz=>by
      have h1:=hz.turn hloc
      have h2:=hz.kept hk5
      exact⟨h2.1,h1.2⟩
     refine⟨hbW.trans (hk5.below hbW.size fun k e=>by have:=(hlt k e).1;omega),aK (aK hs B3s) hk5.size,ag.keptK kr3 hk5 hnb,by rw[dO,gE,aG];exact hown',fun z hz=>?_⟩
     rcases List.mem_append.1 hz with hz|hz
     ·exact hst z ((hF z hz).below B3)
     ·obtain rfl:=List.mem_singleton.1 hz
      exact hst _ ⟨⟨⟨eq hs3,hok.2⟩,hlab.below B3,hs3⟩,mp hlab0 fun k e=>by have:=(hlt k e).1;omega,pd (fun k e=>(hlt k e).2) fun k e=>by have:=hfr k e;omega⟩)
    clear hown' hk5 hloc kr3 hs3 B3 row3 hF hlab hlab0 hok z0 z1 z2 hlt hbW hnb HR HB hkp;go_roundw
    case rel=>
     obtain⟨c1,c2,c3,c4,c5⟩:=HC.out;refine⟨j+1,_,hjn,by go_num,c1,c2,c3,c4,c5,af ?_,by rw[aG];simp;omega⟩;rw[HS.out,List.map_append,HJ.out];rfl
    case measure=>simp[intOf];omega
   |false=>
    rw[hkp,if_neg (by decide),List.append_nil] at HS;clear row z0 z1 z2 hlab hlab0 hok hfr hs3 hkp;go_wp2_with fail
    go_roundw
    case rel=>exact⟨j+1,Z,hjn,by go_num,hbW,aK hs B3s,kr3,row3,fun z hz=>(hF z hz).below B3,af (by rw[HS.out];exact HJ.out),by omega⟩
    case measure=>simp[intOf];omega
 ·have HI:=af (cV row rfl (by omega) fun z hz=>(hF z hz).1);rw[HJ.out,List.take_of_length_le (by rw[HN.out];exact aF _)] at HI;have f0:=ag.frozen kr 0;have f1:=ag.frozen kr 1;have c0:=ax kr 0 (.slice none 0 0) rfl;have c1:=ax kr 1 (.int .i64 0) rfl;have hkk:ak wr ((wr.setCell ⟨w.heap.size+1,0,none⟩ (.slice za Z.length zc)).setCell ⟨w.heap.size+1,1,none⟩ (.int .i64 t)) (fun k=>k=w.heap.size+1):=(ak.of_grown (ap _ _ _ _) fun k e=>(az e).symm).trans (ak.of_grown (ap _ _ _ _) fun k e=>(az e).symm);have n9:=(ag.set_ kr 0 (.slice za Z.length zc)).set_ 1 (.int .i64 t);have hS9:=HI.out.st kr hkk;have hB9:=hb.trans (hkk.below hb.size fun k e=>by omega);clear HI row hF HJ;go_wp2_with fail
  refine bodyPost_ret (results_cell_row rfl _ _ (w.heap.size+1) 49 #[.slice za Z.length zc,.int .i64 t] (0,0) _ rfl n9 Tryz.underlying49 rfl (by kernel_rfl)) rfl ?_;exact⟨_,rfl,hS9,hB9⟩
end
section
open Go Go.RowKit Go.Shelf
def kq (b:Nat)(L:List Bool)(W:World):Prop:=∃v,ag W b 394 #[v,.int .i64 (L.length:Int)]/\W.ownsRow b 5 1 v (ed L).length (Lib.byteCells (ed L))
theorem mN{w w':World}{B n:Nat}{e:TypeId}{sz:Nat}{v:Value}{xs:List Value}(h:w.ownsRow B e sz v n xs)(hb:Below w.heap.size w w'):w'.ownsRow B e sz v n xs:=
 aw h (ak.of_below (S:=fun _=>False) hb) fun _ _ e=>e.elim
theorem kq.below{b:Nat}{L:List Bool}{w w':World}(h:kq b L w)(hb:Below w.heap.size w w'):kq b L w':=by
 obtain⟨v,h1,h2⟩:=h;exact⟨v,ag.below h1 hb h1.lt,mN h2 hb⟩
theorem KD{w:World}{B n g j:Nat}{e:TypeId}{v u:Value}{xs:List Value}(h:w.ownsRow B e 1 v n xs)(hg:v.ownBlock=some g):(w.setCell ⟨g,j,none⟩ u).ownsRow B e 1 v n (xs.set j u):=by
 obtain⟨h1,h2⟩:=h;refine⟨by rw[List.length_set];exact h1,?_⟩;rcases h2 with⟨rfl,_⟩|⟨g',cap,cur,rfl,h3,h4,h5,h6,h7,h8⟩
 ·cases hg
 ·obtain rfl:g'=g:=az hg;refine .inr ⟨g',cap,cur.setIfInBounds j u,rfl,h3,ag.set_ h4 j u,h5,h6,by rw[Array.size_setIfInBounds];exact h7,?_⟩;rw[Array.toList_setIfInBounds,List.take_set,h8]
theorem y8{w:World}{B n g j:Nat}{e:TypeId}{v:Value}{xs:List Value}(h:w.ownsRow B e 1 v n xs)(hg:v.ownBlock=some g):w.frozen? ⟨g,j,none⟩=false:=by
 rcases h.2 with⟨rfl,_⟩|⟨g',cap,cur,rfl,h3,h4,_⟩
 ·cases hg
 ·obtain rfl:g'=g:=az hg;exact ag.frozen h4 j
theorem Ku{w:World}{g:Nat}{t:TypeId}{cs:Array Value}(h:ag w g t cs):ng w g=some (some t):=aP h
theorem mP{w:World}{B n g:Nat}{e t:TypeId}{sz:Nat}{v:Value}{xs:List Value}{cs:Array Value}(hr:w.ownsRow B e sz v n xs)(h:ag w g t cs)(ht:t≠e):∀k,v.ownBlock=some k->k≠g:=fun k hk e2=>by
 subst e2;have h1:=bg hr hk;rw[Ku h] at h1;exact ht (az (az h1))
def fV(B:Nat)(W W':World):Prop:=KeepsFrom (B+5) W W'/\∀k,k=B+3\/k=B+4->W'.heap[k]?=W.heap[k]?
theorem fV.refl(B:Nat)(W:World):fV B W W:=⟨KeepsFrom.refl _ _,fun _ _=>rfl⟩
theorem fV.trans{B:Nat}{X Y Z:World}(h:fV B X Y)(k:fV B Y Z):fV B X Z:=⟨h.1.trans k.1,fun i hi=>(k.2 i hi).trans (h.2 i hi)⟩
theorem fV.set{B:Nat}(W:World)(g i:Nat)(u:Value)(h:g≠B+3/\g≠B+4):fV B W (W.setCell ⟨g,i,none⟩ u):=
 ⟨(KeepsOthers.setCell W _ u).from _,fun k hk=>Below.heap_setCell W ⟨g,i,none⟩ u k (fun e=>by subst e;rcases hk with rfl|rfl;exact h.1 rfl;exact h.2 rfl)⟩
structure ku(w:World)(b:Nat)(vv:Int)(left:Int)(v:Value)(l:List UInt8)(cnt:Int)(W:World):Prop where
 b0:ag W w.heap.size 357 #[.pointer (some ⟨b,0,none⟩)]
 b1:ag W (w.heap.size+1) 67 #[.int .u64 vv]
 b2:ag W (w.heap.size+2) 3 #[.int .i64 left]
 wr:ag W b 394 #[v,.int .i64 cnt]
 row:W.ownsRow b 5 1 v l.length (Lib.byteCells l)
 far:∀g,v.ownBlock=some g->g<w.heap.size\/w.heap.size+5<=g
 bk:BK b b w W
 size:w.heap.size+5<=W.heap.size
 low:b<w.heap.size
section
variable {w W W':World} {b:Nat} {vv left cnt:Int} {v:Value} {l:List UInt8}
theorem uE{row:Option Nat}(h:BK b b w W)(hb:b<=w.heap.size)(hg:W.grownBy W' row)(hr:∀r,row=some r->w.heap.size<=r):BK b b w W':=
 ⟨h.1.grown hg (aK hb h.1.size) fun k e=>aK hb (hr k e),fun k o hk hb2 ht=>by
  have h1:=h.2 k o hk hb2 ht
  have hkl:=(Array.getElem?_eq_some_iff.1 hk).1
  exact(hg.block k (Array.getElem?_eq_some_iff.1 h1).1 fun e=>by have:=hr k e.symm;omega).trans h1⟩
theorem ku.turn{row:Option Nat}(h:ku w b vv left v l cnt W)(hg:W.grownBy W' row)(hr:∀r,row=some r->(r=w.heap.size+3\/r=w.heap.size+4)\/(w.heap.size+5<=r/\∃o:Obj,W.heap[r]?=some o/\o.isCells=false)):ku w b vv left v l cnt W':=by
 have hlo:=h.low;have hge:∀r,row=some r->w.heap.size+3<=r:=fun r e=>by rcases hr r e with(rfl|rfl)|⟨h1,_⟩<;>omega
 have hne:∀g,g<w.heap.size+3->some g≠row:=fun g hg2 e=>by have:=hge g e.symm;omega
 refine⟨ag.grown h.b0 hg (hne _ (by omega)),ag.grown h.b1 hg (hne _ (by omega)),ag.grown h.b2 hg (hne _ (by omega)),ag.grown h.wr hg (hne _ (by omega)),?_,h.far,uE h.bk (Nat.le_of_lt hlo) hg fun r e=>by have:=hge r e;omega,aK h.size hg.size,hlo⟩;refine h.row.kept hg ?_;cases hv:v.ownBlock with
 |none=>exact .inl rfl
 |some g=>
  refine .inr fun e=>?_;rcases hr g e.symm with hg2|⟨_,o,ho,hc⟩
  ·have:=h.far g hv;omega
  ·rcases h.row.2 with⟨rfl,_⟩|⟨g',cap,cur,rfl,_,h4,_⟩
   ·cases hv
   ·obtain rfl:g'=g:=az hv;rw[h4] at ho;obtain rfl:=az ho;cases hc
theorem KO{B n g j:Nat}{xs:List Value}{u:Value}(h:BK b b w W)(hr:W.ownsRow B 5 1 v n xs)(hg:v.ownBlock=some g)(hb:b<=B):BK b b w (W.setCell ⟨g,j,none⟩ u):=by
 have hlt:=hr.lt g hg;refine⟨h.1.setCell (p:=⟨g,j,none⟩) (aK hb hlt.1) _,fun k o hk hb2 ht=>?_⟩;have h1:=h.2 k o hk hb2 ht;by_cases e:k=g
 ·subst e;rcases hr.2 with⟨rfl,_⟩|⟨g',cap,cur,rfl,_,h4,_⟩
  ·cases hg
  ·obtain rfl:g'=k:=az hg;rw[h4] at h1;exact absurd (az h1).symm (ht _ _)
 ·exact(Below.heap_setCell W ⟨g,j,none⟩ u k e).trans h1
theorem ku.setLeft(h:ku w b vv left v l cnt W)(x:Int):ku w b vv x v l cnt (W.setCell ⟨w.heap.size+2,0,none⟩ (.int .i64 x))/\fV w.heap.size W (W.setCell ⟨w.heap.size+2,0,none⟩ (.int .i64 x)):=by
 have hlo:=h.low;have hg:=grownBy_setCell' W (w.heap.size+2) (.int .i64 x);refine⟨⟨ag.far h.b0 (by simp) _,ag.far h.b1 (by simp) _,ag.set_ h.b2 0 _,ag.far h.wr (by simp;omega) _,h.row.kept hg ?_,h.far,uE h.bk (Nat.le_of_lt hlo) hg fun r e=>by obtain rfl:=az e;omega,aK h.size hg.size,hlo⟩,fV.set W _ 0 _ (by omega)⟩;cases hv:v.ownBlock with
 |none=>exact .inl rfl
 |some g=>exact .inr fun e=>by have:=h.far g hv;have:=az e;omega
theorem ku.setCnt(h:ku w b vv left v l cnt W)(x:Int):ku w b vv left v l x (W.setCell ⟨b,1,none⟩ (.int .i64 x))/\fV w.heap.size W (W.setCell ⟨b,1,none⟩ (.int .i64 x)):=by
 have hlo:=h.low;have hg:W.grownBy (W.setCell ⟨b,1,none⟩ (.int .i64 x)) (some b):=ap _ _ _ _;have hnr:=mP h.row h.wr (by decide);refine⟨⟨ag.far h.b0 (by simp;omega) _,ag.far h.b1 (by simp;omega) _,ag.far h.b2 (by simp;omega) _,ag.set_ h.wr 1 _,h.row.kept hg ?_,h.far,⟨h.bk.1.setCell (p:=⟨b,1,none⟩) (aF _) _,fun k o hk hb2 ht=>(Below.heap_setCell W ⟨b,1,none⟩ _ k fun e=>hb2 (by rw[e])).trans (h.bk.2 k o hk hb2 ht)⟩,aK h.size hg.size,hlo⟩,fV.set W _ 1 _ (by omega)⟩;cases hv:v.ownBlock with
 |none=>exact .inl rfl
 |some g=>exact .inr fun e=>hnr g hv (az e)
theorem FD(l:List UInt8)(j:Nat)(x:UInt8):(Lib.byteCells l).set j (.int .u8 (x.toNat:Int))=Lib.byteCells (l.set j x):=by unfold Lib.byteCells;rw[List.map_set]
theorem ku.setByte(h:ku w b vv left v l cnt W){g:Nat}(hv:v.ownBlock=some g)(j:Nat)(x:UInt8):ku w b vv left v (l.set j x) cnt (W.setCell ⟨g,j,none⟩ (.int .u8 (x.toNat:Int)))/\fV w.heap.size W (W.setCell ⟨g,j,none⟩ (.int .u8 (x.toNat:Int))):=by
 have hlo:=h.low;have hf:=h.far g hv;have hg:W.grownBy (W.setCell ⟨g,j,none⟩ (.int .u8 (x.toNat:Int))) (some g):=ap _ _ _ _;have hnr:=mP h.row h.wr (by decide) g hv;have hr:=KD (j:=j) (u:=.int .u8 (x.toNat:Int)) h.row hv;rw[FD] at hr;refine⟨⟨ag.far h.b0 (by simp;omega) _,ag.far h.b1 (by simp;omega) _,ag.far h.b2 (by simp;omega) _,ag.far h.wr (by simp;omega) _,by rw[List.length_set];exact hr,h.far,KO h.bk h.row hv (aF _),aK h.size hg.size,hlo⟩,fV.set W _ j _ (by omega)⟩
theorem ku.app{v':Value}{W4:World}(h:ku w b vv left v l cnt W)(hg:W.grownBy W4 v.ownBlock)(hown:W4.ownsRow b 5 1 v' (l.length+1) (Lib.byteCells l++[.int .u8 0]))
 (hloc:v'.ownBlock=v.ownBlock\/∃k,v'.ownBlock=some k/\W.heap.size<=k):ku w b vv left v' (l++[0]) cnt (W4.setCell ⟨b,0,none⟩ v')/\fV w.heap.size W (W4.setCell ⟨b,0,none⟩ v'):=by
 have hlo:=h.low
 have hsz:=h.size
 have hfar:∀g,v'.ownBlock=some g->g<w.heap.size\/w.heap.size+5<=g:=fun g hv=>by
  rcases hloc with e|⟨k,e,hk⟩
  ·exact h.far g (by rw[<-e];exact hv)
  ·rw[e] at hv;obtain rfl:=az hv;right;omega
 have hne:∀k,(k=w.heap.size\/k=w.heap.size+1\/k=w.heap.size+2\/k=w.heap.size+3\/k=w.heap.size+4)->some k≠v.ownBlock:=fun k hk e=>by have:=h.far k e.symm;omega
 have hnb:some b≠v.ownBlock:=fun e=>mP h.row h.wr (by decide) b e.symm rfl
 have w4:=ag.grown h.wr hg hnb
 have hnr:=mP hown w4 (by decide)
 have hs4:W4.grownBy (W4.setCell ⟨b,0,none⟩ v') (some b):=ap _ _ _ _
 have e1:Lib.byteCells l++[.int .u8 0]=Lib.byteCells (l++[0]):=by unfold Lib.byteCells;rw[List.map_append];rfl
 rw[e1] at hown
 have bk4:BK b b w W4:=⟨h.bk.1.grown hg (aK (Nat.le_of_lt hlo) h.bk.1.size) fun k e=>(h.row.lt k e).1,fun k o hk hb2 ht=>by
  have h1:=h.bk.2 k o hk hb2 ht
  refine(hg.block k (Array.getElem?_eq_some_iff.1 h1).1 fun e=>?_).trans h1
  rcases h.row.2 with⟨rfl,_⟩|⟨g',cap,cur,rfl,_,h4,_⟩
  ·cases e
  ·obtain rfl:g'=k:=(az e).symm
   rw[h4] at h1
   exact ht _ _ (az h1).symm⟩
 refine⟨⟨ag.far (ag.grown h.b0 hg (hne _ (by omega))) (by simp;omega) _,ag.far (ag.grown h.b1 hg (hne _ (by omega))) (by simp;omega) _,ag.far (ag.grown h.b2 hg (hne _ (by omega))) (by simp;omega) _,ag.set_ w4 0 _,?_,hfar,⟨bk4.1.setCell (p:=⟨b,0,none⟩) (aF _) _,fun k o hk hb2 ht=>(Below.heap_setCell W4 ⟨b,0,none⟩ _ k fun e=>hb2 (by rw[e])).trans (bk4.2 k o hk hb2 ht)⟩,aK (aK h.size hg.size) hs4.size,hlo⟩,?_⟩
 ·rw[aG];refine hown.kept hs4 ?_;cases hv:v'.ownBlock with
  |none=>exact .inl rfl
  |some g=>exact .inr fun e=>hnr g hv (az e)
 ·refine fV.trans ⟨(KeepsOthers.of_grownBy hg fun j o ej hj=>?_).from _,fun k hk=>?_⟩ (fV.set W4 _ 0 _ (by omega))
  ·rcases h.row.2 with⟨rfl,_⟩|⟨g,cap,cur,rfl,_,h4,_⟩
   ·cases ej
   ·obtain rfl:g=j:=az ej;rw[h4] at hj;cases hj;rfl
  ·have hkl:k<W.heap.size:=by omega
   exact hg.block k hkl (hne k (by omega))
theorem fV.below{B:Nat}(h:Below W.heap.size W W')(hB:B+5<=W.heap.size):fV B W W':=
 ⟨⟨h.size,fun k o _ hk _=>(h.block k (Array.getElem?_eq_some_iff.1 hk).1).trans hk⟩,fun k hk=>h.block k (by omega)⟩
theorem ku.below(h:ku w b vv left v l cnt W)(hb:Below W.heap.size W W'):ku w b vv left v l cnt W':=
 ⟨ag.below h.b0 hb h.b0.lt,ag.below h.b1 hb h.b1.lt,ag.below h.b2 hb h.b2.lt,ag.below h.wr hb h.wr.lt,mN h.row hb,h.far,
  ⟨h.bk.1.trans (hb.mono (aK (Nat.le_of_lt h.low) (by have:=h.size;omega))),fun k o hk hb2 ht=>by
   have h1:=h.bk.2 k o hk hb2 ht
   exact(hb.block k (Array.getElem?_eq_some_iff.1 h1).1).trans h1⟩,aK h.size hb.size,h.low⟩
end
end
section
open Go Go.RowKit Go.Shelf Go.Maps
attribute [local go_sem] Oper.semAt_some
theorem KG(y m e t:Nat)(hy:y<256)(hm:m<2^t)(h:e+t<=8):bits BinOp.or IntKind.u8 (y:Int) ((m:Int)*2^e%256)=((y|||m*2^e:Nat):Int):=by
 have h1:m*2^e<2^t*2^e:=Nat.mul_lt_mul_of_pos_right hm (Nat.two_pow_pos e);have h2:(2:Nat)^t*2^e<=2^8:=by rw[<-Nat.pow_add];exact Nat.pow_le_pow_right (by decide) (by omega)
 have e1:(m:Int)*2^e%256=((m*2^e:Nat):Int):=by
  have:(m:Int)*2^e=((m*2^e:Nat):Int):=by push_cast;rfl
  rw[this];omega
 rw[e1];exact u8_or_nat y (m*2^e) hy (by omega)
theorem p9(b o i:Nat):(⟨b,o,none⟩:Addr).add i=⟨b,o+i,none⟩:=by unfold Addr.add;split<;>simp_all
theorem Eu(v k t:Nat)(hv:v<18446744073709551616)(ht:t<=8):bits BinOp.and IntKind.u64 ((v:Int)/2^k) (IntKind.u64.wrap (IntKind.u64.wrap (2^t)-1))%256=((jF (bH (v >>> k) t):Nat):Int):=by
 have h1:(2:Nat)^t<=2^8:=Nat.pow_le_pow_right (by decide) ht;have h0:0<(2:Nat)^t:=Nat.two_pow_pos t;have e1:((2:Int)^t)=((2^t:Nat):Int):=by push_cast;rfl
 have e2:IntKind.u64.wrap (IntKind.u64.wrap ((2^t:Nat):Int)-1)=((2^t-1:Nat):Int):=by
  simp only[IntKind.wrap,IntKind.bits,IntKind.signed];simp;omega
 have e3:(v:Int)/2^k=((v/2^k:Nat):Int):=by push_cast;rfl
 have h2:v/2^k<18446744073709551616:=Nat.lt_of_le_of_lt (Nat.div_le_self _ _) hv;rw[e1,e2,e3,bits_and_u64_nat _ _ h2 (by omega),Nat.and_two_pow_sub_one_eq_mod,nN,Nat.shiftRight_eq_div_pow];have h3:v/2^k%2^t<2^t:=Nat.mod_lt _ h0;omega
def ky (L:List Bool)(v n d:Nat):List Bool:=L++bH (v >>> (n-d)) d
theorem eD(b:Nat)(L:List Bool)(v n:Nat)(w:World)(h:kq b L w)(hv:v<18446744073709551616)(hn:n<=64)(hL:L.length<=1000000):
 Calls Tryz.prog 328 #[.pointer (some ⟨b,0,none⟩),.int .u64 (v:Int),.int .i64 (n:Int)] w fun e w'=>e=.returned (.tuple #[])/\kq b (L++bH v n) w'/\BK b b w w':=by
 obtain⟨rv,hwr,hrow⟩:=h
 have hb:=hwr.lt
 have qw:=af (fun W=>sG n hn W)
 have qp:=af (fun W=>BE (L.length:Int) (n:Int) W)
 refine(callsIn_wide (n:=8)).1 (callsIn_of_wp_marks (n:=8) Tryz.func328 rfl trivial (wpIn_wide.2 ?_) rfl)
 simp only[Tryz.ntmps328,List.size_toArray,cY,List.length_nil,Nat.reduceAdd,Nat.reduceSub,Array.replicate_succ,Array.replicate_zero,List.push_toArray,List.append_toArray,List.nil_append,List.cons_append]
 have k0:=ag.new w 357 #[.pointer (some ⟨b,0,none⟩)]
 have k1:=ag.new (w.alloc (.cells #[.pointer (some ⟨b,0,none⟩)] 357)) 67 #[.int .u64 (v:Int)]
 have k2:=ag.new ((w.alloc (.cells #[.pointer (some ⟨b,0,none⟩)] 357)).alloc (.cells #[.int .u64 (v:Int)] 67)) 3 #[.int .i64 (n:Int)]
 have b1:=ai w (.cells #[.pointer (some ⟨b,0,none⟩)] 357)
 have b2:=b1.alloc b1.size (.cells #[.int .u64 (v:Int)] 67)
 have b3:=b2.alloc b2.size (.cells #[.int .i64 (n:Int)] 3)
 have k0':=(k0.alloc (.cells #[.int .u64 (v:Int)] 67)).alloc (.cells #[.int .i64 (n:Int)] 3)
 have k1':=k1.alloc (.cells #[.int .i64 (n:Int)] 3)
 rw[aW] at k1 k1'
 rw[aW,aW] at k2
 have w3:=ag.below hwr b3 hb
 have r3:=mN hrow b3
 have x0:=ax k0' 0 (.pointer (some ⟨b,0,none⟩)) rfl
 have x1:=ax w3 1 (.int .i64 (L.length:Int)) rfl
 clear k0 k1
 go_wp2_with fail
 refine(qw.out _).mono ?_
 rintro e _ ⟨rfl,rfl⟩
 go_wp2_with fail
 obtain⟨W3,hW3⟩:∃W3,((w.alloc (.cells #[.pointer (some ⟨b,0,none⟩)] 357)).alloc (.cells #[.int .u64 (v:Int)] 67)).alloc (.cells #[.int .i64 (n:Int)] 3)=W3:=⟨_,rfl⟩
 have hs3:W3.heap.size=w.heap.size+3:=by rw[<-hW3];simp
 rw[hW3] at k0' k1' k2 w3 r3 b3 x0 x1⊢
 clear hW3 b1 b2
 refine(qp.out _).mono ?_
 rintro e W5 ⟨rfl,rfl⟩
 rw[hs3]
 have k3:=ag.new W3 3 #[.int .i64 (L.length:Int)]
 have k4:=ag.new (W3.alloc (.cells #[.int .i64 (L.length:Int)] 3)) 3 #[.int .i64 (n:Int)]
 have k3':=k3.alloc (.cells #[.int .i64 (n:Int)] 3)
 have b4:=b3.alloc b3.size (.cells #[.int .i64 (L.length:Int)] 3)
 have b5:=b4.alloc b4.size (.cells #[.int .i64 (n:Int)] 3)
 rw[aW] at k4
 rw[hs3] at k3' k4
 have hP0:ku w b (v:Int) ((n:Int)-(fF []:Nat)) rv (ed (ky L v n (fF []))) ((L.length:Int)+(fF []:Nat)) ((W3.alloc (.cells #[.int .i64 (L.length:Int)] 3)).alloc (.cells #[.int .i64 (n:Int)] 3)):=by
  have e1:ky L v n (fF [])=L:=by unfold ky;rw[tE];simp[bH]
  have e2:((n:Int)-(fF []:Nat))=(n:Int):=by rw[tE];simp
  have e3:((L.length:Int)+(fF []:Nat))=(L.length:Int):=by rw[tE];simp
  rw[e1,e2,e3];exact⟨(k0'.alloc _).alloc _,(k1'.alloc _).alloc _,(k2.alloc _).alloc _,(w3.alloc _).alloc _,mN hrow b5,fun g hg=>.inl (hrow.lt g hg).2,BK.of_below b5 (Nat.le_of_lt hb),by simp;omega,hb⟩
 generalize hW5:(W3.alloc (.cells #[.int .i64 (L.length:Int)] 3)).alloc (.cells #[.int .i64 (n:Int)] 3)=W5 at*
 have hs5:W5.heap.size=w.heap.size+5:=by rw[<-hW5];simp;omega
 have hseq:=zz 7 (w.heap.size+3) (w.heap.size+4) L.length n W5 k3' k4 (by omega) hn (by omega)
 have hb5:=b5
 clear k0' k1' k2 w3 r3 b3 x0 x1 k3 k4 k3' b4 hW5 hs3 qw qp b5
 go_wp2_with fail
 simp only[Nat.add_assoc,Nat.reduceAdd]
 refine(wpIn_wide (n:=8)).1 ?_
 refine jH (α:=Nat×Nat) 7 8 (e0:=fun x=>.int .i64 (x.1:Int)) (e1:=fun x=>.int .i64 (x.2:Int)) (fun k=>k=w.heap.size+3\/k=w.heap.size+4) (fun k hk=>by omega) rfl (by decide) (gf:=366) (lb:=#[.pointer (some ⟨w.heap.size+4,0,none⟩),.pointer (some ⟨w.heap.size+3,0,none⟩)]) rfl trivial (enters_of Tryz.func366 (by kernel_rfl) rfl)
  hseq (fun h k i hi=>(k i hi).trans (h i hi)) (fun W l o o' hl ho h1 h2 k hk=>World.putObj_heap_other (by omega)) (bR)
  (fun pre W=>∃rv',ku w b (v:Int) ((n:Int)-(fF pre:Nat)) rv' (ed (ky L v n (fF pre))) ((L.length:Int)+(fF pre:Nat)) W)
  (fun s A B row hs hg hr=>by
   obtain⟨rv',hs⟩:=hs
   exact⟨rv',hs.turn hg fun r e=>(hr r e).imp id fun h=>⟨by rw[<-hs5];exact h.1,h.2⟩⟩)
  ⟨rv,hP0⟩ ?assign ?body ?done
 case assign=>
  intro l x W K hK;gi_wp2;first|exact hK|simpa using hK
 case body=>
  rintro l pre x rest W hxs hl ⟨rv',hP⟩;obtain⟨p1,p2,_⟩:=Dn pre _ _ x rest hxs;have hsn:=Ey pre x;have HSN:=af hsn;clear hxs hsn hseq hP0 hb5;generalize pre++[x]=px at*;generalize fF pre=d at*;obtain⟨at_,t⟩:=x;obtain⟨ha,ht⟩:=Prod.mk.inj p2;simp only at HSN;have hat:at_<8:=by omega
  have ht1:1<=t/\d+t<=n/\at_+t<=8:=by omega
  have hDl:(ky L v n d).length=L.length+d:=by unfold ky;rw[aG,bN]
  have hMl:(bH (v >>> (n-d-t)) t).length=t:=bN _ _;have hDM:ky L v n (d+t)=ky L v n d++bH (v >>> (n-d-t)) t:=by unfold ky;rw[List.append_assoc,Ay _ _ _ _ ht1.2.1]
  have hnM:=nN (v >>> (n-d-t)) t;obtain⟨hpk,hby⟩:=GB (L:=ky L v n d) (M:=bH (v >>> (n-d-t)) t) (by omega) (by omega);rw[hMl,hDl,<-ha] at hby;have HPK:=af (show ed (ky L v n (d+t))=gT (ky L v n d)++[fJ (cj (ky L v n d)++bH (v >>> (n-d-t)) t)] by rw[hDM,hpk]);have HBY:=af hby;have HNM:=af hnM;have hfl:=vZ (ky L v n d);have HA:=af ha;clear p2 hpk hby hnM hDM ht hMl ha;have X0:=ax hP.b0 0 (.pointer (some ⟨b,0,none⟩)) rfl;have X1:=ax hP.wr 0 rv' rfl;have hlo:=hP.low;have hsz:=hP.size;have hs1:IntKind.i64.wrap ((n:Int)-(d:Int)-(t:Int))=(n:Int)-(d:Int)-(t:Int):=ct _ (by omega);by_cases h0:at_=0
  case' pos=>
   have hpk0:ed (ky L v n d)=gT (ky L v n d):=BG _ (by have:=HA.out;omega);have htl:cj (ky L v n d)=[]:=wZ _ (by have:=HA.out;omega);have hn0:some w.heap.size≠rv'.ownBlock:=fun e=>by have:=hP.far _ e.symm;omega
   have hnb:some b≠rv'.ownBlock:=fun e=>mP hP.row hP.wr (by decide) b e.symm rfl;have g0:=pu (row:=rv'.ownBlock) (fin:=bj W rv' 1 (ed (ky L v n d)).length [.int .u8 0]) X0 hn0;have g1:=pu (row:=rv'.ownBlock) (fin:=bj W rv' 1 (ed (ky L v n d)).length [.int .u8 0]) X1 hnb;have hpl:=pK (ky L v n d);obtain⟨i0,hin,hz0,hz1,hz2⟩:∃i:TypeInfo,Tryz.prog.info? 5=some i/\i.zero=some (.int .u8 0)/\i.size=1/\i.bytes=1:=info_parts (by kernel_rfl);have f1:(((0:Nat):Int)==0)=true:=rfl;subst h0;gi_wp2_with fail
   refine lH (R:=lZ rv'.ownBlock (bj W rv' 1 (ed (ky L v n d)).length [.int .u8 0])) (by kernel_rfl) ?_ (by kernel_rfl) (by kernel_rfl) rfl (by kernel_rfl) ?_
   ·rintro⟨_,_,h⟩;exact h
   iterate 5 (refine bJ fun K hK=>?_;go_big_quiet_step (fail);refine hK _ ?_;clear hK K)
   refine vT (m:=1) (news:=[.int .u8 0]) (fun g hg=>(hP.row.lt g hg).2) (by kernel_rfl) (fun _ _ h=>by cases h) (by kernel_rfl) rfl 5 (fun W=>by go_simp) ?_;refine Dw (s:=26) (x:=27) (t:=82) (e:=5) (i:=i0) (z:=.int .u8 0) (bytes:=1) rfl rfl rfl Tryz.underlying82 hin hz0 hz1 hz2 rfl (by decide) rfl rfl rfl hP.row rfl (by simp[Value.oneCell']) (by unfold maxLen;omega) (by omega) (by omega) ?_;iterate 2 (refine bJ fun K hK=>?_;go_big_quiet_step (fail);refine hK _ ?_;clear hK K)
   refine eR ?_;rintro W4 hW4;simp only[aB];rintro v4 ⟨hown4,hloc4⟩ z _;obtain⟨va4,vc4,rfl⟩:=aH hown4;simp only[Act.put,List.setIfInBounds_toArray,List.set_cons_succ,List.set_cons_zero];have w4:=ag.grown hP.wr hW4.1 hnb;have y0:=ax w4 0 rv' rfl;have y1:=ag.frozen w4 0;obtain⟨A1,A2⟩:=hP.app hW4.1 hown4 (hloc4.elim (fun h=>.inl h.1) .inr);have HP1:Hid (ku w b (v:Int) ((n:Int)-(d:Int)) (.slice va4 ((ed (ky L v n d)).length+1) vc4) (gT (ky L v n d)++[fJ (cj (ky L v n d))]) ((L.length:Int)+(d:Int)) (W4.setCell ⟨b,0,none⟩ (.slice va4 ((ed (ky L v n d)).length+1) vc4))):=af (by rw[htl,FF,<-hpk0];exact A1);have HK1:=af A2;have X2:=ax A1.b2 0 (.int .i64 ((n:Int)-(d:Int))) rfl;have X3:=ag.frozen A1.b2 0;clear A1 A2 hW4 hown4 hloc4 w4 g0 g1 X0 X1 hP hin hz0 hz1 hz2 hn0 hnb hpk0 htl hpl;go_wp2_with fail
   generalize W4.setCell ⟨b,0,none⟩ (.slice va4 ((ed (ky L v n d)).length+1) vc4)=Wa at*;gi_wp2_with fail
  case' neg=>
   have hpk0:ed (ky L v n d)=gT (ky L v n d)++[fJ (cj (ky L v n d))]:=BH _ (by have:=HA.out;omega);have f1:((at_:Int)==0)=false:=by simp;omega
   have X2:=ax hP.b2 0 (.int .i64 ((n:Int)-(d:Int))) rfl;have X3:=ag.frozen hP.b2 0;rw[hpk0] at hP;have HP1:=af hP;have HK1:=af (fV.refl w.heap.size W);clear hP X0 X1 hpk0;gi_wp2_with fail
  all_goals
   obtain⟨P2,K2⟩:=HP1.out.setLeft ((n:Int)-(d:Int)-(t:Int))
   have HK2:=af (HK1.out.trans K2)
   have HP2:=af P2
   have Y0:=aj (ax P2.b1 0 (.int .u64 (v:Int)) rfl)
   have Y1:=aj (ax P2.b2 0 (.int .i64 ((n:Int)-(d:Int)-(t:Int))) rfl)
   clear P2 K2 X2 X3 HK1 HP1
   refine sF (R:=co) (by kernel_rfl) ?_ (by kernel_rfl) (by kernel_rfl) ?_
   ·rintro⟨_,_,h⟩;exact h
   (try dsimp only)
   have hpv:=Eu v (n-d-t) t hv (by omega)
   iterate 9 (refine bJ fun K hK=>?_;go_big_quiet_step (fail);refine hK _ ?_;clear hK K)
   refine eR ?_
   intro w5 hb5
   simp only[aB]
   have P3:=HP2.out.below hb5
   have HK3:=af (HK2.out.trans (fV.below hb5 HP2.out.size))
   have hq1:(gT (ky L v n d)++[fJ (cj (ky L v n d))]).length=(L.length+d)/8+1:=by rw[aG,hfl,hDl];rfl
   rcases P3.row.2 with⟨_,e0⟩|⟨g,cap,cur,hvs,_⟩
   ·rw[hq1] at e0;cases e0
   rw[hq1] at hvs
   have hcl:=P3.row.cells (g:=g) (by rw[hvs];rfl) ((L.length+d)/8) (.int .u8 ((fJ (cj (ky L v n d))).toNat:Int)) (by
    unfold Lib.byteCells
    rw[List.getElem?_map,List.getElem?_append_right (by omega),hfl,hDl,Nat.sub_self]
    rfl)
   rw[p9,Nat.zero_add] at hcl
   have HOB:=af ((congrArg Value.ownBlock hvs).trans (show _=some g from rfl))
   have HQ:=af (show (gT (ky L v n d)).length=(L.length+d)/8 by rw[hfl,hDl])
   have Z0:=aj (ax P3.b0 0 (.pointer (some ⟨b,0,none⟩)) rfl)
   have Z1:=aj ((ag.cell P3.wr 0).trans (show _=some (Value.slice (some ⟨g,0,none⟩) ((L.length+d)/8+1) cap) by rw[hvs];rfl))
   have Z2:=aj hcl
   have HP3:=af P3
   have HQ1:=af hq1
   have hqb:(L.length+d)/8<=200000:=by omega
   clear Y0 Y1 HK2 HP2 hb5 hcl hvs P3 hq1 hfl
   generalize (L.length+d)/8=q at*
   have hw1:IntKind.i64.wrap (q:Int)=(q:Int):=ct _ (by omega)
   have hw2:IntKind.i64.wrap ((q:Int)+1-1)=(q:Int):=by rw[Int.add_sub_cancel];exact hw1
   (try have hw3:IntKind.i64.wrap (8-(at_:Int))=8-(at_:Int):=ct _ (by omega))
   (try have hw4:IntKind.i64.wrap (8-(at_:Int)-(t:Int))=8-(at_:Int)-(t:Int):=ct _ (by omega))
   have hby:=HBY.out
   (try rw[Nat.sub_zero] at hby)
   have hml:=sr (bH (v >>> (n-d-t)) t)
   rw[bN] at hml
   have HPK2:=af (show (gT (ky L v n d)++[fJ (cj (ky L v n d))]).set q (fJ (cj (ky L v n d)++bH (v >>> (n-d-t)) t))=ed (ky L v n (d+t)) by
    rw[HPK.out,List.set_append_right _ _ (by rw[HQ.out];exact aF _),HQ.out,Nat.sub_self]
    rfl)
   have hor:=(KG (fJ (cj (ky L v n d))).toNat (jF (bH (v >>> (n-d-t)) t)) _ t (UInt8.toNat_lt _) hml (by omega)).trans (congrArg (fun z:Nat=>(z:Int)) hby.symm)
   generalize fJ (cj (ky L v n d)++bH (v >>> (n-d-t)) t)=Y at*
   clear hby HBY HPK
   gi_wp2_with fail
   refine lH (R:=co) (by kernel_rfl) ?_ (by kernel_rfl) (by kernel_rfl) rfl (by kernel_rfl) ?_
   ·rintro⟨_,_,h⟩;exact h
   (try dsimp only)
   iterate 8 (refine bJ fun K hK=>?_;go_big_quiet_step (fail);refine hK _ ?_;clear hK K)
   (refine nw (v:=.int .i64 ((q:Int)+1)) (fun _ _=>by go_simp) fun K hK=>?_;go_big_quiet_step (fail);refine hK _ ?_;clear hK K)
   iterate 11 (refine bJ fun K hK=>?_;go_big_quiet_step (fail);refine hK _ ?_;clear hK K)
   refine eR ?_
   intro w6 hb6
   simp only[aB]
   have P4:=HP3.out.below hb6
   have HK4:=af (HK3.out.trans (fV.below hb6 HP3.out.size))
   obtain⟨P5,K5⟩:=P4.setByte HOB.out q Y
   rw[HPK2.out] at P5
   have hcl:=P4.row.cells (g:=g) HOB.out q (.int .u8 ((fJ (cj (ky L v n d))).toNat:Int)) (by
    unfold Lib.byteCells
    rw[List.getElem?_map,List.getElem?_append_right (by rw[HQ.out];exact aF _),HQ.out,Nat.sub_self]
    rfl)
   rw[p9,Nat.zero_add] at hcl
   have hfz:=y8 (j:=q) P4.row HOB.out
   have U0:=ax P5.b0 0 (.pointer (some ⟨b,0,none⟩)) rfl
   have U1:=ax P5.wr 1 (.int .i64 ((L.length:Int)+(d:Int))) rfl
   have U2:=ag.frozen P5.wr 1
   have hw5:IntKind.i64.wrap ((L.length:Int)+(d:Int)+(t:Int))=(L.length:Int)+(d:Int)+(t:Int):=ct _ (by omega)
   obtain⟨P6,K6⟩:=P5.setCnt ((L.length:Int)+(d:Int)+(t:Int))
   have HK6:=af ((HK4.out.trans K5).trans K6)
   have HP6:=af P6
   clear P4 P5 P6 K5 K6 HK4 HP3 Z0 Z1 Z2 HPK2 hor
   go_wp2_with fail
   gi_wp2_with fail
   have e1:((n:Int)-((d+t:Nat):Int))=(n:Int)-(d:Int)-(t:Int):=by omega
   have e2:((L.length:Int)+((d+t:Nat):Int))=(L.length:Int)+(d:Int)+(t:Int):=by omega
   exact⟨by rw[hs5];exact HK6.out.1,HK6.out.2,_,by rw[HSN.out,e1,e2];exact HP6.out⟩
 case done=>
  rintro D W hD ⟨rv',hP⟩ hK;have hP2:=hP.turn (grownBy_putObj' W D (.deferred none)) (fun r e=>by cases e;exact .inr ⟨by omega,_,hK,rfl⟩);rw[Jt] at hP2;have e1:ky L v n n=L++bH v n:=by unfold ky;rw[Nat.sub_self];rfl
  have e2:((L.length:Int)+(n:Int))=(((L++bH v n).length:Nat):Int):=by rw[aG,bN];omega
  rw[e1,e2] at hP2;refine⟨by simp,.inl ⟨_,_,rfl,run_takeDeferred hK,?_⟩⟩;exact⟨_,results_none rfl _ _ _,rfl,⟨rv',hP2.wr,hP2.row⟩,hP2.bk⟩
end
section
open Go Go.RowKit Go.Shelf Go.Maps
attribute [local go_sem] Oper.semAt_some
attribute [local go_sem] am aq
structure Mb(w:World)(B b:Nat)(s:List UInt8)(acc:Int)(cnt:Int)(W:World):Prop where
 b0:ag W w.heap.size 364 #[.pointer (some ⟨b,0,none⟩)]
 b1:ag W B 67 #[.int .u64 acc]
 rd:ag W b 408 #[.string (bs s),.int .i64 cnt]
 kp:ak w W (fun x=>x=b)
 size:B+3<=W.heap.size
 low:b<w.heap.size
 lowB:w.heap.size<B
section
variable {w W W':World} {B b:Nat} {s:List UInt8} {acc cnt:Int}
end
end
section
open Go Go.RowKit Go.Shelf Go.Maps
attribute [local go_sem] Oper.semAt_some
attribute [local go_sem] am aq
end
section
open Go Go.RowKit Go.Shelf Go.Maps
attribute [local go_sem] am aq
theorem Gu(src dst e:TypeId)(hs:Tryz.prog.underlying src=some (.slice e))(he:Tryz.prog.underlying e=some (.int .u8))(hd:Tryz.prog.underlying dst=some .string)
 {W:World} {B:Nat} {v:Value} {l:List UInt8} (h:W.ownsRow B e 1 v l.length (Lib.byteCells l)):(convert src dst v).run Tryz.prog W=.ok (.string (bs l)) W:=by
 rcases h.2 with⟨rfl,e0⟩|⟨g,cap,cur,hv,_⟩
 ·obtain rfl:=List.length_eq_zero_iff.1 e0;exact run_convert_bytes_nil W src e hs he 0 0 dst hd
 ·subst hv;refine fD src dst e hs he hd g 0 cap l W fun i hi=>?_;have hc:=h.cells (g:=g) rfl i (.int .u8 (l[i].toNat:Int)) (by unfold Lib.byteCells;rw[List.getElem?_map,aV hi];rfl);rw[p9,Nat.zero_add] at hc;rw[Nat.zero_add];exact hc
theorem nG(w:World):Calls Tryz.prog 291 #[] w fun e w'=>e=.returned (.pointer (some ⟨w.heap.size,0,none⟩))/\kq w.heap.size [] w'/\Below w.heap.size w w'/\w'.heap.size=w.heap.size+1:=by
 go_enter Tryz.func291,Tryz.ntmps291
 go_wp2;go_ret;exact⟨rfl,⟨.slice none 0 0,ag.new _ _ _,eE⟩,ai _ _,by simp⟩
theorem uH(b:Nat)(L:List Bool)(w:World)(h:kq b L w):
 Calls Tryz.prog 293 #[.pointer (some ⟨b,0,none⟩)] w fun e w'=>e=.returned (.string (bs (ed L)))/\w'=w:=by
 obtain⟨v,h1,h2⟩:=h
 have x0:=ax h1 0 v rfl
 have hc:=Gu 82 9 5 Tryz.underlying82 Tryz.underlying5 Tryz.underlying9 h2
 have hb:=h1.lt
 go_enter Tryz.func293,Tryz.ntmps293
 go_wp2
 go_ret
 exact⟨rfl,rfl⟩
theorem II(x:Nat)(hx:x<18446744073709551616)(w:World):Calls Tryz.prog 358 #[.int .u64 (x:Int)] w fun e w'=>e=.returned (.int .i64 (kK x:Int))/\w'=w:=by
 have q:=af (fun W=>Tryz.bits_LeadingZeros64 (x:Int) W (by omega) (by omega));have hb:=wK (x:=x) hx;have e1:(64-(Lib.bitLen (x:Int).toNat:Int))=(kK x:Int):=by
  rw[Int.toNat_natCast];unfold kK;omega
 rw[e1] at q;go_enter Tryz.func358,Tryz.ntmps358
 go_wp2_with fail
 refine(q.out _).mono ?_;rintro e _ ⟨rfl,rfl⟩;go_wp2;go_ret;exact⟨rfl,rfl⟩
def Tb (w:World):Prop:=TabAt 1 Lib.deBruijn64tab w
theorem Tb.below{w w':World}{B:Nat}(h:Tb w)(hb:Below B w w')(hB:1<B):Tb w':=fun j hj=>by
 have h0:=h j hj;have e:w'.heap[1]?=w.heap[1]?:=hb.block _ hB;unfold World.cell? at h0⊢;simp only[e];exact h0
theorem Jc(x k idx:Nat)(w:World)(hx0:((x:Int)==0)=false)
 (key:IntKind.u64.wrap (bits BinOp.and IntKind.u64 (x:Int) (IntKind.u64.wrap (-(x:Int)))*285870213051353865)/288230376151711744=(idx:Int))
 (hi:idx<64) (hk:k<64) (hcell:w.cell? ⟨1,idx,none⟩=some (.int .u8 k)):
 Calls Tryz.prog 368 #[.int .u64 x] w fun e w'=>e=.returned (.int .i64 k)/\w'=w:=by
 go_enter Tryz.func368,Tryz.ntmps368
 go_wp2_with (simp only[key])
 go_ret
 exact⟨rfl,rfl⟩
theorem Jb(w:World):Calls Tryz.prog 368 #[.int .u64 0] w fun e w'=>e=.returned (.int .i64 64)/\w'=w:=by
 go_enter Tryz.func368,Tryz.ntmps368
 go_wp2;go_ret;exact⟨rfl,rfl⟩
theorem Ks(x:Nat)(hx:x<18446744073709551616)(w:World)(hT:Tb w):
 Calls Tryz.prog 368 #[.int .u64 (x:Int)] w fun e w'=>e=.returned (.int .i64 (fW x:Int))/\w'=w:=by
 unfold fW
 by_cases hx0:x=0
 ·subst hx0;exact Jb w
 ·obtain⟨hlow,hk⟩:=Lib.lowest_bit 64 x hx0 hx;obtain⟨hi,htab⟩:=Lib.deBruijn64_at _ hk;have hcell:=hT _ hi;rw[htab] at hcell;exact Jc x _ _ w (by simp;omega) (tz64_key x _ hx hx0 hlow) hi hk hcell
theorem FN(x:Nat)(hx:x<18446744073709551616)(w:World)(hT:Tb w):Calls Tryz.prog 359 #[.int .u64 (x:Int)] w fun e w'=>e=.returned (.int .i64 (fW x:Int))/\w'=w:=by
 have q:=af (Ks x hx w hT);clear hT;go_enter Tryz.func359,Tryz.ntmps359
 go_wp2_with fail
 refine q.out.mono ?_;rintro e _ ⟨rfl,rfl⟩;go_wp2;go_ret;exact⟨rfl,rfl⟩
end
section
open Go Go.RowKit Go.Shelf Go.Maps
def uU (s:AK):Value:=.agg #[.int .i64 (s.n:Int),.int .i64 s.t,.int .i64 s.d]
def lY (s:AK):Array Value:=#[.int .i64 (s.n:Int),.int .i64 s.t,.int .i64 s.d]
theorem gX(s:AK):uU s=.agg (lY s):=rfl
def uy:Array Value:=#[.int .i64 0,.int .i64 0,.int .i64 0,.int .i64 (-63),.int .i64 64,.int .i64 7,.int .i64 (-255),.int .i64 256,.int .i64 9,.int .i64 (-2047),.int .i64 2048,.int .i64 12]
theorem rF(w:World):Calls Tryz.prog 332 #[] w fun e w'=>e=.returned (.agg uy)/\Below w.heap.size w w':=by
 go_enter Tryz.func332,Tryz.ntmps332
 go_wp2;refine bodyPost_ret (results_cell_row rfl _ _ w.heap.size 401 uy (0,0) _ rfl (ag.new _ _ _) Tryz.underlying401 rfl (by kernel_rfl)) rfl ?_;exact⟨rfl,ai _ _⟩
theorem CD(s:AK)(t:Int)(w:World):Calls Tryz.prog 330 #[uU s,.int .i64 t] w fun e w'=>e=.returned (.int .i64 (dX s t))/\Below w.heap.size w w':=by
 obtain⟨n,a,d⟩:=s;unfold uU;have k0:=ag.new w 359 #[.int .i64 (n:Int),.int .i64 a,.int .i64 d];have x1:=ax k0 1 (.int .i64 a) rfl;have x2:=ax k0 2 (.int .i64 d) rfl;obtain⟨z,hz⟩:∃z,IntKind.i64.wrap (t-a)=z:=⟨_,rfl⟩
 obtain⟨y,hy⟩:∃y,IntKind.i64.wrap (z-d)=y:=⟨_,rfl⟩
 have HE:=af (show dX ⟨n,a,d⟩ t=y by unfold dX dH;simp only[hz,hy]);go_enter Tryz.func330,Tryz.ntmps330
 go_wp2;go_ret;exact⟨by rw[HE.out];rfl,ai _ _⟩
theorem FK(s:AK)(t:Int)(hn:s.n<=1000000)(w:World):Calls Tryz.prog 329 #[uU s,.int .i64 t] w fun e w'=>e=.returned (uU (bG s t))/\Below w.heap.size w w':=by
 obtain⟨n,a,d⟩:=s;simp only at hn;have k0:=ag.new w 359 #[.int .i64 (n:Int),.int .i64 a,.int .i64 d];have b1:=ai w (.cells #[.int .i64 (n:Int),.int .i64 a,.int .i64 d] 359);have k1:=k0.alloc (.cells #[.int .i64 0,.int .i64 0,.int .i64 0] 359);have x0:=ax k1 0 (.int .i64 (n:Int)) rfl;have x1:=ax k1 1 (.int .i64 a) rfl;clear k0 k1;by_cases h0:n=0
 ·subst h0;unfold uU;go_enter Tryz.func329,Tryz.ntmps329
  go_wp2;refine bodyPost_ret (results_cell_row rfl _ _ (w.heap.size+1) 359 #[.int .i64 1,.int .i64 t,.int .i64 0] (0,0) _ (by simp) ?_ Tryz.underlying359 rfl (by kernel_rfl)) rfl ?_
  ·have:=ag.new (w.alloc (.cells #[.int .i64 0,.int .i64 a,.int .i64 d] 359)) 359 #[.int .i64 1,.int .i64 t,.int .i64 0];rw[aW] at this;exact this
  ·exact⟨rfl,b1.alloc b1.size _⟩
 ·have f1:((n:Int)==0)=false:=by simp;omega
  have hw1:IntKind.i64.wrap ((n:Int)+1)=(n:Int)+1:=ct _ (by omega);obtain⟨z,hz⟩:∃z,IntKind.i64.wrap (t-a)=z:=⟨_,rfl⟩
  have HZ:=af (show uU (bG ⟨n,a,d⟩ t)=.agg #[.int .i64 ((n:Int)+1),.int .i64 t,.int .i64 z] by unfold bG dH;simp only[hz];rw[if_neg h0];rfl);unfold uU;go_enter Tryz.func329,Tryz.ntmps329
  go_wp2;refine bodyPost_ret (results_cell_row rfl _ _ (w.heap.size+1) 359 #[.int .i64 ((n:Int)+1),.int .i64 t,.int .i64 z] (0,0) _ (by simp) ?_ Tryz.underlying359 rfl (by kernel_rfl)) rfl ?_
  ·have:=ag.new (w.alloc (.cells #[.int .i64 (n:Int),.int .i64 a,.int .i64 d] 359)) 359 #[.int .i64 ((n:Int)+1),.int .i64 t,.int .i64 z];rw[aW] at this;exact this
  ·exact⟨congrArg Ending.returned HZ.out.symm,b1.alloc b1.size _⟩
theorem JM{c:Int}{j:Nat}(h:j<fe c)(hj:j<4):¬(gY j<=c/\c<=oA j):=by
 intro hin;have h0:nh c j=true:=by unfold nh;exact decide_eq_true hin
 unfold fe at h;rcases(show j=0\/j=1\/j=2\/j=3 by omega) with rfl|rfl|rfl|rfl<;>simp only[h0,if_true] at h
 ·omega
 all_goals
  generalize nh c 0=b0 at*
  generalize nh c 1=b1 at*
  generalize nh c 2=b2 at*
  revert h
  cases b0<;>cases b1<;>cases b2<;>simp
theorem JL(c:Int)(w:World):Calls Tryz.prog 331 #[.int .i64 c] w fun e w'=>e=.returned (.int .i64 (fe c:Int))/\Below w.heap.size w w':=by
 have qc:=af rF;go_enter Tryz.func331,Tryz.ntmps331
 go_wp2_with fail
 refine(qc.out _).mono ?_;rintro e w1 ⟨rfl,hb1⟩;have b2:=hb1.alloc hb1.size (.cells uy 401);have k1:=ag.new w1 401 uy;have hle:=pH c;have HIN:=af (fun hi:fe c<4=>vD (c:=c) rfl hi);have HNOT:=af (fun (j:Nat) (h:j<fe c)=>JM h);obtain⟨cc,hcc⟩:∃z,fe c=z:=⟨_,rfl⟩
 have HCC:=af hcc;rw[hcc] at hle HIN HNOT;clear hcc;unfold uy at*;go_wp2_with fail
 generalize hw2:w1.alloc _=w2 at*;have hge:=hb1.size;generalize w1.heap.size=B at*;clear hw2 hb1;have y0:=ax k1 0 (.int .i64 0) rfl;have y1:=ax k1 1 (.int .i64 0) rfl;have y3:=ax k1 3 (.int .i64 (-63)) rfl;have y4:=ax k1 4 (.int .i64 64) rfl;have y6:=ax k1 6 (.int .i64 (-255)) rfl;have y7:=ax k1 7 (.int .i64 256) rfl;have y9:=ax k1 9 (.int .i64 (-2047)) rfl;have y10:=ax k1 10 (.int .i64 2048) rfl;clear k1 qc;go_loopw [4] (fun i wr=>∃j:Nat,j<=cc/\i=.int .i64 (j:Int)/\wr=w2) (fun i _=>cc-(intOf i).toNat)
 case atStart=>exact⟨0,Nat.zero_le _,rfl,rfl⟩
 case round=>
  obtain⟨j,hj,rfl,rfl⟩:=hrel;rcases(show j<cc\/j=cc by omega) with hlt|rfl
  ·have hnot:=HNOT.out j hlt (by omega);rcases(show j=0\/j=1\/j=2\/j=3 by omega) with rfl|rfl|rfl|rfl
   ·have hn2:¬((0:Int)<=c/\c<=0):=hnot;clear hnot;by_cases h1:c<0
    ·have f1:decide (c<0)=true:=by simpa using h1
     clear HNOT HIN hn2 h1;go_wp2;go_roundw
     case rel=>exact⟨1,hlt,by first|rfl|go_num,trivial⟩
     case measure=>simp[intOf];omega
    ·have f1:decide (c<0)=false:=by simpa using h1
     have f2:decide (0<c)=true:=by simp;omega
     clear HNOT HIN hn2 h1;go_wp2;go_roundw
     case rel=>exact⟨1,hlt,by first|rfl|go_num,trivial⟩
     case measure=>simp[intOf];omega
   ·have hn2:¬(((-63):Int)<=c/\c<=64):=hnot;clear hnot;by_cases h1:c<(-63)
    ·have f1:decide (c<(-63))=true:=by simpa using h1
     clear HNOT HIN hn2 h1;go_wp2;go_roundw
     case rel=>exact⟨2,hlt,by first|rfl|go_num,trivial⟩
     case measure=>simp[intOf];omega
    ·have f1:decide (c<(-63))=false:=by simpa using h1
     have f2:decide (64<c)=true:=by simp;omega
     clear HNOT HIN hn2 h1;go_wp2;go_roundw
     case rel=>exact⟨2,hlt,by first|rfl|go_num,trivial⟩
     case measure=>simp[intOf];omega
   ·have hn2:¬(((-255):Int)<=c/\c<=256):=hnot;clear hnot;by_cases h1:c<(-255)
    ·have f1:decide (c<(-255))=true:=by simpa using h1
     clear HNOT HIN hn2 h1;go_wp2;go_roundw
     case rel=>exact⟨3,hlt,by first|rfl|go_num,trivial⟩
     case measure=>simp[intOf];omega
    ·have f1:decide (c<(-255))=false:=by simpa using h1
     have f2:decide (256<c)=true:=by simp;omega
     clear HNOT HIN hn2 h1;go_wp2;go_roundw
     case rel=>exact⟨3,hlt,by first|rfl|go_num,trivial⟩
     case measure=>simp[intOf];omega
   ·have hn2:¬(((-2047):Int)<=c/\c<=2048):=hnot;clear hnot;by_cases h1:c<(-2047)
    ·have f1:decide (c<(-2047))=true:=by simpa using h1
     clear HNOT HIN hn2 h1;go_wp2;go_roundw
     case rel=>exact⟨4,hlt,by first|rfl|go_num,trivial⟩
     case measure=>simp[intOf];omega
    ·have f1:decide (c<(-2047))=false:=by simpa using h1
     have f2:decide (2048<c)=true:=by simp;omega
     clear HNOT HIN hn2 h1;go_wp2;go_roundw
     case rel=>exact⟨4,hlt,by first|rfl|go_num,trivial⟩
     case measure=>simp[intOf];omega
  ·clear HNOT hj;rcases(show j=0\/j=1\/j=2\/j=3\/j=4 by omega) with rfl|rfl|rfl|rfl|rfl
   ·have hin:(0:Int)<=c/\c<=0:=HIN.out (by omega);have f1:decide (c<0)=false:=by simp;omega
    have f2:decide (0<c)=false:=by simp;omega
    clear hin HIN;go_wp2;go_ret;exact⟨by rw[HCC.out];rfl,b2⟩
   ·have hin:((-63):Int)<=c/\c<=64:=HIN.out (by omega);have f1:decide (c<(-63))=false:=by simp;omega
    have f2:decide (64<c)=false:=by simp;omega
    clear hin HIN;go_wp2;go_ret;exact⟨by rw[HCC.out];rfl,b2⟩
   ·have hin:((-255):Int)<=c/\c<=256:=HIN.out (by omega);have f1:decide (c<(-255))=false:=by simp;omega
    have f2:decide (256<c)=false:=by simp;omega
    clear hin HIN;go_wp2;go_ret;exact⟨by rw[HCC.out];rfl,b2⟩
   ·have hin:((-2047):Int)<=c/\c<=2048:=HIN.out (by omega);have f1:decide (c<(-2047))=false:=by simp;omega
    have f2:decide (2048<c)=false:=by simp;omega
    clear hin HIN;go_wp2;go_ret;exact⟨by rw[HCC.out];rfl,b2⟩
   ·clear HIN;go_wp2;go_ret;exact⟨by rw[HCC.out];rfl,b2⟩
attribute [local go_sem] am aq
end
section
open Go Go.RowKit Go.Shelf Go.Maps
attribute [local go_sem] am aq
theorem mh{P:Program}{fn:Func}{p u:Tmp}{ty:TypeId}(h:fn.results=#[.cell p ty,.tmp u])(tmps:Array Value)(w:World)(g:Nat)(tb:TypeId)(cs:Array Value)(d:TypeDesc)
 (hp:tmps.getD p undef=.pointer (some ⟨g,0,none⟩)) (hg:ag w g tb cs)
 (hu:P.underlying ty=some d) (hd:(match d with|.struct _|.array _ _=>true|_=>false)=true) (hi:(P.info? ty).map (·.size)=some cs.size):
 (results fn tmps).run P w=.ok (.tuple #[.agg cs,tmps.getD u undef]) w:=by
 have hp':tmps[p]?.getD undef=.pointer (some ⟨g,0,none⟩):=by simpa using hp
 simp[results,h,hp',asAddr,run_loadVar_row w g tb ty cs (0,0) d hg hu hd hi]
theorem E8{a b c:World}{S T:Nat->Prop}(h:ak a b S)(k:ak b c T)(hs:∀i,i<a.heap.size->T i->S i):ak a c S:=
 ⟨k.os.trans h.os,k.tape.trans h.tape,k.output.trans h.output,aK h.size k.size,fun i hi hn=>(k.block i (dQ hi h.size) fun e=>hn (hs i hi e)).trans (h.block i hi hn)⟩
theorem i6{P:Program}{fn:Func}{R:Ending->World->Prop}{a:Act}{w:World}{p u:Tmp}{ty:TypeId}{g:Nat}{tb:TypeId}{cs:Array Value}{d:TypeDesc}(hg:ag w g tb cs)(hu:P.underlying ty=some d)(hR:R (.returned (.tuple #[.agg cs,a.tmps.getD u undef])) w)(h:fn.results=#[.cell p ty,.tmp u]:=by exact rfl)(hp:a.tmps.getD p undef=.pointer (some ⟨g,0,none⟩):=by exact rfl)
 (hd:(match d with|.struct _|.array _ _=>true|_=>false)=true:=by exact rfl) (hi:(P.info? ty).map (·.size)=some cs.size:=by kernel_rfl) (hdf:a.defers=[]:=by exact rfl):bodyPost P fn R .ret a w:=bodyPost_ret (mh h _ _ g tb cs d hp hg hu hd hi) hdf hR
end
section
open Go.RowKit
attribute [local go_sem] am aq
theorem iB{w W:World}{n b:Nat}{T:TypeId}(hB:Below n w W)(hb:n<=b)(kr:ag W b T #[.slice none 0 0,.int .i64 0])(v:Value)(f:Int):
 ag ((W.setCell ⟨b,0,none⟩ v).setCell ⟨b,1,none⟩ (.int .i64 f)) b T #[v,.int .i64 f]/\Below n w ((W.setCell ⟨b,0,none⟩ v).setCell ⟨b,1,none⟩ (.int .i64 f))/\∀(v':Value) (S:List aO),aM W v' S->aM ((W.setCell ⟨b,0,none⟩ v).setCell ⟨b,1,none⟩ (.int .i64 f)) v' S:=by
 have hkk:ak W ((W.setCell ⟨b,0,none⟩ v).setCell ⟨b,1,none⟩ (.int .i64 f)) (fun k=>k=b):=(ak.of_grown (ap _ _ _ _) fun k e=>(az e).symm).trans (ak.of_grown (ap _ _ _ _) fun k e=>(az e).symm)
 exact⟨(ag.set_ kr 0 v).set_ 1 (.int .i64 f),hB.trans (hkk.below (aK hb (Nat.le_of_lt kr.lt)) fun k e=>by omega),fun v' S h=>h.st kr hkk⟩
def dL(w:World)(r:kt×Int)(e:Ending)(w':World):Prop:=(∃v',e=.returned (.tuple #[.agg #[v',.int .i64 r.1.floor],.int .i64 r.2])/\aM w' v' r.1.ser)/\Below w.heap.size w w'
theorem CQ(v sl:Value)(S:List aO)(l:List Lb)(f t tb:Int)(u:Nat)(w:World)(h:aM w v S)(hl:aC w sl l)(hu:ew (t,u))(hS:S.length<=1000)(hSs:∀x∈S,x.samples.length<=1000):
 Calls Tryz.prog 212 #[.agg #[v,.int .i64 f],.agg #[.int .i64 0,sl,.int .i64 t,.int .i64 tb,.int .u64 (u:Int)]] w (dL w (bT ⟨S,f⟩ ⟨0,l,t,tb,u⟩)):=by
 have HA:=af (show bT ⟨S,f⟩ ⟨0,l,t,tb,u⟩=if cI ⟨S,f⟩ l (t,u) 3=(0,false) then(tw ⟨S,f⟩ l (t,u),0) else(⟨S,f⟩,9) from by unfold bT;rw[if_pos rfl])
 obtain⟨va,vc,rfl,_⟩:=id h
 obtain⟨ra,rc,rfl,_⟩:=id hl
 have b1:=ai w (.cells #[.slice va S.length vc,.int .i64 f] 49)
 have b2:=b1.alloc b1.size (.cells #[.int .i64 0,.slice ra l.length rc,.int .i64 t,.int .i64 tb,.int .u64 (u:Int)] 108)
 have b3:=b2.alloc b2.size (.cells #[.slice none 0 0,.int .i64 0] 49)
 have k1:=(ag.alloc (ag.new w 49 #[.slice va S.length vc,.int .i64 f]) (.cells #[.int .i64 0,.slice ra l.length rc,.int .i64 t,.int .i64 tb,.int .u64 (u:Int)] 108)).alloc (.cells #[.slice none 0 0,.int .i64 0] 49)
 have k2:=(ag.new (w.alloc (.cells #[.slice va S.length vc,.int .i64 f] 49)) 108 #[.int .i64 0,.slice ra l.length rc,.int .i64 t,.int .i64 tb,.int .u64 (u:Int)]).alloc (.cells #[.slice none 0 0,.int .i64 0] 49)
 have k3:=ag.new ((w.alloc (.cells #[.slice va S.length vc,.int .i64 f] 49)).alloc (.cells #[.int .i64 0,.slice ra l.length rc,.int .i64 t,.int .i64 tb,.int .u64 (u:Int)] 108)) 49 #[.slice none 0 0,.int .i64 0]
 rw[aW] at k2
 rw[aW,aW] at k3
 have y0:=ax k1 0 (.slice va S.length vc) rfl
 have y1:=ax k1 1 (.int .i64 f) rfl
 have z0:=ax k2 0 (.int .i64 0) rfl
 have z1:=ax k2 1 (.slice ra l.length rc) rfl
 have z2:=ax k2 2 (.int .i64 t) rfl
 have z3:=ax k2 3 (.int .i64 tb) rfl
 have z4:=ax k2 4 (.int .u64 (u:Int)) rfl
 have b4:=b3.alloc b3.size (.cells #[.int .i64 t,.int .u64 (u:Int)] 127)
 have q1:=af (rK _ _ S l f t 3 u _ (h.below b4) (hl.below b4) (by omega))
 have q2:=af (fun W (hb:Below w.heap.size w W)=>IE _ _ S l f t u W (h.below hb) (hl.below hb) hu hS hSs)
 have k1':=ag.alloc k1 (.cells #[.int .i64 t,.int .u64 (u:Int)] 127)
 have k2':=ag.alloc k2 (.cells #[.int .i64 t,.int .u64 (u:Int)] 127)
 have k3':=ag.alloc k3 (.cells #[.int .i64 t,.int .u64 (u:Int)] 127)
 have k4:=ag.new (((w.alloc (.cells #[.slice va S.length vc,.int .i64 f] 49)).alloc (.cells #[.int .i64 0,.slice ra l.length rc,.int .i64 t,.int .i64 tb,.int .u64 (u:Int)] 108)).alloc (.cells #[.slice none 0 0,.int .i64 0] 49)) 127 #[.int .i64 t,.int .u64 (u:Int)]
 rw[aW,aW,aW] at k4
 have yy0:=ax k1' 0 (.slice va S.length vc) rfl
 have yy1:=ax k1' 1 (.int .i64 f) rfl
 have zz1:=ax k2' 1 (.slice ra l.length rc) rfl
 have x0:=ax k4 0 (.int .i64 t) rfl
 have x1:=ax k4 1 (.int .u64 (u:Int)) rfl
 have HS:=af h
 clear k1 k2 k3 b1 b2 b3 h hl
 go_enter Tryz.func212,Tryz.ntmps212
 go_wp2_with fail
 generalize hW0:(((w.alloc _).alloc _).alloc _).alloc _=W0 at*
 clear hW0
 refine bL q1.out fun w1 hb1=>?_
 have B1:=ay b4 hb1
 have m1:=ag.below k1' hb1 k1'.lt
 have m2:=ag.below k2' hb1 k2'.lt
 have m3:=ag.below k3' hb1 k3'.lt
 have m4:=ag.below k4 hb1 k4.lt
 have y0:=ax m1 0 (.slice va S.length vc) rfl
 have y1:=ax m1 1 (.int .i64 f) rfl
 have z1:=ax m2 1 (.slice ra l.length rc) rfl
 have x0:=ax m4 0 (.int .i64 t) rfl
 have x1:=ax m4 1 (.int .u64 (u:Int)) rfl
 clear q1 hb1 k1' k2' k3' k4 yy0 yy1 zz1 b4 m1 m2 m4
 obtain⟨⟨ec,th⟩,hal⟩:∃p,cI ⟨S,f⟩ l (t,u) 3=p:=⟨_,rfl⟩
 rw[hal] at HA⊢
 clear hal
 by_cases hgo:(ec,th)=((0:Int),false)
 ·obtain⟨rfl,rfl⟩:=Prod.mk.inj hgo;have HZ:=af (show bT ⟨S,f⟩ ⟨0,l,t,tb,u⟩=(tw ⟨S,f⟩ l (t,u),0) by rw[HA.out,if_pos rfl]);clear HA hgo;go_wp2_with fail
  refine(q2.out _ B1).mono ?_;rintro e w2 ⟨v',rfl,hs,hb2⟩;have B2:=ay B1 hb2;have m3:=ag.below m3 hb2 m3.lt;obtain⟨na,nc,rfl,_⟩:=id hs;have kf0:=ag.frozen m3 0;have kf1:=ag.frozen m3 1;have kc0:=ax m3 0 (.slice none 0 0) rfl;have kc1:=ax m3 1 (.int .i64 0) rfl;obtain⟨c1,c2,c3⟩:=iB B2 (by omega) m3 (.slice na (tw ⟨S,f⟩ l (t,u)).ser.length nc) f;have c4:=c3 _ _ hs;clear q2 hs hb2 B1 y0 y1 z1 x0 x1 c3;go_wp2_with fail
  refine i6 c1 Tryz.underlying49 ?_;unfold dL;rw[HZ.out];exact⟨⟨_,by rw[show (tw ⟨S,f⟩ l (t,u)).floor=f by unfold tw;split<;>rfl];rfl,c4⟩,c2⟩
 ·have HZ:=af (show bT ⟨S,f⟩ ⟨0,l,t,tb,u⟩=(⟨S,f⟩,9) by rw[HA.out,if_neg hgo]);have kf0:=ag.frozen m3 0;have kf1:=ag.frozen m3 1;have kc0:=ax m3 0 (.slice none 0 0) rfl;have kc1:=ax m3 1 (.int .i64 0) rfl;obtain⟨c1,c2,c3⟩:=iB B1 (by omega) m3 (.slice va S.length vc) f;have c4:=c3 _ _ (HS.out.below B1);clear HA q2 c3;by_cases hec:ec=0
  ·subst hec;cases th with
   |false=>exact absurd rfl hgo
   |true=>
    clear hgo;go_wp2_with fail
    refine i6 c1 Tryz.underlying49 ?_;unfold dL;rw[HZ.out];exact⟨⟨_,rfl,c4⟩,c2⟩
  ·have hec2:(ec==0)=false:=by simp;exact hec
   clear hgo;go_wp2_with fail
   refine i6 c1 Tryz.underlying49 ?_;unfold dL;rw[HZ.out];exact⟨⟨_,rfl,c4⟩,c2⟩
theorem CO(v sl:Value)(S:List aO)(l:List Lb)(f t tb:Int)(u:Nat)(w:World)(h:aM w v S)(hl:aC w sl l):
 Calls Tryz.prog 212 #[.agg #[v,.int .i64 f],.agg #[.int .i64 2,sl,.int .i64 t,.int .i64 tb,.int .u64 (u:Int)]] w (dL w (bT ⟨S,f⟩ ⟨2,l,t,tb,u⟩)):=by
 have HA:=af (show bT ⟨S,f⟩ ⟨2,l,t,tb,u⟩=if aX t&&decide (f<t) then(v8 ⟨S,f⟩ t,0) else(⟨S,f⟩,9) from by unfold bT;rw[if_neg (show ¬((2:Int)=0) by decide),if_neg (show ¬((2:Int)=1) by decide),if_pos rfl])
 obtain⟨va,vc,rfl,_⟩:=id h
 obtain⟨ra,rc,rfl,_⟩:=id hl
 have b1:=ai w (.cells #[.slice va S.length vc,.int .i64 f] 49)
 have b2:=b1.alloc b1.size (.cells #[.int .i64 2,.slice ra l.length rc,.int .i64 t,.int .i64 tb,.int .u64 (u:Int)] 108)
 have b3:=b2.alloc b2.size (.cells #[.slice none 0 0,.int .i64 0] 49)
 have k1:=(ag.alloc (ag.new w 49 #[.slice va S.length vc,.int .i64 f]) (.cells #[.int .i64 2,.slice ra l.length rc,.int .i64 t,.int .i64 tb,.int .u64 (u:Int)] 108)).alloc (.cells #[.slice none 0 0,.int .i64 0] 49)
 have k2:=(ag.new (w.alloc (.cells #[.slice va S.length vc,.int .i64 f] 49)) 108 #[.int .i64 2,.slice ra l.length rc,.int .i64 t,.int .i64 tb,.int .u64 (u:Int)]).alloc (.cells #[.slice none 0 0,.int .i64 0] 49)
 have k3:=ag.new ((w.alloc (.cells #[.slice va S.length vc,.int .i64 f] 49)).alloc (.cells #[.int .i64 2,.slice ra l.length rc,.int .i64 t,.int .i64 tb,.int .u64 (u:Int)] 108)) 49 #[.slice none 0 0,.int .i64 0]
 rw[aW] at k2
 rw[aW,aW] at k3
 have y0:=ax k1 0 (.slice va S.length vc) rfl
 have y1:=ax k1 1 (.int .i64 f) rfl
 have z0:=ax k2 0 (.int .i64 2) rfl
 have z1:=ax k2 1 (.slice ra l.length rc) rfl
 have z2:=ax k2 2 (.int .i64 t) rfl
 have z3:=ax k2 3 (.int .i64 tb) rfl
 have z4:=ax k2 4 (.int .u64 (u:Int)) rfl
 have q1:=af (fun W=>i3 t W)
 have q2:=af (FO _ S f t _ (h.below b3))
 have HS:=af (h.below b3)
 have hw3:w.heap.size<=w.heap.size+1+1:=by omega
 have kf0:=ag.frozen k3 0
 have kf1:=ag.frozen k3 1
 have kc0:=ax k3 0 (.slice none 0 0) rfl
 have kc1:=ax k3 1 (.int .i64 0) rfl
 obtain⟨c1,c2,c3⟩:=iB b3 hw3 k3 (.slice va S.length vc) f
 have c4:=c3 _ _ HS.out
 clear k1 k2 b1 b2 h hl c3
 go_enter Tryz.func212,Tryz.ntmps212
 go_wp2_with fail
 generalize hW0:((w.alloc _).alloc _).alloc _=W0 at*
 clear hW0
 refine(q1.out _).mono ?_
 rintro e _ ⟨rfl,rfl⟩
 clear q1
 by_cases hc:(aX t&&decide (f<t))=true
 ·have HZ:=af (show bT ⟨S,f⟩ ⟨2,l,t,tb,u⟩=(v8 ⟨S,f⟩ t,0) by rw[HA.out,if_pos hc]);rw[Bool.and_eq_true,decide_eq_true_eq] at hc;obtain⟨hc1,hc2⟩:=hc;rw[hc1];have hc3:¬(t<=f):=by omega
  clear HA hc1 c1 c2 c4;go_wp2_with fail
  refine q2.out.mono ?_;rintro e w2 ⟨v',rfl,hs,hb2⟩;have B2:=ay b3 hb2;have m3:=ag.below k3 hb2 k3.lt;obtain⟨na,nc,rfl,_⟩:=id hs;clear kf0 kf1 kc0 kc1;have kf0:=ag.frozen m3 0;have kf1:=ag.frozen m3 1;have kc0:=ax m3 0 (.slice none 0 0) rfl;have kc1:=ax m3 1 (.int .i64 0) rfl;obtain⟨c1,c2,c3⟩:=iB B2 hw3 m3 (.slice na (v8 ⟨S,f⟩ t).ser.length nc) t;have c4:=c3 _ _ hs;clear q2 hs hb2 y0 y1 z0 z1 z2 z3 z4 c3 k3 b3;go_wp2_with fail
  refine i6 c1 Tryz.underlying49 ?_;unfold dL;rw[HZ.out];exact⟨⟨_,rfl,c4⟩,c2⟩
 ·have HZ:=af (show bT ⟨S,f⟩ ⟨2,l,t,tb,u⟩=(⟨S,f⟩,9) by rw[HA.out,if_neg hc]);clear HA q2 k3 b3;cases hc1:aX t with
  |false=>
   clear hc;go_wp2_with fail
   refine i6 c1 Tryz.underlying49 ?_;unfold dL;rw[HZ.out];exact⟨⟨_,rfl,c4⟩,c2⟩
  |true=>
   have hc3:t<=f:=by
    rw[hc1,Bool.true_and,decide_eq_true_eq] at hc;omega
   clear hc;go_wp2_with fail
   refine i6 c1 Tryz.underlying49 ?_;unfold dL;rw[HZ.out];exact⟨⟨_,rfl,c4⟩,c2⟩
theorem CN(v sl:Value)(S:List aO)(l:List Lb)(f k t tb:Int)(u:Nat)(w:World)(h:aM w v S)(hl:aC w sl l)(hk0:¬(k=0))(hk1:¬(k=1))(hk2:¬(k=2)):
 Calls Tryz.prog 212 #[.agg #[v,.int .i64 f],.agg #[.int .i64 k,sl,.int .i64 t,.int .i64 tb,.int .u64 (u:Int)]] w (dL w (bT ⟨S,f⟩ ⟨k,l,t,tb,u⟩)):=by
 have HZ:=af (show bT ⟨S,f⟩ ⟨k,l,t,tb,u⟩=(⟨S,f⟩,9) from by unfold bT;rw[if_neg hk0,if_neg hk1,if_neg hk2])
 obtain⟨va,vc,rfl,_⟩:=id h
 obtain⟨ra,rc,rfl,_⟩:=id hl
 have b1:=ai w (.cells #[.slice va S.length vc,.int .i64 f] 49)
 have b2:=b1.alloc b1.size (.cells #[.int .i64 k,.slice ra l.length rc,.int .i64 t,.int .i64 tb,.int .u64 (u:Int)] 108)
 have b3:=b2.alloc b2.size (.cells #[.slice none 0 0,.int .i64 0] 49)
 have k1:=(ag.alloc (ag.new w 49 #[.slice va S.length vc,.int .i64 f]) (.cells #[.int .i64 k,.slice ra l.length rc,.int .i64 t,.int .i64 tb,.int .u64 (u:Int)] 108)).alloc (.cells #[.slice none 0 0,.int .i64 0] 49)
 have k2:=(ag.new (w.alloc (.cells #[.slice va S.length vc,.int .i64 f] 49)) 108 #[.int .i64 k,.slice ra l.length rc,.int .i64 t,.int .i64 tb,.int .u64 (u:Int)]).alloc (.cells #[.slice none 0 0,.int .i64 0] 49)
 have k3:=ag.new ((w.alloc (.cells #[.slice va S.length vc,.int .i64 f] 49)).alloc (.cells #[.int .i64 k,.slice ra l.length rc,.int .i64 t,.int .i64 tb,.int .u64 (u:Int)] 108)) 49 #[.slice none 0 0,.int .i64 0]
 rw[aW] at k2
 rw[aW,aW] at k3
 have y0:=ax k1 0 (.slice va S.length vc) rfl
 have y1:=ax k1 1 (.int .i64 f) rfl
 have z0:=ax k2 0 (.int .i64 k) rfl
 have z1:=ax k2 1 (.slice ra l.length rc) rfl
 have z2:=ax k2 2 (.int .i64 t) rfl
 have z3:=ax k2 3 (.int .i64 tb) rfl
 have z4:=ax k2 4 (.int .u64 (u:Int)) rfl
 have kf0:=ag.frozen k3 0
 have kf1:=ag.frozen k3 1
 have kc0:=ax k3 0 (.slice none 0 0) rfl
 have kc1:=ax k3 1 (.int .i64 0) rfl
 have hw3:w.heap.size<=w.heap.size+1+1:=by omega
 obtain⟨c1,c2,c3⟩:=iB b3 hw3 k3 (.slice va S.length vc) f
 have c4:=c3 _ _ (h.below b3)
 clear k1 k2 b1 b2 h hl c3 k3 b3
 go_enter Tryz.func212,Tryz.ntmps212
 go_upto_region 1 with fail
 generalize hW0:((w.alloc _).alloc _).alloc _=W0 at*
 clear hW0
 go_wp2_with fail
 refine i6 c1 Tryz.underlying49 ?_
 unfold dL
 rw[HZ.out]
 exact⟨⟨_,rfl,c4⟩,c2⟩
theorem CP(v sl:Value)(S:List aO)(l:List Lb)(f t tb:Int)(u:Nat)(w:World)(h:aM w v S)(hl:aC w sl l)(hS:S.length<=1000):
 Calls Tryz.prog 212 #[.agg #[v,.int .i64 f],.agg #[.int .i64 1,sl,.int .i64 t,.int .i64 tb,.int .u64 (u:Int)]] w (dL w (bT ⟨S,f⟩ ⟨1,l,t,tb,u⟩)):=by
 have HA:=af (show bT ⟨S,f⟩ ⟨1,l,t,tb,u⟩=match cP S l with
  |none=>(⟨S,f⟩,9)
  |some i=>if (bV (S.getD i cy).samples t tb).length=(S.getD i cy).samples.length then(⟨S,f⟩,9) else(⟨S.set i ⟨(S.getD i cy).labels,bV (S.getD i cy).samples t tb,(S.getD i cy).last⟩,f⟩,0) from by unfold bT;rw[if_neg (show ¬((1:Int)=0) by decide),if_pos rfl];dsimp only;cases cP S l<;>rfl)
 obtain⟨va,vc,rfl,_⟩:=id h
 obtain⟨ra,rc,rfl,_⟩:=id hl
 have b1:=ai w (.cells #[.slice va S.length vc,.int .i64 f] 49)
 have b2:=b1.alloc b1.size (.cells #[.int .i64 1,.slice ra l.length rc,.int .i64 t,.int .i64 tb,.int .u64 (u:Int)] 108)
 have b3:=b2.alloc b2.size (.cells #[.slice none 0 0,.int .i64 0] 49)
 have k1:=(ag.alloc (ag.new w 49 #[.slice va S.length vc,.int .i64 f]) (.cells #[.int .i64 1,.slice ra l.length rc,.int .i64 t,.int .i64 tb,.int .u64 (u:Int)] 108)).alloc (.cells #[.slice none 0 0,.int .i64 0] 49)
 have k2:=(ag.new (w.alloc (.cells #[.slice va S.length vc,.int .i64 f] 49)) 108 #[.int .i64 1,.slice ra l.length rc,.int .i64 t,.int .i64 tb,.int .u64 (u:Int)]).alloc (.cells #[.slice none 0 0,.int .i64 0] 49)
 have k3:=ag.new ((w.alloc (.cells #[.slice va S.length vc,.int .i64 f] 49)).alloc (.cells #[.int .i64 1,.slice ra l.length rc,.int .i64 t,.int .i64 tb,.int .u64 (u:Int)] 108)) 49 #[.slice none 0 0,.int .i64 0]
 rw[aW] at k2
 rw[aW,aW] at k3
 have y0:=ax k1 0 (.slice va S.length vc) rfl
 have y1:=ax k1 1 (.int .i64 f) rfl
 have z0:=ax k2 0 (.int .i64 1) rfl
 have z1:=ax k2 1 (.slice ra l.length rc) rfl
 have z2:=ax k2 2 (.int .i64 t) rfl
 have z3:=ax k2 3 (.int .i64 tb) rfl
 have z4:=ax k2 4 (.int .u64 (u:Int)) rfl
 have H:=af h
 have q1:=af (jD _ _ S l f _ (h.below b3) (hl.below b3))
 have q3:=af (fun W (hb:Below w.heap.size w W)=>fQ _ S w W h hb)
 have hw3:w.heap.size<=w.heap.size+1+1:=by omega
 clear b1 b2 h hl
 go_enter Tryz.func212,Tryz.ntmps212
 go_wp2_with fail
 generalize hW0:((w.alloc _).alloc _).alloc _=W0 at*
 clear hW0
 refine bL q1.out fun w1 hb1=>?_
 have B1:=ay b3 hb1
 have m1:=ag.below k1 hb1 k1.lt
 have m2:=ag.below k2 hb1 k2.lt
 have m3:=ag.below k3 hb1 k3.lt
 have y0:=ax m1 0 (.slice va S.length vc) rfl
 have y1:=ax m1 1 (.int .i64 f) rfl
 have z2:=ax m2 2 (.int .i64 t) rfl
 have z3:=ax m2 3 (.int .i64 tb) rfl
 clear q1 hb1 k1 k2 k3 b3 z0 z1 z4
 cases hfi:cP S l with
 |none=>
  rw[hfi] at HA;have HZ:=af (show bT ⟨S,f⟩ ⟨1,l,t,tb,u⟩=(⟨S,f⟩,9) from HA.out);simp only[dU];have kf0:=ag.frozen m3 0;have kf1:=ag.frozen m3 1;have kc0:=ax m3 0 (.slice none 0 0) rfl;have kc1:=ax m3 1 (.int .i64 0) rfl;obtain⟨c1,c2,c3⟩:=iB B1 hw3 m3 (.slice va S.length vc) f;have c4:=c3 _ _ (H.out.below B1);clear hfi HA q3 c3;go_wp2_with fail
  refine i6 c1 Tryz.underlying49 ?_;unfold dL;rw[HZ.out];exact⟨⟨_,rfl,c4⟩,c2⟩
 |some i=>
  have hi:=fG _ _ hfi;rw[hfi] at HA;have HA:=af (show bT ⟨S,f⟩ ⟨1,l,t,tb,u⟩=if (bV S[i].samples t tb).length=S[i].samples.length then(⟨S,f⟩,9) else(⟨S.set i ⟨S[i].labels,bV S[i].samples t tb,S[i].last⟩,f⟩,0) from by rw[HA.out];simp only[o8 hi]);have hiN:(i:Int)<(S.length:Int):=by omega
  obtain⟨gg,o,sl2,sv,rfl,hV,d0,d1,d2⟩:=cq H.out hi B1;simp only[dU];have hlt:¬((i:Int)<0):=by omega
  have hsm:aI w1 sv S[i].samples:=hV.2.2;obtain⟨za,zc,rfl,_⟩:=id hsm;have q2:=af (fun W (hb:Below w1.heap.size w1 W)=>mI _ _ t tb W (hsm.below hb));have HD:=af (And.intro d0 (And.intro d1 d2));have G1:=aj y0;have G2:=aj d1;have G3:=aj z2;have G4:=aj z3;clear hfi hV hsm;go_wp2_with fail
  refine cB (R:=co) 10 100 (by kernel_rfl) (by kernel_rfl) (by kernel_rfl) ?_;simp only[List.take_succ_cons,List.take_zero,List.drop_succ_cons,List.drop_zero];iterate 10 (refine bJ fun K hK=>?_;go_big_quiet_step (fail);refine hK _ ?_;clear hK K)
  refine eR ?_;intro w5 hb5;simp only[aB];unfold bF;clear G1 G2 G3 G4;go_wp2_with fail
  refine(q2.out w5 hb5).mono ?_;rintro e w6 ⟨v2,rfl,hs2,hb6,hfr⟩;have B6:=ay hb5 hb6;have BW:=ay B1 B6;have n1:=ag.below m1 B6 m1.lt;have n3:=ag.below m3 B6 m3.lt;obtain⟨na,nc,rfl,_⟩:=id hs2;have y0:=ax n1 0 (.slice (some ⟨gg,o,none⟩) S.length vc) rfl;have y1:=ax n1 1 (.int .i64 f) rfl;have d1:=cu B6 HD.out.2.1;have hfr2:∀k,(Value.slice na (bV S[i].samples t tb).length nc).ownBlock=some k->w1.heap.size<=k:=fun k e=>aK hb5.size (hfr k e);clear q2 hb5 hb6 hfr z2 z3 d0 d2 m1 m2 m3;by_cases hq:(bV S[i].samples t tb).length=S[i].samples.length
  ·have HZ:=af (show bT ⟨S,f⟩ ⟨1,l,t,tb,u⟩=(⟨S,f⟩,9) by rw[HA.out,if_pos hq]);rw[hq];have kf0:=ag.frozen n3 0;have kf1:=ag.frozen n3 1;have kc0:=ax n3 0 (.slice none 0 0) rfl;have kc1:=ax n3 1 (.int .i64 0) rfl;obtain⟨c1,c2,c3⟩:=iB BW hw3 n3 (.slice (some ⟨gg,o,none⟩) S.length vc) f;have c4:=c3 _ _ (H.out.below BW);clear HA q3 c3 hs2 hq;go_wp2_with fail
   refine i6 c1 Tryz.underlying49 ?_;unfold dL;rw[HZ.out];exact⟨⟨_,rfl,c4⟩,c2⟩
  ·have HZ:=af (show bT ⟨S,f⟩ ⟨1,l,t,tb,u⟩=(⟨S.set i ⟨S[i].labels,bV S[i].samples t tb,S[i].last⟩,f⟩,0) by rw[HA.out,if_neg hq]);have hq2:¬(((bV S[i].samples t tb).length:Int)=(S[i].samples.length:Int)):=by omega
   clear HA hq;generalize bV S[i].samples t tb=W2 at*;go_wp2_with fail
   refine(q3.out _ BW).mono ?_;rintro e w7 ⟨v1,Z,rfl,hZ,hV,hrow,hb7⟩;obtain⟨ga,gc,rfl⟩:=aH hrow;have hZl:=af (show Z.length=S.length by rw[<-hZ,List.length_map]);have hiZ:i<Z.length:=by rw[hZl.out];exact hi
   rcases hrow.2 with⟨_,h0⟩|⟨g,gcc,cur,e9,_⟩
   ·omega
   obtain⟨rfl,_,rfl⟩:=Value.slice.inj e9;have B7:=ay BW hb7;have n1l:=n1.lt;have n3l:=n3.lt;have n1:=ag.below n1 hb7 n1.lt;have n3:=ag.below n3 hb7 n3.lt;have hs7:=hs2.below hb7;have hgl:=hrow.lt g rfl;have hw6:w1.heap.size<=w6.heap.size:=B6.size;have hn0:w.heap.size≠g:=by have:=hgl.1;omega
   have hn3:w.heap.size+1+1≠g:=by have:=hgl.1;omega
   have ⟨z,hz⟩:∃z,Z[i]?=some z:=⟨_,aV hiZ⟩
   have hzV:=hV z (List.mem_of_getElem? hz);have hzS:z.1=S[i]:=by
    have:=congrArg (fun l=>l[i]?) hZ;simp only[List.getElem?_map,hz,Option.map_some,aV hi] at this;exact az this
   obtain⟨zs,zl,zv⟩:=z;simp only at hzS hzV;subst hzS;have hkA:ak w7 (w7.setCell ⟨w.heap.size,0,none⟩ (.slice (some ⟨g,0,none⟩) Z.length gc)) (fun k=>k=w.heap.size):=ak.of_grown (ap _ _ _ _) fun k e=>(az e).symm;have rowA:=aw hrow hkA fun k hk e=>by have:=(hrow.lt k hk).1;omega
   have smA:=hs7.st n1 hkA;have n1A:=ag.set_ n1 0 (.slice (some ⟨g,0,none⟩) Z.length gc);have n3A:=ag.far n3 (p:=⟨w.heap.size,0,none⟩) (show w.heap.size+1+1≠w.heap.size by omega) (.slice (some ⟨g,0,none⟩) Z.length gc);have f2:=bq (j:=i*3+1) rowA rfl;have f3:=(d9 rowA hz).2.1;have fz:=ag.frozen n1 0;have y0:=ax n1 0 (.slice (some ⟨gg,o,none⟩) S.length vc) rfl;have f1:=ax n1A 0 (.slice (some ⟨g,0,none⟩) Z.length gc) rfl;have hkB:ak (w7.setCell ⟨w.heap.size,0,none⟩ (.slice (some ⟨g,0,none⟩) Z.length gc)) ((w7.setCell ⟨w.heap.size,0,none⟩ (.slice (some ⟨g,0,none⟩) Z.length gc)).setCell ⟨g,i*3+1,none⟩ (.slice na W2.length nc)) (fun k=>(Value.slice (some ⟨g,0,none⟩) Z.length gc).ownBlock=some k):=ak.of_grown (ap _ _ _ _) fun k e=>e;have rB:=cF (j:=i*3+1) (u:=.slice na W2.length nc) rowA rfl;rw[db (sz:=3) (fun _=>rfl) Z i 1 _ (⟨S[i].labels,W2,S[i].last⟩,zl,.slice na W2.length nc) _ hz (by decide) rfl] at rB;have smB:=smA.far hkB (yW hs2 fun k e=>(hrow.lt k e).1);have n1B:=ag.far n1A (p:=⟨g,i*3+1,none⟩) hn0 (.slice na W2.length nc);have n3B:=ag.far n3A (p:=⟨g,i*3+1,none⟩) hn3 (.slice na W2.length nc);have BA:=B7.trans (hkA.below B7.size fun k e=>by omega);have BB:=BA.trans (hkB.below BA.size fun k e=>by have:=(hrow.lt k e).1;omega);have g0:=ax n1B 0 (.slice (some ⟨g,0,none⟩) Z.length gc) rfl;have g1:=ax n1B 1 (.int .i64 f) rfl;have kf0:=ag.frozen n3B 0;have kf1:=ag.frozen n3B 1;have kc0:=ax n3B 0 (.slice none 0 0) rfl;have kc1:=ax n3B 1 (.int .i64 0) rfl;obtain⟨c1,c2,c3⟩:=iB BB hw3 n3B (.slice (some ⟨g,0,none⟩) Z.length gc) f;have hat:=cV (w:=(w7.setCell ⟨w.heap.size,0,none⟩ (.slice (some ⟨g,0,none⟩) Z.length gc)).setCell ⟨g,i*3+1,none⟩ (.slice na W2.length nc)) rB (by rw[List.length_set]) (by rw[List.length_set,hZl.out];omega) fun z hz'=>by
    rcases List.mem_or_eq_of_mem_set hz' with hz'|rfl
    ·exact(hV z hz').below BB
    ·exact⟨⟨eq smB,hzV.1.2⟩,hzV.2.1.below BB,smB⟩
   rw[List.map_set,hZ] at hat;have c4:=c3 _ _ hat;have hiZN:(i:Int)<(Z.length:Int):=by omega
   clear hat c3 n3B n1B smB rB hkB hkA BA BB rowA smA n1A n3A hV hzV hs7 hrow hgl hn0 hn3 n1 n3 hq2 hs2 hfr2;go_wp2_with fail
   refine i6 c1 Tryz.underlying49 ?_;unfold dL;rw[HZ.out];rw[hZl.out];rw[hZl.out] at c2 c4;exact⟨⟨_,rfl,c4⟩,c2⟩
theorem FX(v sl:Value)(S:List aO)(l:List Lb)(f k t tb:Int)(u:Nat)(w:World)(h:aM w v S)(hl:aC w sl l)(hu:ew (t,u))(hS:S.length<=1000)(hSs:∀x∈S,x.samples.length<=1000):
 Calls Tryz.prog 212 #[.agg #[v,.int .i64 f],.agg #[.int .i64 k,sl,.int .i64 t,.int .i64 tb,.int .u64 (u:Int)]] w (dL w (bT ⟨S,f⟩ ⟨k,l,t,tb,u⟩)):=by
 by_cases h0:k=0
 ·subst h0;exact CQ v sl S l f t tb u w h hl hu hS hSs
 ·by_cases h1:k=1
  ·subst h1;exact CP v sl S l f t tb u w h hl hS
  ·by_cases h2:k=2
   ·subst h2;exact CO v sl S l f t tb u w h hl
   ·exact CN v sl S l f k t tb u w h hl h0 h1 h2
def l4 (sv:Value)(f:Int)(g:Value)(kd:Int)(lv mv:Value)(t tb:Int)(u:Nat)(og:Int)(rv:Value):Array Value:=
 #[sv,.int .i64 f,g,.int .i64 kd,lv,mv,.int .i64 t,.int .i64 tb,.int .u64 (u:Int),.int .i64 og,rv]
section
variable {w w':World} {G:Nat} {T:TypeId} {a ra:Option Addr} {n c rn rc:Nat} {f ge kd t tb og:Int} {u:Nat} {lv mv:Value}
theorem lC(hk:ak w w' (fun k=>k=G))(hc:∀j,j≠0->j≠1->j≠10->w'.cell? ⟨G,j,none⟩=w.cell? ⟨G,j,none⟩){g j:Nat}{x:Value}(hx:w.cell? ⟨g,j,none⟩=some x)(h:g=G->j≠0/\j≠1/\j≠10):w'.cell? ⟨g,j,none⟩=some x:=by
 by_cases e:g=G
 ·obtain⟨h1,h2,h3⟩:=h e;subst e;exact(hc j h1 h2 h3).trans hx
 ·exact hk.cell hx e
theorem aC.dg{v:Value}{L:List Lb}(h:aC w v L)(hB:ag w G T (l4 (.slice a n c) f (.int .i64 ge) kd lv mv t tb u og (.slice ra rn rc)))(hk:ak w w' (fun k=>k=G))(hc:∀j,j≠0->j≠1->j≠10->w'.cell? ⟨G,j,none⟩=w.cell? ⟨G,j,none⟩):aC w' v L:=by
 obtain⟨a',c',rfl,h2,h3⟩:=h;refine⟨a',c',rfl,h2,fun i x hx=>?_⟩;obtain⟨k1,k2,g,o,e,k3,k4⟩:=h3 i x hx;refine⟨k1,k2,g,o,e,lC hk hc k3 fun e=>?_,lC hk hc k4 fun e=>?_⟩
 ·subst e;rw[ag.cell hB] at k3;refine⟨fun e=>?_,fun e=>?_,fun e=>?_⟩<;>rw[e] at k3<;>simp[l4] at k3
 ·subst e;rw[ag.cell hB] at k3 k4;refine⟨fun e=>?_,fun e=>?_,fun e=>?_⟩<;>rw[e] at k4<;>simp[l4] at k4
theorem aI.dg{v:Value}{L:List cH}(h:aI w v L)(hB:ag w G T (l4 (.slice a n c) f (.int .i64 ge) kd lv mv t tb u og (.slice ra rn rc)))(hk:ak w w' (fun k=>k=G))(hc:∀j,j≠0->j≠1->j≠10->w'.cell? ⟨G,j,none⟩=w.cell? ⟨G,j,none⟩):aI w' v L:=by
 obtain⟨a',c',rfl,h2,h3,h4,h5⟩:=h;refine⟨a',c',rfl,h2,h3,h4,fun i x hx=>?_⟩;obtain⟨g,o,e,k1,k2,k3⟩:=h5 i x hx;refine⟨g,o,e,k1,lC hk hc k2 fun e=>?_,lC hk hc k3 fun e=>?_⟩
 ·subst e;rw[ag.cell hB] at k2 k3;generalize o+i*2=j at k2 k3;refine⟨fun e=>?_,fun e=>?_,fun e=>?_⟩<;>subst e
  ·simp[l4] at k2
  ·simp[l4] at k3
  ·simp[l4] at k2
 ·subst e;rw[ag.cell hB] at k2 k3;generalize o+i*2=j at k2 k3;refine⟨fun e=>?_,fun e=>?_,fun e=>?_⟩
  ·omega
  ·obtain rfl:j=0:=by omega
   simp[l4] at k2
  ·obtain rfl:j=9:=by omega
   simp[l4] at k3
theorem aM.dg{v:Value}{S:List aO}(h:aM w v S)(hB:ag w G T (l4 (.slice a n c) f (.int .i64 ge) kd lv mv t tb u og (.slice ra rn rc)))(hk:ak w w' (fun k=>k=G))(hc:∀j,j≠0->j≠1->j≠10->w'.cell? ⟨G,j,none⟩=w.cell? ⟨G,j,none⟩):aM w' v S:=by
 obtain⟨a',c',rfl,h2,h3,h4,h5⟩:=h;refine⟨a',c',rfl,h2,h3,h4,fun i x hx=>?_⟩;obtain⟨g,o,e,k1,sl,sv,k2,k3,k4,k5,k6⟩:=h5 i x hx;have hne:g=G->(∀j,o+i*3=j->j≠0/\j≠1/\j≠8/\j≠9/\j≠10):=fun e j ej=>by
  subst e;obtain⟨_,_,hsl,_⟩:=id k3;obtain⟨_,_,hsv,_⟩:=id k5;rw[ag.cell hB] at k2 k4;rw[hsl] at k2;rw[hsv] at k4;rw[ej] at k2 k4;refine⟨fun e=>?_,fun e=>?_,fun e=>?_,fun e=>?_,fun e=>?_⟩<;>subst e
  ·simp[l4] at k4
  ·simp[l4] at k2
  ·simp[l4] at k2
  ·simp[l4] at k2
  ·simp[l4] at k4
 refine⟨g,o,e,k1,sl,sv,lC hk hc k2 fun e=>?_,k3.dg hB hk hc,lC hk hc k4 fun e=>?_,k5.dg hB hk hc,lC hk hc k6 fun e=>?_⟩
 ·have:=hne e _ rfl;exact⟨this.1,this.2.1,this.2.2.2.2⟩
 ·have:=hne e _ rfl;omega
 ·have:=hne e _ rfl;omega
end
def dr(S:List aO):Nat:=S.foldl (fun n x=>n+x.samples.length) 0
theorem Al(S:List aO){j:Nat}(h:j<S.length):dr (S.take (j+1))=dr (S.take j)+S[j].samples.length:=by
 unfold dr;rw[eM h,List.foldl_append];rfl
theorem wE(v:Value)(S:List aO)(f:Int)(w:World)(h:aM w v S):
 Calls Tryz.prog 168 #[.agg #[v,.int .i64 f]] w fun e w'=>e=.returned (.int .i64 (dr S:Int))/\Below w.heap.size w w':=by
 have hlen:=h.len
 have H:=af h
 obtain⟨sa,sc,rfl,_⟩:=id h
 obtain⟨N,hN⟩:∃N,S.length=N:=⟨_,rfl⟩
 have HN:=af hN
 rw[hN] at H hlen⊢
 have HT:dr S=dr (S.take N):=by rw[List.take_of_length_le (by omega)]
 rw[HT]
 have b1:=ai w (.cells #[.slice sa N sc,.int .i64 f] 49)
 have k1:=ag.new w 49 #[.slice sa N sc,.int .i64 f]
 have y0:=ax k1 0 (.slice sa N sc) rfl
 clear h hN k1 HT
 go_enter Tryz.func168,Tryz.ntmps168
 go_wp2_with fail
 generalize hW0:w.alloc _=W0 at*
 clear hW0 y0
 go_loopw [3,9] (fun vn vi wr=>∃j:Nat,j<=N/\vi=.int .i64 (j:Int)/\vn=.int .i64 (dr (S.take j):Int)/\dr (S.take j)<=j*100000/\Below w.heap.size w wr) (fun _ vi _=>N-(intOf vi).toNat)
 case atStart=>exact⟨0,Nat.zero_le _,rfl,rfl,by simp[dr],b1⟩
 clear b1
 obtain⟨j,hj,rfl,rfl,hc,hb⟩:=hrel
 rcases(show j<N\/j=N by omega) with hjn|rfl
 ·have hjl:j<S.length:=by rw[HN.out];exact hjn
  obtain⟨gg,o,sl,sv,rfl,hV,d0,d1,d2⟩:=cq H.out hjl hb;have HS:=af (Al S hjl);generalize S[j]=y at*;clear hjl;obtain⟨yl,ys,b⟩:=y;have hlab:aC wr sl yl:=hV.2.1;have hsm:aI wr sv ys:=hV.2.2;have hsn:=hsm.len;clear hV;obtain⟨ya,yc,rfl,_⟩:=id hlab;obtain⟨za2,zc2,rfl,_⟩:=id hsm;simp only at d0 d1 d2 HS;have b3:=ai wr (.cells #[.slice ya yl.length yc,.slice za2 ys.length zc2,.int .i64 b] 88);have k3:=ag.new wr 88 #[.slice ya yl.length yc,.slice za2 ys.length zc2,.int .i64 b];have e1:=ax k3 1 (.slice za2 ys.length zc2) rfl;have hb3:=ay hb b3;have hw9:IntKind.i64.wrap ((j:Int)+1)=(j:Int)+1:=ct _ (by omega);have HC:=af hc;have hc1:IntKind.i64.wrap ((dr (S.take j):Int)+(ys.length:Int))=(dr (S.take j):Int)+(ys.length:Int):=ct _ (by omega);clear hc hlab hsm k3;go_wp2_with fail
  go_roundw
  case rel=>exact⟨j+1,hjn,by go_num,by rw[HS.out];go_num,by rw[HS.out];have:=HC.out;omega,hb3⟩
  case measure=>simp[intOf];omega
 ·go_wp2_with fail
  go_ret;exact⟨rfl,hb⟩
theorem ww:K0 Tryz.prog 22 108 5 56:=⟨Tryz.underlying22,uo (.agg #[.int .i64 0,.slice none 0 0,.int .i64 0,.int .i64 0,.int .u64 0]) (by kernel_rfl) rfl,by decide,by decide⟩
theorem CM(s:kt)(r:Rc)(h:(bT s r).2≠0):(bT s r).1=s:=by
 unfold bT at h⊢;split
 ·rename_i h0;rw[if_pos h0] at h;split
  ·rename_i h1;rw[if_pos h1] at h;exact absurd rfl h
  ·rfl
 ·rename_i h0;rw[if_neg h0] at h;split
  ·rename_i h1;rw[if_pos h1] at h;cases hf:cP s.ser r.labels with
   |none=>rfl
   |some i=>
    rw[hf] at h;dsimp only at h⊢;split
    ·rfl
    ·rename_i h2;rw[if_neg h2] at h;exact absurd rfl h
  ·rename_i h1;rw[if_neg h1] at h;split
   ·rename_i h2;rw[if_pos h2] at h;split
    ·rename_i h3;rw[if_pos h3] at h;exact absurd rfl h
    ·rfl
   ·rfl
def IB(S:List aO)(f c:Int):bn:=fun x W=>∃v',x=.tuple #[.agg #[v',.int .i64 f],.int .i64 c]/\aM W v' S
def Gg(S:List aO)(f:Int):bn:=fun x W=>∃v',x=.agg #[v',.int .i64 f]/\aM W v' S
def Gi(B:Nat):bn:=fun x W=>∃k,x=.pointer (some ⟨k,0,none⟩)/\B<=k/\ag W k 49 #[.slice none 0 0,.int .i64 0]
theorem pt{S:List aO}{f c:Int}:(IB S f c).keeps co:=fun _ _ _ ⟨v,h1,h2⟩ h=>⟨v,h1,h2.below h⟩
theorem xh{S:List aO}{f:Int}:(Gg S f).keeps co:=fun _ _ _ ⟨v,h1,h2⟩ h=>⟨v,h1,h2.below h⟩
theorem xi{B:Nat}:(Gi B).keeps co:=fun _ _ _ ⟨k,h1,h2,h3⟩ h=>⟨k,h1,h2,h3.below h h3.lt⟩
def CY(w:World)(G:Nat)(ge kd:Int)(lv mv:Value)(t tb:Int)(u:Nat)(og:Int)(r:kt×Int)(x:Rc)(sl:Value)(e:Ending)(w':World):Prop:=
 ∃sv' rv' Z,e=.returned (.int .i64 r.2)/\aM w' sv' r.1.ser/\ag w' G 158 (l4 sv' r.1.floor (.int .i64 ge) kd lv mv t tb u og rv')/\
  Z=(if r.2=0 then[(x,sl)] else[])/\w'.ownsRow w.heap.size 108 5 rv' Z.length (aU Z)/\ak w w' (fun k=>k=G)
theorem yR(G:Nat)(sv lv mv sl:Value)(S:List aO)(l:List Lb)(f ge kd t tb og k rt rb:Int)(u ru:Nat)(w:World)(hG:ag w G 158 (l4 sv f (.int .i64 ge) kd lv mv t tb u og (.slice none 0 0)))
 (h:aM w sv S) (hl:aC w sl l) (hu:ew (rt,ru)) (hS:S.length<=1000) (hSs:∀x∈S,x.samples.length<=1000):
 Calls Tryz.prog 165 #[.pointer (some ⟨G,0,none⟩),.agg #[.int .i64 k,sl,.int .i64 rt,.int .i64 rb,.int .u64 (ru:Int)]] w (CY w G ge kd lv mv t tb u og (bT ⟨S,f⟩ ⟨k,l,rt,rb,ru⟩) ⟨k,l,rt,rb,ru⟩ sl):=by
 have HE:=af (CM ⟨S,f⟩ ⟨k,l,rt,rb,ru⟩)
 obtain⟨va,vc,rfl,_⟩:=id h
 obtain⟨ra,rc,rfl,_⟩:=id hl
 obtain⟨⟨⟨S',f'⟩,c⟩,hR⟩:∃p,bT ⟨S,f⟩ ⟨k,l,rt,rb,ru⟩=p:=⟨_,rfl⟩
 have q1:=af (show ∀W,Below w.heap.size w W->Calls Tryz.prog 212 #[.agg #[.slice va S.length vc,.int .i64 f],.agg #[.int .i64 k,.slice ra l.length rc,.int .i64 rt,.int .i64 rb,.int .u64 (ru:Int)]] W (dL W (⟨S',f'⟩,c)) from by
  rw[<-hR];exact fun W hb=>FX _ _ S l f k rt rb ru W (h.below hb) (hl.below hb) hu hS hSs)
 rw[hR] at HE⊢
 clear hR
 have b1:=ai w (.cells #[.int .i64 k,.slice ra l.length rc,.int .i64 rt,.int .i64 rb,.int .u64 (ru:Int)] 108)
 have k1:=ag.new w 108 #[.int .i64 k,.slice ra l.length rc,.int .i64 rt,.int .i64 rb,.int .u64 (ru:Int)]
 have G1:=ag.alloc hG (.cells #[.int .i64 k,.slice ra l.length rc,.int .i64 rt,.int .i64 rb,.int .u64 (ru:Int)] 108)
 have hGl:=hG.lt
 have H:=af h
 clear hG h hl
 go_enter Tryz.func165,Tryz.ntmps165
 go_upto_region 1 with fail
 generalize hW0:w.alloc _=W0 at*
 clear hW0
 have y0:=ax G1 0 (.slice va S.length vc) rfl
 have y1:=ax G1 1 (.int .i64 f) rfl
 have z0:=ax k1 0 (.int .i64 k) rfl
 have z1:=ax k1 1 (.slice ra l.length rc) rfl
 have z2:=ax k1 2 (.int .i64 rt) rfl
 have z3:=ax k1 3 (.int .i64 rb) rfl
 have z4:=ax k1 4 (.int .u64 (ru:Int)) rfl
 have g0:=aj y0
 have g1:=aj y1
 have g2:=aj z0
 have g3:=aj z1
 have g4:=aj z2
 have g5:=aj z3
 have g6:=aj z4
 go_wp2_with fail
 refine cB (R:=co) 10 8 (by kernel_rfl) (by kernel_rfl) (by kernel_rfl) ?_
 simp only[List.take_succ_cons,List.take_zero,List.drop_succ_cons,List.drop_zero]
 iterate 5 (refine bJ fun K hK=>?_;go_big_quiet_step (fail);refine hK _ ?_;clear hK K)
 (refine pP (d:=13) (f:=212) (args:=#[.agg #[.slice va S.length vc,.int .i64 f],.agg #[.int .i64 k,.slice ra l.length rc,.int .i64 rt,.int .i64 rb,.int .u64 (ru:Int)]]) (r:=IB S' f' c) (pt) (by kernel_rfl) (fun _ _ h=>by cases h) (by kernel_rfl) rfl (fun _=>by go_simp) (fun W hW=>(q1.out W (b1.trans (Below.mono hW b1.size))).mono fun e w' ⟨⟨v',h1,h2⟩,h3⟩=>⟨_,h1,h3,v',rfl,h2⟩) ?_)
 refine vS 13 7 (.inr rfl) rfl rfl pt rfl ?_
 refine He 7 14 (s:=Gg S' f') 0 rfl rfl rfl xh rfl (fun x w ⟨v',h1,h2⟩=>⟨_,_,h1,rfl,v',rfl,h2⟩) ?_
 refine Dv 7 (.int .i64 c) 1 rfl rfl rfl (by kernel_rfl) (fun x w ⟨v',h1,h2⟩=>⟨_,h1,rfl⟩) (i9 (type:=0) (pos:= "") (fun K hK=>?_));go_big_quiet_step (fail);refine hK _ ?_;clear hK K
 refine kJ (d:=5) (r:=Gi W0.heap.size) xi (by kernel_rfl) (fun _ _ h=>by cases h) (by kernel_rfl) rfl (fun W hW=>⟨.pointer (some ⟨W.heap.size,0,none⟩),W.alloc (.cells #[.slice none 0 0,.int .i64 0] 49),by go_simp,ai W _,W.heap.size,rfl,hW.size,ag.new _ _ _⟩) ?_
 refine eR ?_
 intro w5 hb5
 simp only[aB]
 rintro x5 ⟨kk,rfl,hk1,hk2⟩ x14 ⟨v',rfl,hs5⟩ x7 _ x13 _
 obtain⟨na,nc,rfl,_⟩:=id hs5
 unfold bF
 have B5:=ay b1 hb5
 have G5:=ag.below G1 hb5 G1.lt
 have k5:=ag.below k1 hb5 k1.lt
 have hb1s:=b1.size
 have hk1s:w.heap.size<W0.heap.size:=k1.lt
 have f0:=ag.frozen hk2 0
 have f1:=ag.frozen hk2 1
 have c0:=ax hk2 0 (.slice none 0 0) rfl
 have c1:=ax hk2 1 (.int .i64 0) rfl
 obtain⟨s1,s2,s3⟩:=iB B5 (by omega) hk2 (.slice na S'.length nc) f'
 have hs6:=s3 _ _ hs5
 have G6:=ag.far (ag.far G5 (p:=⟨kk,0,none⟩) (show G≠kk by omega) (.slice na S'.length nc)) (p:=⟨kk,1,none⟩) (show G≠kk by omega) (.int .i64 f')
 have k6:=ag.far (ag.far k5 (p:=⟨kk,0,none⟩) (show w.heap.size≠kk by omega) (.slice na S'.length nc)) (p:=⟨kk,1,none⟩) (show w.heap.size≠kk by omega) (.int .i64 f')
 clear y0 y1 z0 z1 z2 z3 z4 g0 g1 g2 g3 g4 g5 g6 q1 G1 k1 b1 G5 k5 hk2 s3 hs5
 go_upto_region 2 with fail
 generalize hW6:(w5.setCell ⟨kk,0,none⟩ _).setCell ⟨kk,1,none⟩ _=W6 at*
 clear hW6 f0 f1 c0 c1 hb5 B5
 have x0:=ax s1 0 (.slice na S'.length nc) rfl
 have x1:=ax s1 1 (.int .i64 f') rfl
 by_cases hc:c=0
 ·subst hc;have gf0:=ag.frozen G6 0;have gf1:=ag.frozen G6 1;have gc0:=ax G6 0 (.slice va S.length vc) rfl;have gc1:=ax G6 1 (.int .i64 f) rfl;have hkG:ak W6 ((W6.setCell ⟨G,0,none⟩ (.slice na S'.length nc)).setCell ⟨G,1,none⟩ (.int .i64 f')) (fun k=>k=G):=(ak.of_grown (ap _ _ _ _) fun k e=>(az e).symm).trans (ak.of_grown (ap _ _ _ _) fun k e=>(az e).symm);have G7:ag ((W6.setCell ⟨G,0,none⟩ (.slice na S'.length nc)).setCell ⟨G,1,none⟩ (.int .i64 f')) G 158 (l4 (.slice na S'.length nc) f' (.int .i64 ge) kd lv mv t tb u og (.slice none 0 0)):=(ag.set_ G6 0 _).set_ 1 _;have hs7:=hs6.dg G6 hkG fun j h0 h1 _=>by
   rw[ag.cell G6,ag.cell G7];match j with
   |0=>exact absurd rfl h0
   |1=>exact absurd rfl h1
   |j+2=>rfl
  have k7:=ag.keptK k6 hkG (show ¬(w.heap.size=G) by omega);have HK7:=af ((ak.of_below (S:=fun k=>k=G) s2).trans hkG);have hsz7:=(s2.size:w.heap.size<=W6.heap.size)
  have hsz8:=hkG.size;clear HE hkG G6 k6 hs6 s1 s2;go_upto_region 4 with fail
  generalize hW7:(W6.setCell ⟨G,0,none⟩ _).setCell ⟨G,1,none⟩ _=W7 at*;clear hW7 gf0 gf1 gc0 gc1 x0 x1;have y10:=ax G7 10 (.slice none 0 0) rfl;have z0:=ax k7 0 (.int .i64 k) rfl;have z1:=ax k7 1 (.slice ra l.length rc) rfl;have z2:=ax k7 2 (.int .i64 rt) rfl;have z3:=ax k7 3 (.int .i64 rb) rfl;have z4:=ax k7 4 (.int .u64 (ru:Int)) rfl;have g1:=aj y10;have g2:=aj z0;have g3:=aj z1;have g4:=aj z2;have g5:=aj z3;have g6:=aj z4;go_wp2_with fail
  refine cB (R:=co) 7 0 (by kernel_rfl) (by kernel_rfl) (by kernel_rfl) ?_;simp only[List.take_succ_cons,List.take_zero,List.drop_succ_cons,List.drop_zero];iterate 6 (refine bJ fun K hK=>?_;go_big_quiet_step (fail);refine hK _ ?_;clear hK K)
  refine js 28 1 [.int .i64 k,.slice ra l.length rc,.int .i64 rt,.int .i64 rb,.int .u64 (ru:Int)] (by kernel_rfl) (fun _ _ h=>by cases h) (by kernel_rfl) rfl 108 (fun W=>by go_simp) ?_;refine eR ?_;intro w8 hb8;simp only[aB];rintro x ⟨p,cp,rfl,hp,hcells⟩;unfold bF;have G8:=ag.below G7 hb8 G7.lt;have hs8:=hs7.below hb8;have hr8:w8.ownsRow w.heap.size 108 5 (.slice none 0 0) 0 (aU []):=eE;have hsz9:w.heap.size<=w8.heap.size:=by have:=hb8.size;omega
  obtain⟨i0,z0',hin,hz0,hz1,hz2,hz3⟩:=ww.info;clear z0 z1 z2 z3 z4 g1 g2 g3 g4 g5 g6 y10 hp k7 G7 hs7;go_wp2_with (at_builtin;(refine wpList_append_own_at _ rfl _ _ 22 rfl w.heap.size 108 i0 z0' 5 56 ww.und hin hz0 hz1 hz2 hz3 (by decide) _ 0 _ rfl hr8 ⟨p,0,none⟩ 1 cp [.int .i64 k,.slice ra l.length rc,.int .i64 rt,.int .i64 rb,.int .u64 (ru:Int)] rfl rfl hcells (by simp[Value.oneCell']) (by unfold maxLen;omega) (by omega) hsz9 ?_);intro rv' w9 hown' hgrow hnil hloc;obtain⟨na9,nc9,rfl⟩:=aH hown';have k9:ak w8 w9 (fun _=>False):=ak.of_grown hgrow (fun k e=>by cases e);have B9:=k9.below (aF _) (fun k e=>e.elim);have G9:=ag.below G8 B9 G8.lt;have f10:=ag.frozen G9 10;have c10:=ax G9 10 (.slice none 0 0) rfl)
  have hkX:ak w9 (w9.setCell ⟨G,10,none⟩ (.slice na9 (0+1) nc9)) (fun k=>k=G):=ak.of_grown (ap _ _ _ _) fun k e=>(az e).symm;have GX:ag (w9.setCell ⟨G,10,none⟩ (.slice na9 (0+1) nc9)) G 158 (l4 (.slice na S'.length nc) f' (.int .i64 ge) kd lv mv t tb u og (.slice na9 (0+1) nc9)):=ag.set_ G9 10 _;have hsX:=(hs8.below B9).dg G9 hkX fun j _ _ h10=>by
   rw[ag.cell G9,ag.cell GX];match j with
   |0=>rfl
   |1=>rfl
   |2=>rfl
   |3=>rfl
   |4=>rfl
   |5=>rfl
   |6=>rfl
   |7=>rfl
   |8=>rfl
   |9=>rfl
   |10=>exact absurd rfl h10
   |j+11=>rfl
  go_ret;unfold CY;refine⟨_,_,[((⟨k,l,rt,rb,ru⟩:Rc),.slice ra l.length rc)],rfl,hsX,GX,by rw[if_pos rfl],?_,(HK7.out.trans (ak.of_below hb8)).trans ((ak.of_below B9).trans hkX)⟩;exact aw hown' hkX fun b hb e=>by have:=(hown'.lt b hb).1;omega
 ·have he:=HE.out hc;obtain⟨rfl,rfl⟩:=kt.mk.inj he;clear HE he;go_wp2_with fail
  go_ret;unfold CY;exact⟨_,_,[],rfl,H.out.below s2,G6,by rw[if_neg hc],eE,ak.of_below s2⟩
theorem Cc{w:World}{a b:List UInt8}{T:TypeId}{c:Nat}(ha:a.length<=1048576)(hb:b.length<=1048576):aC (w.alloc (.cells #[.string (bs a),.string (bs b)] T)) (.slice (some ⟨w.heap.size,0,none⟩) 1 c) [(a,b)]:=by
 refine⟨_,_,rfl,by simp,fun i x hx=>?_⟩;match i with
 |0=>
  obtain rfl:(a,b)=x:=by simpa using hx
  exact⟨ha,hb,_,_,rfl,(World.cell?_alloc_new _ _ _ _).trans rfl,(World.cell?_alloc_new _ _ _ _).trans rfl⟩
 |i+1=>simp at hx
def ut(v:List UInt8):List UInt8:=if v=[] then[45] else v
def fE(m:Mr):Bool:=if m.kind<0\/4<=m.kind\/(m.kind=3/\m.value≠[]) then false else decide (bD [(m.name,ut m.value)]=0)
theorem BR(m:Mr)(w:World)(hn:m.name.length<=1048576)(hv:m.value.length<=1048576):
 Calls Tryz.prog 258 #[J8 m] w fun e w'=>e=.returned (.bool (fE m))/\Below w.heap.size w w':=by
 obtain⟨k,na,va⟩:=m
 simp only at hn hv
 rw[show J8 ⟨k,na,va⟩=.agg #[.int .i64 k,.string (bs na),.string (bs va)] from rfl]
 have HR:=af (show fE ⟨k,na,va⟩=if k<0\/4<=k\/(k=3/\va≠[]) then false else decide (bD [(na,ut va)]=0) from rfl)
 have b0:=ai w (.cells #[.int .i64 k,.string (bs na),.string (bs va)] 233)
 have k0:=ag.new w 233 #[.int .i64 k,.string (bs na),.string (bs va)]
 obtain⟨c0,c1,c2⟩:=iV k0
 have hd:(ut va).length<=1048576:=by
  cases va with
  |nil=>exact Nat.le_of_ble_eq_true rfl
  |cons x va=>exact hv
 have hz:w.heap.size+1=(w.alloc (.cells #[.int .i64 k,.string (bs na),.string (bs va)] 233)).heap.size:=(aW _ _).symm
 have q:=af (fun W=>jj [(na,ut va)] _ _ (Cc (w:=W) (T:=73) (c:=1) hn hd))
 clear k0
 go_enter Tryz.func258,Tryz.ntmps258
 go_upto_region 1 with fail
 generalize hW0:w.alloc _=W0 at*
 clear hW0
 by_cases t0:k<0
 ·have HE:=af (show fE ⟨k,na,va⟩=false by rw[HR.out,if_pos (.inl t0)]);clear HR q;go_wp2_with fail
  go_ret;exact⟨by rw[HE.out];rfl,b0⟩
 by_cases t1:4<=k
 ·have HE:=af (show fE ⟨k,na,va⟩=false by rw[HR.out,if_pos (.inr (.inl t1))]);clear HR q;go_wp2_with fail
  go_ret;exact⟨by rw[HE.out];rfl,b0⟩
 have hgo:¬(k=3/\va≠[])->fE ⟨k,na,va⟩=decide (bD [(na,ut va)]=0):=fun h=>by rw[HR.out,if_neg fun hx=>hx.elim t0 fun hx=>hx.elim t1 h]
 cases va with
 |nil=>
  have HE:=af (hgo fun h=>h.2 rfl);rw[show ut []=[45] from rfl] at q HE;clear HR hgo hd hv;by_cases t2:k=3
  ·subst t2;go_wp2_with fail
   refine(q.out _).mono ?_;rintro e w2 ⟨rfl,hb2⟩;have B2:=(b0.trans ((ai W0 _).mono b0.size)).trans (hb2.mono (b0.trans ((ai W0 _).mono b0.size)).size);clear q;go_wp2_with fail
   go_ret;exact⟨by rw[HE.out];rfl,B2⟩
  ·go_wp2_with fail
   refine(q.out _).mono ?_;rintro e w2 ⟨rfl,hb2⟩;have B2:=(b0.trans ((ai W0 _).mono b0.size)).trans (hb2.mono (b0.trans ((ai W0 _).mono b0.size)).size);clear q;go_wp2_with fail
   go_ret;exact⟨by rw[HE.out];rfl,B2⟩
 |cons x va=>
  rw[show ut (x::va)=x::va from rfl] at q hgo;have h0:¬(bs (x::va)=bs []):=fun e=>by have:=congrArg ByteArray.size e;simp[aq] at this
  by_cases t2:k=3
  ·subst t2;have HE:=af (show fE ⟨3,na,x::va⟩=false by rw[HR.out,if_pos (.inr (.inr ⟨rfl,by simp⟩))]);clear HR hgo q;go_wp2_with fail
   go_ret;exact⟨by rw[HE.out];rfl,b0⟩
  ·have HE:=af (hgo fun h=>t2 h.1);clear HR hgo;go_wp2_with fail
   refine(q.out _).mono ?_;rintro e w2 ⟨rfl,hb2⟩;have B2:=(b0.trans ((ai W0 _).mono b0.size)).trans (hb2.mono (b0.trans ((ai W0 _).mono b0.size)).size);clear q;go_wp2_with fail
   go_ret;exact⟨by rw[HE.out];rfl,B2⟩
theorem Ev(M:List Mr)(mv:Value)(w:World)(hM:iG w mv M)(hb0:∀m∈M,m.name.length<=1048576/\m.value.length<=1048576):
 Calls Tryz.prog 214 #[mv,.func (.func 258) #[] #[]] w fun e w'=>∃a c,e=.returned (.slice a (M.filter fun m=>fE m).length c)/\Below w.heap.size w w':=by
 obtain⟨a,c,rfl,hl,hx⟩:=hM
 have HX:=af hx
 clear hx
 have Q:=af (fun m (hm:m∈M) W=>BR m W (hb0 m hm).1 (hb0 m hm).2)
 have HC:=af (fun i (h:i<M.length)=>od (fun m:Mr=>fE m) M h)
 have ⟨i0,hi,hz0,hz1,hz2⟩:=info_parts (show (Tryz.prog.info? 233).map (fun i=>(i.zero,i.size,i.bytes))=some (some (.agg #[.int .i64 0,.string ⟨#[]⟩,.string ⟨#[]⟩]),3,40) by kernel_rfl)
 have r0:w.ownsRow w.heap.size 233 3 (.slice none 0 0) ((M.take 0).filter fun m=>fE m).length []:=eE
 clear hb0
 go_enter Tryz.func214,Tryz.ntmps214
 go_wp2_with fail
 go_loopw [5,10] (fun vo vi wr=>∃(i:Nat) (xs:List Value),i<=M.length/\vi=.int .i64 (i:Int)/\wr.ownsRow w.heap.size 233 3 vo ((M.take i).filter fun m=>fE m).length xs/\Below w.heap.size w wr) (fun _ vi _=>M.length-(intOf vi).toNat)
 case atStart=>exact⟨0,[],Nat.zero_le _,rfl,r0,bR⟩
 clear r0
 obtain⟨i,xs,hi',rfl,hrow,hb⟩:=hrel
 obtain⟨sa,sc,rfl⟩:=aH hrow
 rcases(show i<M.length\/i=M.length by omega) with hil|rfl
 ·obtain⟨h0,h1,h2,b,o,rfl,d0,d1,d2⟩:=HX.out i M[i] (aV hil);have e0:=cu hb d0;have e1:=cu hb d1;have e2:=cu hb d2;have HCI:=af (HC.out i hil);have hcl:((M.take i).filter fun m=>fE m).length<=i:=aK (List.length_filter_le _ _) (by rw[dp];omega);have bA:=ai wr (.cells #[.int .i64 M[i].kind,.string (bs M[i].name),.string (bs M[i].value)] 233);have BA:=ay hb bA;have q:=Q.out M[i] (dK hil) (wr.alloc (.cells #[.int .i64 M[i].kind,.string (bs M[i].name),.string (bs M[i].value)] 233));rw[show J8 M[i]=.agg #[.int .i64 M[i].kind,.string (bs M[i].name),.string (bs M[i].value)] from rfl] at q;have q:=af q;have hrA:=World.ownsRow.alloc hrow (.cells #[.int .i64 M[i].kind,.string (bs M[i].name),.string (bs M[i].value)] 233);have kA:=ag.new wr 233 #[.int .i64 M[i].kind,.string (bs M[i].name),.string (bs M[i].value)];clear hrow bA d0 d1 d2;generalize ((M.take i).filter fun m=>fE m).length=cn at*;generalize hc2:((M.take (i+1)).filter fun m=>fE m).length=cn2 at*;have HC2:=af hc2;clear hc2;generalize M[i]=y at*;generalize fE y=bo at*;go_wp2_with fail
  refine bL q.out fun w2 hb2=>?_;have k2:=ag.below kA hb2 kA.lt;obtain⟨c0,c1,c2⟩:=iV k2;have r2:=aw hrA (ak.of_below (S:=fun _=>False) hb2) (fun _ _ e=>e);have B2:=ay BA hb2;have hs2:=B2.size;clear q hrA kA k2 BA hb2 hb;cases bo with
  |true=>
   go_wp2_with (at_builtin;refine wpList_append_own_at _ rfl _ _ 66 rfl w.heap.size 233 i0 (.agg #[.int .i64 0,.string ⟨#[]⟩,.string ⟨#[]⟩]) 3 40 Tryz.underlying66 hi hz0 hz1 hz2 rfl (by decide) _ _ _ rfl (World.ownsRow.alloc r2 _) ⟨_,0,none⟩ 1 1 [.int .i64 y.kind,.string (bs y.name),.string (bs y.value)] rfl rfl (iD _ _ _ _ rfl) (by simp[Value.oneCell']) (by unfold maxLen;omega) (by omega) (by simp;omega) ?_;intro v' w5 hown' hgrow hnil2 hloc;obtain⟨sa',sc',rfl⟩:=aH hown')
   go_roundw
   case rel=>
    have hkq:ak w2 w5 (fun k=>w.heap.size<=k):=(ak.alloc w2 _ _).trans (ak.of_grown hgrow fun k e=>(r2.lt k e).1);exact⟨i+1,_,by omega,by go_num,by rw[HC2.out,HCI.out];exact hown',B2.trans (hkq.below hs2 fun k e=>e)⟩
   case measure=>simp[intOf];omega
  |false=>
   go_wp2_with fail
   go_roundw
   case rel=>exact⟨i+1,xs,by omega,by go_num,by rw[HC2.out,HCI.out];exact r2,B2⟩
   case measure=>simp[intOf];omega
 ·rw[List.take_length];go_wp2_with fail
  go_ret;exact⟨_,_,rfl,hb⟩
def i7(M:List Mr):Int:=if 8<M.length\/(M.filter fun m=>fE m).length<M.length then 1 else 0
theorem C3(M:List Mr)(mv:Value)(w:World)(hM:iG w mv M)(hb0:∀m∈M,m.name.length<=1048576/\m.value.length<=1048576):
 Calls Tryz.prog 213 #[mv] w fun e w'=>e=.returned (.int .i64 (i7 M))/\Below w.heap.size w w':=by
 have q:=af (Ev M mv w hM hb0)
 have HE:=af (show i7 M=if 8<M.length\/(M.filter fun m=>fE m).length<M.length then 1 else 0 from rfl)
 obtain⟨a,c,rfl,hl,_⟩:=id hM
 generalize i7 M=ce at*
 generalize (M.filter fun m=>fE m).length=cn at*
 generalize M.length=mn at*
 clear hM hb0
 go_enter Tryz.func213,Tryz.ntmps213
 by_cases h8:8<mn
 ·have h8i:(8:Int)<(mn:Int):=by omega
  have HZ:=af (show ce=1 by rw[HE.out,if_pos (.inl h8)]);clear HE q;go_wp2_with fail
  go_ret;exact⟨by rw[HZ.out];rfl,bR⟩
 ·have h8i:¬((8:Int)<(mn:Int)):=by omega
  go_wp2_with fail
  refine q.out.mono ?_;rintro e w1 ⟨pa,pc,rfl,b1⟩;clear q;by_cases hc:cn<mn
  ·have hci:(cn:Int)<(mn:Int):=by omega
   have HZ:=af (show ce=1 by rw[HE.out,if_pos (.inr hc)]);clear HE;go_wp2_with fail
   go_ret;exact⟨by rw[HZ.out];rfl,b1⟩
  ·have hci:¬((cn:Int)<(mn:Int)):=by omega
   have HZ:=af (show ce=0 by rw[HE.out,if_neg (by omega)]);clear HE;go_wp2_with fail
   go_ret;exact⟨by rw[HZ.out];rfl,b1⟩
def lE(M:List Mr)(t tb:Int):Bool:=decide (i7 M=0)&&decide (t<=tb)
theorem zJ(M:List Mr):i7 M=0\/i7 M=1:=by
 unfold i7;split
 ·exact .inr rfl
 ·exact .inl rfl
theorem wL(G:Nat)(sv lv mv rv gv:Value)(f kd t tb og:Int)(u:Nat)(M:List Mr)(w:World)(hG:ag w G 158 (l4 sv f gv kd lv mv t tb u og rv))(hM:iG w mv M)(hb0:∀m∈M,m.name.length<=1048576/\m.value.length<=1048576):
 Calls Tryz.prog 166 #[.pointer (some ⟨G,0,none⟩)] w fun e w'=>e=.returned (.bool (lE M t tb))/\Below w.heap.size w w':=by
 have q:=af (fun W (hW:Below w.heap.size w W)=>C3 M mv W (hM.below hW) hb0)
 obtain⟨a,c,rfl,hl,_⟩:=id hM
 have y5:=ax hG 5 (.slice a M.length c) rfl
 have y6:=ax hG 6 (.int .i64 t) rfl
 have y7:=ax hG 7 (.int .i64 tb) rfl
 have g5:=aj y5
 have g6:=aj y6
 have g7:=aj y7
 have HA:=af (show lE M t tb=(decide (i7 M=0)&&decide (t<=tb)) from rfl)
 have hm2:=zJ M
 generalize lE M t tb=R at*
 generalize i7 M=ce at*
 clear hG hM hb0
 go_enter Tryz.func166,Tryz.ntmps166
 rcases hm2 with rfl|rfl
 ·have HZ:=af (show R=decide (t<=tb) by rw[HA.out];rfl);clear HA;go_wp2_with fail
  refine dY ?_;iterate 5 (refine bJ fun K hK=>?_;go_big_quiet_step (fail);refine hK _ ?_;clear hK K)
  (refine fS (f:=213) (args:=#[.slice a M.length c]) (v:=.int .i64 0) (fun W hW=>q.out W hW) fun K hK=>?_;go_big_quiet_step (fail);refine hK _ ?_;clear hK K);iterate 15 (refine bJ fun K hK=>?_;go_big_quiet_step (fail);refine hK _ ?_;clear hK K)
  refine eR ?_;intro w5 hb5;simp only[aB];go_wp2_with fail
  go_ret;exact⟨by rw[HZ.out];rfl,hb5⟩
 ·have HZ:=af (show R=false by rw[HA.out];rfl);clear HA;go_wp2_with fail
  refine dY ?_;iterate 5 (refine bJ fun K hK=>?_;go_big_quiet_step (fail);refine hK _ ?_;clear hK K)
  (refine fS (f:=213) (args:=#[.slice a M.length c]) (v:=.int .i64 1) (fun W hW=>q.out W hW) fun K hK=>?_;go_big_quiet_step (fail);refine hK _ ?_;clear hK K);iterate 2 (refine bJ fun K hK=>?_;go_big_quiet_step (fail);refine hK _ ?_;clear hK K)
  iterate 11 (refine Du fun K hK=>?_;go_big_quiet_step (fail);refine hK _ ?_;clear hK K)
  iterate 2 (refine bJ fun K hK=>?_;go_big_quiet_step (fail);refine hK _ ?_;clear hK K)
  refine eR ?_;intro w5 hb5;simp only[aB];go_wp2_with fail
  go_ret;exact⟨by rw[HZ.out];rfl,hb5⟩
section
variable {w w':World} {b:Nat} {T:TypeId} {a:Option Addr} {n c:Nat} {f g:Int}
theorem aC.an{v:Value}{L:List Lb}(h:aC w v L)(hB:ag w b T #[.int .i64 f,.int .i64 g,.slice a n c])(hk:ak w w' (fun k=>k=b)):aC w' v L:=by
 obtain⟨a',c',rfl,h2,h3⟩:=h;refine⟨a',c',rfl,h2,fun i x hx=>?_⟩;obtain⟨k1,k2,g,o,e,k3,k4⟩:=h3 i x hx;have hne:g≠b:=fun e=>by
  subst e;rw[ag.cell hB] at k3;generalize o+i*2=j at k3;match j with
  |0=>simp at k3
  |1=>simp at k3
  |2=>simp at k3
  |j+3=>simp at k3
 exact⟨k1,k2,g,o,e,hk.cell k3 hne,hk.cell k4 hne⟩
theorem aI.an{v:Value}{L:List cH}(h:aI w v L)(hB:ag w b T #[.int .i64 f,.int .i64 g,.slice a n c])(hk:ak w w' (fun k=>k=b)):aI w' v L:=by
 obtain⟨a',c',rfl,h2,h3,h4,h5⟩:=h;refine⟨a',c',rfl,h2,h3,h4,fun i x hx=>?_⟩;obtain⟨g,o,e,k1,k2,k3⟩:=h5 i x hx;have hne:g≠b:=fun e=>by
  subst e;rw[ag.cell hB] at k2 k3;generalize o+i*2=j at k2 k3;match j with
  |0=>simp at k3
  |1=>simp at k3
  |2=>simp at k2
  |j+3=>simp at k2
 exact⟨g,o,e,k1,hk.cell k2 hne,hk.cell k3 hne⟩
theorem aM.an{v:Value}{S:List aO}(h:aM w v S)(hB:ag w b T #[.int .i64 f,.int .i64 g,.slice a n c])(hk:ak w w' (fun k=>k=b)):aM w' v S:=by
 obtain⟨a',c',rfl,h2,h3,h4,h5⟩:=h;refine⟨a',c',rfl,h2,h3,h4,fun i x hx=>?_⟩;obtain⟨g,o,e,k1,sl,sv,k2,k3,k4,k5,k6⟩:=h5 i x hx;have hne:g≠b:=fun e=>by
  subst e;obtain⟨_,_,hsl,_⟩:=id k3;obtain⟨_,_,hsv,_⟩:=id k5;rw[ag.cell hB] at k2 k4;rw[hsl] at k2;rw[hsv] at k4;generalize o+i*3=j at k2 k4;match j with
  |0=>simp at k2
  |1=>simp at k2
  |2=>simp at k4
  |j+3=>simp at k2
 exact⟨g,o,e,k1,sl,sv,hk.cell k2 hne,k3.an hB hk,hk.cell k4 hne,k5.an hB hk,hk.cell k6 hne⟩
end
theorem iL{w W:World}{S:Nat->Prop}{b n c:Nat}{T:TypeId}{a:Option Addr}{f g:Int}(hk:ak w W S)(hb:w.heap.size<=b)(kr:ag W b T #[.int .i64 f,.int .i64 g,.slice a n c])(u v x:Value):
 ag (((W.setCell ⟨b,0,none⟩ u).setCell ⟨b,1,none⟩ v).setCell ⟨b,2,none⟩ x) b T #[u,v,x]/\ak w (((W.setCell ⟨b,0,none⟩ u).setCell ⟨b,1,none⟩ v).setCell ⟨b,2,none⟩ x) S/\
  ak W (((W.setCell ⟨b,0,none⟩ u).setCell ⟨b,1,none⟩ v).setCell ⟨b,2,none⟩ x) (fun k=>k=b):=by
 have hkk:ak W (((W.setCell ⟨b,0,none⟩ u).setCell ⟨b,1,none⟩ v).setCell ⟨b,2,none⟩ x) (fun k=>k=b):=((ak.of_grown (ap _ _ _ _) fun k e=>(az e).symm).trans (ak.of_grown (ap _ _ _ _) fun k e=>(az e).symm)).trans (ak.of_grown (ap _ _ _ _) fun k e=>(az e).symm)
 refine⟨((ag.set_ kr 0 u).set_ 1 v).set_ 2 x,?_,hkk⟩
 exact⟨hkk.os.trans hk.os,hkk.tape.trans hk.tape,hkk.output.trans hk.output,aK hk.size hkk.size,fun i hi hn=>(hkk.block i (dQ hi hk.size) (fun e=>by omega)).trans (hk.block i hi hn)⟩
theorem Id{w w':World}{G:Nat}{T:TypeId}{sv sv' gv lv mv rv rv':Value}{f f' kd t tb og:Int}{u:Nat}(h:ag w G T (l4 sv f gv kd lv mv t tb u og rv))(h':ag w' G T (l4 sv' f' gv kd lv mv t tb u og rv'))(j:Nat)(h0:j≠0)(h1:j≠1)(h2:j≠10):w'.cell? ⟨G,j,none⟩=w.cell? ⟨G,j,none⟩:=by
 rw[ag.cell h,ag.cell h'];match j with
 |0=>exact absurd rfl h0
 |1=>exact absurd rfl h1
 |2=>rfl
 |3=>rfl
 |4=>rfl
 |5=>rfl
 |6=>rfl
 |7=>rfl
 |8=>rfl
 |9=>rfl
 |10=>exact absurd rfl h2
 |j+11=>rfl
def gI(w:World)(G:Nat)(ge kd:Int)(lv mv:Value)(t tb:Int)(u:Nat)(og:Int)(s:kt)(err n:Int)(A:List aO)(R:List Rc)(e:Ending)(w':World):Prop:=
 ∃av sv rv Z,e=.returned (.agg #[.int .i64 err,.int .i64 n,av])/\aM w' av A/\aM w' sv s.ser/\ag w' G 158 (l4 sv s.floor (.int .i64 ge) kd lv mv t tb u og rv)/\
  w'.ownsRow w.heap.size 108 5 rv Z.length (aU Z)/\(∀z∈Z,aC w' z.2 z.1.labels)/\Z.map (fun z=>z.1)=R/\ak w w' (fun k=>k=G)
def eP(s:kt)(l:List Lb)(t:Int)(v:Nat)(g:Int):kt×Int×Int×List Rc:=
 if cI s l (t,v) g=(0,false) then((bT s ⟨0,l,t,0,v⟩).1,(bT s ⟨0,l,t,0,v⟩).2,1,if (bT s ⟨0,l,t,0,v⟩).2=0 then[⟨0,l,t,0,v⟩] else[])
 else(s,(cI s l (t,v) g).1,0,[])
theorem CR(G:Nat)(sv lv mv:Value)(S:List aO)(l:List Lb)(f ge kd t tb og:Int)(u:Nat)(w:World)(hG:ag w G 158 (l4 sv f (.int .i64 ge) kd lv mv t tb u og (.slice none 0 0)))
 (h:aM w sv S) (hl:aC w lv l) (hu:ew (t,u)) (hg: -9223372036854775808<=ge/\ge<=9223372036854775807) (hS:S.length<=1000) (hSs:∀x∈S,x.samples.length<=1000):
 Calls Tryz.prog 99 #[.pointer (some ⟨G,0,none⟩)] w (gI w G ge kd lv mv t tb u og (eP ⟨S,f⟩ l t u ge).1 (eP ⟨S,f⟩ l t u ge).2.1 (eP ⟨S,f⟩ l t u ge).2.2.1 [] (eP ⟨S,f⟩ l t u ge).2.2.2):=by
 have HA:=af (show eP ⟨S,f⟩ l t u ge=if cI ⟨S,f⟩ l (t,u) ge=(0,false) then((bT ⟨S,f⟩ ⟨0,l,t,0,u⟩).1,(bT ⟨S,f⟩ ⟨0,l,t,0,u⟩).2,1,if (bT ⟨S,f⟩ ⟨0,l,t,0,u⟩).2=0 then[⟨0,l,t,0,u⟩] else[])
  else(⟨S,f⟩,(cI ⟨S,f⟩ l (t,u) ge).1,0,[]) from rfl)
 obtain⟨va,vc,rfl,_⟩:=id h
 obtain⟨ra,rc,rfl,_⟩:=id hl
 have b1:=ai w (.cells #[.int .i64 0,.int .i64 0,.slice none 0 0] 62)
 have k1:=ag.new w 62 #[.int .i64 0,.int .i64 0,.slice none 0 0]
 have G1:=ag.alloc hG (.cells #[.int .i64 0,.int .i64 0,.slice none 0 0] 62)
 have hGl:=hG.lt
 have H:=af h
 have HL:=af hl
 have q1:=af (fun W (hb:Below w.heap.size w W)=>rK _ _ S l f t ge u W (h.below hb) (hl.below hb) hg)
 clear hG h hl
 go_enter Tryz.func99,Tryz.ntmps99
 go_upto_region 1 with fail
 generalize hW0:w.alloc _=W0 at*
 clear hW0
 have g0:=aj (ax G1 0 (.slice va S.length vc) rfl)
 have g1:=aj (ax G1 1 (.int .i64 f) rfl)
 have g2:=aj (ax G1 2 (.int .i64 ge) rfl)
 have g4:=aj (ax G1 4 (.slice ra l.length rc) rfl)
 have g6:=aj (ax G1 6 (.int .i64 t) rfl)
 have g8:=aj (ax G1 8 (.int .u64 (u:Int)) rfl)
 obtain⟨⟨ec,th⟩,hal⟩:∃p,cI ⟨S,f⟩ l (t,u) ge=p:=⟨_,rfl⟩
 rw[hal] at HA q1
 clear hal
 refine dY ?_
 iterate 19 (refine bJ fun K hK=>?_;go_big_quiet_step (fail);refine hK _ ?_;clear hK K)
 (refine nw (v:=.agg #[.int .i64 t,.int .u64 (u:Int)]) (fun _ _=>by go_simp) fun K hK=>?_;go_big_quiet_step (fail);refine hK _ ?_;clear hK K)
 iterate 4 (refine bJ fun K hK=>?_;go_big_quiet_step (fail);refine hK _ ?_;clear hK K)
 (refine fS (f:=164) (args:=#[.agg #[.slice va S.length vc,.int .i64 f],.slice ra l.length rc,.agg #[.int .i64 t,.int .u64 (u:Int)],.int .i64 ge]) (v:=.tuple #[.int .i64 ec,.bool th]) (fun W hW=>q1.out W (b1.trans (Below.mono hW b1.size))) fun K hK=>?_;go_big_quiet_step (fail);refine hK _ ?_;clear hK K)
 iterate 5 (refine bJ fun K hK=>?_;go_big_quiet_step (fail);refine hK _ ?_;clear hK K)
 refine eR ?_
 intro w5 hb5
 simp only[aB]
 have B5:=ay b1 hb5
 have k5:=ag.below k1 hb5 k1.lt
 have G5:=ag.below G1 hb5 G1.lt
 have f0:=ag.frozen k5 0
 have f1:=ag.frozen k5 1
 have f2:=ag.frozen k5 2
 have c0:=ax k5 0 (.int .i64 0) rfl
 have c1:=ax k5 1 (.int .i64 0) rfl
 have c2:=ax k5 2 (.slice none 0 0) rfl
 clear g0 g1 g2 g4 g6 g8 q1 b1 k1 G1 hb5
 by_cases hgo:(ec,th)=((0:Int),false)
 ·obtain⟨rfl,rfl⟩:=Prod.mk.inj hgo;clear hgo f0 f1 f2 c0 c1 c2;go_upto_region 4 with fail
  have g4:=aj (ax G5 4 (.slice ra l.length rc) rfl);have g6:=aj (ax G5 6 (.int .i64 t) rfl);have g8:=aj (ax G5 8 (.int .u64 (u:Int)) rfl);refine cB (R:=co) 17 100 (by kernel_rfl) (by kernel_rfl) (by kernel_rfl) ?_;simp only[List.take_succ_cons,List.take_zero,List.drop_succ_cons,List.drop_zero];iterate 16 (refine bJ fun K hK=>?_;go_big_quiet_step (fail);refine hK _ ?_;clear hK K)
  (refine nw (v:=.agg #[.int .i64 0,.slice ra l.length rc,.int .i64 t,.int .i64 0,.int .u64 (u:Int)]) (fun _ _=>by go_simp) fun K hK=>?_;go_big_quiet_step (fail);refine hK _ ?_;clear hK K);refine eR ?_;intro w6 hb6;simp only[aB];unfold bF;have B6:=ay B5 hb6;have k6:=ag.below k5 hb6 k5.lt;have G6:=ag.below G5 hb6 G5.lt;have q2:=af (yR G _ _ mv _ S l f ge kd t tb og 0 t 0 u u w6 G6 (H.out.below B6) (HL.out.below B6) hu hS hSs);obtain⟨⟨s',cd⟩,hap⟩:∃p,bT ⟨S,f⟩ ⟨0,l,t,0,u⟩=p:=⟨_,rfl⟩
  have HZ:=af (show eP ⟨S,f⟩ l t u ge=(s',cd,1,if cd=0 then[⟨0,l,t,0,u⟩] else[]) by rw[HA.out,if_pos rfl,hap]);rw[hap] at q2;have hw6:=B6.size;clear HA hap g4 g6 g8 hb6 k5 G5 B5;go_wp2_with fail
  refine q2.out.mono ?_;rintro e w7 ⟨sv',rv',Z,rfl,hs7,G7,hZ,row7,hk7⟩;have k7:=ag.keptK k6 hk7 (show ¬(w.heap.size=G) by omega);obtain⟨sa',sc',rfl,_⟩:=id hs7;have hl7:=(HL.out.below B6).dg G6 hk7 (Id G6 G7);have f0:=ag.frozen k7 0;have f1:=ag.frozen k7 1;have f2:=ag.frozen k7 2;have c0:=ax k7 0 (.int .i64 0) rfl;have c1:=ax k7 1 (.int .i64 0) rfl;have c2:=ax k7 2 (.slice none 0 0) rfl;obtain⟨n9,kA,kB⟩:=iL ((ak.of_below (S:=fun k=>k=G) B6).trans hk7) (aF _) k7 (.int .i64 cd) (.int .i64 1) (.slice none 0 0);have hs9:=hs7.an k7 kB;have hl9:=hl7.an k7 kB;have G9:=ag.keptK G7 kB (show ¬(G=w.heap.size) by omega);have hk6l:=k6.lt;have row9:=eJ (aw row7 kB fun k hk e=>by have:=(row7.lt k hk).1;omega) hw6;clear q2 k7 kB G7 hl7 hs7 row7 hk7 k6 G6;go_wp2_with fail
  refine bodyPost_ret (results_cell_row rfl _ _ w.heap.size 62 #[.int .i64 cd,.int .i64 1,.slice none 0 0] (0,0) _ rfl n9 Tryz.underlying62 rfl (by kernel_rfl)) rfl ?_;unfold gI;rw[HZ.out];refine⟨_,_,rv',Z,rfl,iu.nil _,hs9,G9,row9,fun z hz=>?_,?_,kA⟩
  ·rw[hZ] at hz;split at hz
   ·obtain rfl:=List.mem_singleton.1 hz;exact hl9
   ·cases hz
  ·rw[hZ];simp only;split<;>rfl
 ·have HZ:=af (show eP ⟨S,f⟩ l t u ge=(⟨S,f⟩,ec,0,[]) by rw[HA.out,if_neg hgo]);obtain⟨n9,kA,kB⟩:=iL (ak.of_below (S:=fun k=>k=G) B5) (aF _) k5 (.int .i64 ec) (.int .i64 0) (.slice none 0 0);have hs9:=(H.out.below B5).an k5 kB;have G9:=ag.keptK G5 kB (show ¬(G=w.heap.size) by omega);clear HA k5 kB;by_cases hec:ec=0
  ·subst hec;cases th with
   |false=>exact absurd rfl hgo
   |true=>
    clear hgo;go_wp2_with fail
    refine bodyPost_ret (results_cell_row rfl _ _ w.heap.size 62 #[.int .i64 0,.int .i64 0,.slice none 0 0] (0,0) _ rfl n9 Tryz.underlying62 rfl (by kernel_rfl)) rfl ?_;unfold gI;rw[HZ.out];exact⟨_,_,.slice none 0 0,[],rfl,iu.nil _,hs9,G9,eE,by simp,rfl,kA⟩
  ·clear hgo;go_wp2_with fail
   refine bodyPost_ret (results_cell_row rfl _ _ w.heap.size 62 #[.int .i64 ec,.int .i64 0,.slice none 0 0] (0,0) _ rfl n9 Tryz.underlying62 rfl (by kernel_rfl)) rfl ?_;unfold gI;rw[HZ.out];exact⟨_,_,.slice none 0 0,[],rfl,iu.nil _,hs9,G9,eE,by simp,rfl,kA⟩
theorem wF:∀(S:List aO) (n:Nat),(∀x∈S,x.samples.length<=100000)->S.foldl (fun n x=>n+x.samples.length) n<=n+S.length*100000
 |[],n,_=>by simp
 |x::S,n,h=>by
  have h1:=wF S (n+x.samples.length) fun y hy=>h y (List.mem_cons_of_mem _ hy);have h2:=h x (List.mem_cons_self ..);rw[List.foldl_cons,cY];omega
theorem aM.count{w:World}{v:Value}{S:List aO}(h:aM w v S):dr S<=10000000000:=by
 have hl:=h.len;have h1:=wF S 0 fun x hx=>by
  obtain⟨a,c,_,_,_,_,h5⟩:=id h;obtain⟨i,hi,e⟩:=List.getElem_of_mem hx;obtain⟨b,o,_,h6⟩:=h5 i x (by rw[aV hi,e]);obtain⟨_,_,sv,_,_,_,h7,_⟩:=h6;exact h7.len
 unfold dr;omega
theorem tR(w:World):aC w (.slice none 0 0) []:=⟨none,0,rfl,by simp,fun i x h=>by simp at h⟩
def iX(s:kt)(t:Int):kt×Int×Int×List Rc:=
 if aX t=false then(s,1,0,[])
 else if t<=s.floor then(s,0,0,[])
 else((bT s ⟨2,[],t,0,0⟩).1,(bT s ⟨2,[],t,0,0⟩).2,(dr s.ser:Int)-(dr (bT s ⟨2,[],t,0,0⟩).1.ser:Int),if (bT s ⟨2,[],t,0,0⟩).2=0 then[⟨2,[],t,0,0⟩] else[])
theorem Hm(G:Nat)(sv lv mv:Value)(S:List aO)(f ge kd t tb og:Int)(u:Nat)(w:World)(hG:ag w G 158 (l4 sv f (.int .i64 ge) kd lv mv t tb u og (.slice none 0 0)))
 (h:aM w sv S) (hu:ew (t,0)) (hS:S.length<=1000) (hSs:∀x∈S,x.samples.length<=1000):
 Calls Tryz.prog 101 #[.pointer (some ⟨G,0,none⟩)] w (gI w G ge kd lv mv t tb u og (iX ⟨S,f⟩ t).1 (iX ⟨S,f⟩ t).2.1 (iX ⟨S,f⟩ t).2.2.1 [] (iX ⟨S,f⟩ t).2.2.2):=by
 have HA:=af (show iX ⟨S,f⟩ t=if aX t=false then(⟨S,f⟩,1,0,[])
  else if t<=f then(⟨S,f⟩,0,0,[])
  else((bT ⟨S,f⟩ ⟨2,[],t,0,0⟩).1,(bT ⟨S,f⟩ ⟨2,[],t,0,0⟩).2,(dr S:Int)-(dr (bT ⟨S,f⟩ ⟨2,[],t,0,0⟩).1.ser:Int),if (bT ⟨S,f⟩ ⟨2,[],t,0,0⟩).2=0 then[⟨2,[],t,0,0⟩] else[]) from rfl)
 obtain⟨va,vc,rfl,_⟩:=id h
 have b1:=ai w (.cells #[.int .i64 0,.int .i64 0,.slice none 0 0] 62)
 have k1:=ag.new w 62 #[.int .i64 0,.int .i64 0,.slice none 0 0]
 have G1:=ag.alloc hG (.cells #[.int .i64 0,.int .i64 0,.slice none 0 0] 62)
 have hGl:=hG.lt
 have H:=af h
 have q1:=af (fun W=>i3 t W)
 have q3:=af (fun W (hb:Below w.heap.size w W)=>wE _ S f W (h.below hb))
 have hcs:=h.count
 clear hG h
 go_enter Tryz.func101,Tryz.ntmps101
 go_upto_region 1 with fail
 generalize hW0:w.alloc _=W0 at*
 clear hW0
 have y6:=ax G1 6 (.int .i64 t) rfl
 have y1:=ax G1 1 (.int .i64 f) rfl
 have y0:=ax G1 0 (.slice va S.length vc) rfl
 go_wp2_with fail
 refine(q1.out _).mono ?_
 rintro e _ ⟨rfl,rfl⟩
 clear q1
 cases hti:aX t with
 |false=>
  have HZ:=af (show iX ⟨S,f⟩ t=(⟨S,f⟩,1,0,[]) by rw[HA.out,if_pos hti]);have f0:=ag.frozen k1 0;have f1:=ag.frozen k1 1;have f2:=ag.frozen k1 2;have c0:=ax k1 0 (.int .i64 0) rfl;have c1:=ax k1 1 (.int .i64 0) rfl;have c2:=ax k1 2 (.slice none 0 0) rfl;obtain⟨n9,kA,kB⟩:=iL (ak.of_below (S:=fun k=>k=G) b1) (aF _) k1 (.int .i64 1) (.int .i64 0) (.slice none 0 0);have hs9:=(H.out.below b1).an k1 kB;have G9:=ag.keptK G1 kB (show ¬(G=w.heap.size) by omega);clear HA k1 kB q3 hti;go_wp2_with fail
  refine bodyPost_ret (results_cell_row rfl _ _ w.heap.size 62 #[.int .i64 1,.int .i64 0,.slice none 0 0] (0,0) _ rfl n9 Tryz.underlying62 rfl (by kernel_rfl)) rfl ?_;unfold gI;rw[HZ.out];exact⟨_,_,.slice none 0 0,[],rfl,iu.nil _,hs9,G9,eE,by simp,rfl,kA⟩
 |true=>
  rw[if_neg (by rw[hti];decide)] at HA;clear hti;have g6:=aj y6;have g1:=aj y1;go_wp2_with fail
  refine dY ?_;iterate 11 (refine bJ fun K hK=>?_;go_big_quiet_step (fail);refine hK _ ?_;clear hK K)
  refine eR ?_;intro w5 hb5;simp only[aB];have B5:=ay b1 hb5;have k5:=ag.below k1 hb5 k1.lt;have G5:=ag.below G1 hb5 G1.lt;clear g6 g1 y6 y1 y0 b1 k1 G1 hb5;by_cases hc:t<=f
  ·have HZ:=af (show iX ⟨S,f⟩ t=(⟨S,f⟩,0,0,[]) by rw[HA.out,if_pos hc]);have f0:=ag.frozen k5 0;have f1:=ag.frozen k5 1;have f2:=ag.frozen k5 2;have c0:=ax k5 0 (.int .i64 0) rfl;have c1:=ax k5 1 (.int .i64 0) rfl;have c2:=ax k5 2 (.slice none 0 0) rfl;obtain⟨n9,kA,kB⟩:=iL (ak.of_below (S:=fun k=>k=G) B5) (aF _) k5 (.int .i64 0) (.int .i64 0) (.slice none 0 0);have hs9:=(H.out.below B5).an k5 kB;have G9:=ag.keptK G5 kB (show ¬(G=w.heap.size) by omega);clear HA k5 kB q3;go_wp2_with fail
   refine bodyPost_ret (results_cell_row rfl _ _ w.heap.size 62 #[.int .i64 0,.int .i64 0,.slice none 0 0] (0,0) _ rfl n9 Tryz.underlying62 rfl (by kernel_rfl)) rfl ?_;unfold gI;rw[HZ.out];exact⟨_,_,.slice none 0 0,[],rfl,iu.nil _,hs9,G9,eE,by simp,rfl,kA⟩
  ·rw[if_neg hc] at HA;have y1:=ax G5 1 (.int .i64 f) rfl;have y0:=ax G5 0 (.slice va S.length vc) rfl;go_wp2_with fail
   refine(q3.out _ B5).mono ?_;rintro e w6 ⟨rfl,hb6⟩;have B6:=ay B5 hb6;have k6:=ag.below k5 hb6 k5.lt;have G6:=ag.below G5 hb6 G5.lt;have y6:=ax G6 6 (.int .i64 t) rfl;have q2:=af (yR G _ lv mv (.slice none 0 0) S [] f ge kd t tb og 2 t 0 u 0 w6 G6 (H.out.below B6) (tR w6) hu hS hSs);obtain⟨⟨⟨S',f'⟩,cd⟩,hap⟩:∃p,bT ⟨S,f⟩ ⟨2,[],t,0,0⟩=p:=⟨_,rfl⟩
   rw[hap] at q2 HA;have HZ:=af (show iX ⟨S,f⟩ t=(⟨S',f'⟩,cd,(dr S:Int)-(dr S':Int),if cd=0 then[⟨2,[],t,0,0⟩] else[]) from HA.out);have hw6:=B6.size;clear HA hap hb6 k5 G5 B5 q3 y0 y1 hc;go_wp2_with fail
   refine q2.out.mono ?_;rintro e w7 ⟨sv',rv',Z,rfl,hs7,G7,hZ,row7,hk7⟩;have k7:=ag.keptK k6 hk7 (show ¬(w.heap.size=G) by omega);have hs7:aM w7 sv' S':=hs7;obtain⟨sa',sc',rfl,_⟩:=id hs7;have hcs':=hs7.count;have hwr:IntKind.i64.wrap ((dr S:Int)-(dr S':Int))=(dr S:Int)-(dr S':Int):=ct _ (by omega);have K7:=(ak.of_below (S:=fun k=>k=G) B6).trans hk7;have y0:=ax G7 0 (.slice sa' S'.length sc') rfl;have y1:=ax G7 1 (.int .i64 f') rfl;have hk6l:=k6.lt;clear q2 k6 G6 hk7 y6;go_wp2_with fail
   refine(wE _ S' f' w7 hs7).mono ?_;rintro e w8 ⟨rfl,hb8⟩;have k8:=ag.below k7 hb8 k7.lt;have G8:=ag.below G7 hb8 G7.lt;have hs8:=hs7.below hb8;have row8:=aw row7 (ak.of_below (S:=fun _=>False) hb8) (fun _ _ e=>e);have f0:=ag.frozen k8 0;have f1:=ag.frozen k8 1;have f2:=ag.frozen k8 2;have c0:=ax k8 0 (.int .i64 0) rfl;have c1:=ax k8 1 (.int .i64 0) rfl;have c2:=ax k8 2 (.slice none 0 0) rfl;obtain⟨n9,kA,kB⟩:=iL (K7.trans (ak.of_below hb8)) (aF _) k8 (.int .i64 cd) (.int .i64 ((dr S:Int)-(dr S':Int))) (.slice none 0 0);have hs9:=hs8.an k8 kB;have G9:=ag.keptK G8 kB (show ¬(G=w.heap.size) by omega);have row9:=eJ (aw row8 kB fun k hk e=>by have:=(row8.lt k hk).1;omega) hw6;clear k7 kB G7 hs7 row7 G8 k8 y0 y1 hs8 row8 K7;go_wp2_with fail
   refine bodyPost_ret (results_cell_row rfl _ _ w.heap.size 62 #[.int .i64 cd,.int .i64 ((dr S:Int)-(dr S':Int)),.slice none 0 0] (0,0) _ rfl n9 Tryz.underlying62 rfl (by kernel_rfl)) rfl ?_;unfold gI;rw[HZ.out];refine⟨_,_,rv',Z,rfl,iu.nil _,hs9,G9,row9,fun z hz=>?_,?_,kA⟩
   ·rw[hZ] at hz;split at hz
    ·obtain rfl:=List.mem_singleton.1 hz;exact tR _
    ·cases hz
   ·rw[hZ];simp only;split<;>rfl
theorem EM{α β:Type}(f:α->β)(p:β->Bool)(S:List α){j:Nat}(h:j<S.length):((S.take (j+1)).map f).filter p=((S.take j).map f).filter p++if p (f S[j]) then[f S[j]] else[]:=by
 rw[eM h,List.map_append,List.filter_append];congr 1;simp[List.filter_cons]
def IA (t tb:Int)(x:aO):aO:=⟨x.labels,ek x.samples t tb,0⟩
def CL (M:List Mr)(x:aO):Bool:=uG M x.labels&&decide (0<x.samples.length)
def JP (S:List aO)(M:List Mr)(t tb:Int):List aO:=(S.map (IA t tb)).filter (CL M)
def yx (S:List aO)(M:List Mr)(t tb:Int):Int×List aO:=if lE M t tb then(0,JP S M t tb) else(1,[])
theorem JO(G:Nat)(sv lv mv:Value)(S:List aO)(M:List Mr)(f ge kd t tb og:Int)(u:Nat)(w:World)(hG:ag w G 158 (l4 sv f (.int .i64 ge) kd lv mv t tb u og (.slice none 0 0)))
 (h:aM w sv S) (hM:iG w mv M) (hb0:∀m∈M,m.name.length<=1048576/\m.value.length<=1048576):
 Calls Tryz.prog 102 #[.pointer (some ⟨G,0,none⟩)] w (gI w G ge kd lv mv t tb u og ⟨S,f⟩ (yx S M t tb).1 0 (yx S M t tb).2 []):=by
 have HA:=af (show yx S M t tb=if lE M t tb then(0,JP S M t tb) else(1,[]) from rfl)
 have hlen:=h.len
 obtain⟨sa,sc,rfl,_⟩:=id h
 obtain⟨ma,mc,rfl,_⟩:=id hM
 obtain⟨N,hN⟩:∃N,S.length=N:=⟨_,rfl⟩
 have HN:=af hN
 have H:=af h
 rw[hN] at h H hlen hG
 have HG:=af hG
 have b1:=ai w (.cells #[.int .i64 0,.int .i64 0,.slice none 0 0] 62)
 have k1:=ag.new w 62 #[.int .i64 0,.int .i64 0,.slice none 0 0]
 have hGl:=hG.lt
 have q1:=af (wL G _ _ _ _ _ _ _ _ _ _ _ M _ (ag.alloc hG (.cells #[.int .i64 0,.int .i64 0,.slice none 0 0] 62)) (hM.below b1) hb0)
 have HM:=af hM
 have HR:=af (show JP S M t tb=((S.take N).map (IA t tb)).filter (CL M) by rw[List.take_of_length_le (by omega)];rfl)
 clear hG h hN hM hb0
 go_enter Tryz.func102,Tryz.ntmps102
 go_upto_region 1 with fail
 generalize hW0:w.alloc _=W0 at*
 clear hW0
 go_wp2_with fail
 refine bL q1.out fun w1 hb1=>?_
 have B1:=ay b1 hb1
 have kr:=ag.below k1 hb1 k1.lt
 have hs1:w.heap.size+1<=w1.heap.size:=kr.lt
 clear q1 b1 k1 hb1
 cases hask:lE M t tb with
 |false=>
  have HZ:=af (show yx S M t tb=(1,[]) by rw[HA.out,hask];rfl);have f0:=ag.frozen kr 0;have f1:=ag.frozen kr 1;have f2:=ag.frozen kr 2;have c0:=ax kr 0 (.int .i64 0) rfl;have c1:=ax kr 1 (.int .i64 0) rfl;have c2:=ax kr 2 (.slice none 0 0) rfl;obtain⟨n9,kA,kB⟩:=iL (ak.of_below (S:=fun k=>k=G) B1) (aF _) kr (.int .i64 1) (.int .i64 0) (.slice none 0 0);have hs9:=(H.out.below B1).an kr kB;have G9:=ag.keptK (ag.below HG.out B1 hGl) kB (show ¬(G=w.heap.size) by omega);clear HA kr kB hask;go_wp2_with fail
  refine bodyPost_ret (results_cell_row rfl _ _ w.heap.size 62 #[.int .i64 1,.int .i64 0,.slice none 0 0] (0,0) _ rfl n9 Tryz.underlying62 rfl (by kernel_rfl)) rfl ?_;unfold gI;rw[HZ.out];exact⟨_,_,.slice none 0 0,[],rfl,iu.nil _,hs9,G9,eE,by simp,rfl,kA⟩
 |true=>
 have HZ:=af (show yx S M t tb=(0,JP S M t tb) by rw[HA.out,hask];rfl)
 have y0:=ax (ag.below HG.out B1 hGl) 0 (.slice sa N sc) rfl
 have r0:w1.ownsRow (w.heap.size+1) 88 3 (.slice none 0 0) 0 (aL eT []):=eE
 clear HA hask
 go_wp2_with fail
 clear y0
 go_loopw [3,17] (fun vl vi wr=>∃(j:Nat) (Z:List (aO×Value×Value)),j<=N/\vi=.int .i64 (j:Int)/\Below w.heap.size w wr/\w.heap.size+1<=wr.heap.size/\ag wr w.heap.size 62 #[.int .i64 0,.int .i64 0,.slice none 0 0]/\wr.ownsRow (w.heap.size+1) 88 3 vl Z.length (aL eT Z)/\(∀z∈Z,ix wr vl z)/\Hid (Z.map (fun z=>z.1)=((S.take j).map (IA t tb)).filter (CL M))/\Z.length<=j) (fun _ vi _=>N-(intOf vi).toNat)
 case atStart=>exact⟨0,[],Nat.zero_le _,rfl,B1,hs1,kr,r0,by simp,af rfl,aF _⟩
 clear B1 hs1 kr r0
 obtain⟨j,Z,hj,rfl,hb,hs,kr,row,hF,HJ,hZj⟩:=hrel
 obtain⟨za,zc,rfl⟩:=aH row
 rcases(show j<N\/j=N by omega) with hjn|rfl
 ·have hjl:j<S.length:=by rw[HN.out];exact hjn
  have H':=H.out;obtain⟨gg,o,sl,sv,rfl,hV,d0,d1,d2⟩:=cq H' hjl hb;have hVw:∃sl0 sv0,jf w (S[j],sl0,sv0)/\sl0=sl:=by
   obtain⟨g2,o2,sl0,sv0,e,k1,k2,_⟩:=cq H' hjl (Below.refl _ w);have e2:=az e;cases e2;exact⟨sl0,sv0,k1,az ((cu hb k2).symm.trans d0)⟩
  clear H';have HS:=af (EM (IA t tb) (CL M) S hjl);generalize S[j]=y at*;clear hjl;obtain⟨yl,ys,b⟩:=y;have hlab:aC wr sl yl:=hV.2.1;have hsm:aI wr sv ys:=hV.2.2;have hok:(⟨yl,ys,b⟩:aO).ok:=hV.1;obtain⟨sl0,_,hV0,rfl⟩:=hVw;have hlab0:aC w sl0 yl:=hV0.2.1;clear hV hV0;obtain⟨ya,yc,rfl,_⟩:=id hlab;obtain⟨za2,zc2,rfl,_⟩:=id hsm;simp only at d0 d1 d2;have b3:=ai wr (.cells #[.slice ya yl.length yc,.slice za2 ys.length zc2,.int .i64 b] 88);have k3:=ag.new wr 88 #[.slice ya yl.length yc,.slice za2 ys.length zc2,.int .i64 b];have e1:=ax k3 1 (.slice za2 ys.length zc2) rfl;have B3:=ay hb b3;have G3:=ag.below HG.out B3 hGl;have q:=af (fun W (hW:Below wr.heap.size wr W)=>mL _ ys t tb W (hsm.below hW));have qA:=af (fun W (hW:Below wr.heap.size wr W)=>DY M _ yl _ W (HM.out.below (ay hb hW)) (hlab.below hW));have HRR:=af (And.intro row (And.intro hF (And.intro hlab (And.intro hlab0 hok))));have hHS:IA t tb ⟨yl,ys,b⟩=⟨yl,ek ys t tb,0⟩:=rfl;rw[hHS] at HS;clear hHS;generalize ek ys t tb=ys2 at*;clear row hF hlab hlab0 hsm hok;go_upto_region 7 with fail
  generalize hW3:wr.alloc _=W3 at*;clear hW3;have g1:=aj e1;have g6:=aj (ax G3 6 (.int .i64 t) rfl);have g7:=aj (ax G3 7 (.int .i64 tb) rfl);refine cB (R:=co) 12 100 (by kernel_rfl) (by kernel_rfl) (by kernel_rfl) ?_;simp only[List.take_succ_cons,List.take_zero,List.drop_succ_cons,List.drop_zero];iterate 12 (refine bJ fun K hK=>?_;go_big_quiet_step (fail);refine hK _ ?_;clear hK K)
  refine eR ?_;intro w4 hb4;simp only[aB];unfold bF;have B4:=ay b3 hb4;clear g1 g6 g7;go_wp2_with fail
  refine(q.out _ B4).mono ?_;rintro e w5 ⟨v2,rfl,hs2,hb5,hfr⟩;have k4:=ag.below k3 (ay hb4 hb5) k3.lt;have B5:=ay B4 hb5;have hlen2:=hs2.len;obtain⟨ba,bc,rfl,_⟩:=id hs2;have z0:=ax k4 0 (.slice ya yl.length yc) rfl;have BW:=ay hb B5;have G5:=ag.below HG.out BW hGl;have z5:=ax G5 5 (.slice ma M.length mc) rfl;have hwk:wr.heap.size<W3.heap.size:=k3.lt;have hfr2:∀k,(Value.slice ba ys2.length bc).ownBlock=some k->wr.heap.size<k:=fun k e=>by have:=hfr k e;have:=hb4.size;omega
  clear q hfr hb4 hb5 k3 e1 b3 B4 B3 G3;have g0:=aj z0;have g5:=aj z5;obtain⟨row,hF,hlab,hlab0,hok⟩:=HRR.out;have hlt:=row.lt;have hw9:IntKind.i64.wrap ((j:Int)+1)=(j:Int)+1:=ct _ (by omega);by_cases hp:CL M ⟨yl,ys2,0⟩=true
  ·have hp':=hp;unfold CL at hp';rw[Bool.and_eq_true,decide_eq_true_eq] at hp';obtain⟨hAll,hpos⟩:=hp';have hAll:uG M yl=true:=hAll;have hpos:0<ys2.length:=hpos;have hposi:(0:Int)<(ys2.length:Int):=by omega
   rw[hAll] at qA;rw[if_pos hp] at HS;go_wp2_with fail
   refine dY ?_;iterate 7 (refine bJ fun K hK=>?_;go_big_quiet_step (fail);refine hK _ ?_;clear hK K)
   (refine fS (f:=167) (args:=#[.slice ma M.length mc,.slice ya yl.length yc]) (v:=.bool true) (fun W hW=>qA.out W (B5.trans (Below.mono hW B5.size))) fun K hK=>?_;go_big_quiet_step (fail);refine hK _ ?_;clear hK K);iterate 2 (refine bJ fun K hK=>?_;go_big_quiet_step (fail);refine hK _ ?_;clear hK K)
   (refine nw (v:=.int .i64 (ys2.length:Int)) (fun _ _=>by go_simp) fun K hK=>?_;go_big_quiet_step (fail);refine hK _ ?_;clear hK K);iterate 2 (refine bJ fun K hK=>?_;go_big_quiet_step (fail);refine hK _ ?_;clear hK K)
   refine eR ?_;intro w6 hb6;simp only[aB];have B6:=ay B5 hb6;have hs3:=hs2.below hb6;have k6:=ag.below k4 hb6 k4.lt;have kr6:=ag.below kr B6 kr.lt;have row6:=aw row (ak.of_below (S:=fun _=>False) B6) (fun _ _ e=>e);have hbW:=ay hb B6;have B6s:=B6.size;clear g0 g5 z0 z5 qA hs2 hb6 k4 G5;have z0:=ax k6 0 (.slice ya yl.length yc) rfl;clear row hp hAll;go_wp2_with (at_builtin;(refine l7 ii rfl _ _ rfl rfl row6 [.slice ya yl.length yc,.slice ba ys2.length bc,.int .i64 0] rfl rfl rfl (by simp[Value.oneCell']) (by omega) (aK hs B6s) ?_);intro sa' sc' w7 hown' hk7 hloc)
   have hnb:¬((Value.slice za Z.length zc).ownBlock=some w.heap.size):=fun e=>by have:=(hlt _ e).1;omega
   have HC:=af (show Below w.heap.size w w7/\w.heap.size+1<=w7.heap.size/\ag w7 w.heap.size 62 #[.int .i64 0,.int .i64 0,.slice none 0 0]/\w7.ownsRow (w.heap.size+1) 88 3 (.slice sa' (Z.length+1) sc') (Z++[((⟨yl,ys2,0⟩:aO),Value.slice ya yl.length yc,Value.slice ba ys2.length bc)]).length (aL eT (Z++[((⟨yl,ys2,0⟩:aO),Value.slice ya yl.length yc,Value.slice ba ys2.length bc)]))/\(∀z∈Z++[((⟨yl,ys2,0⟩:aO),Value.slice ya yl.length yc,Value.slice ba ys2.length bc)],ix w7 (.slice sa' (Z.length+1) sc') z) from by
    have hst:∀z,ix w6 (.slice za Z.length zc) z->ix w7 (.slice sa' (Z.length+1) sc') z:=fun z hz=>by
     have h1:=hz.turn hloc
     have h2:=hz.kept hk7
     exact⟨h2.1,h1.2⟩
    refine⟨hbW.trans (hk7.below hbW.size fun k e=>by have:=(hlt k e).1;omega),aK (aK hs B6s) hk7.size,ag.keptK kr6 hk7 hnb,by rw[dO,gE,aG];exact hown',fun z hz=>?_⟩
    rcases List.mem_append.1 hz with hz|hz
    ·exact hst z ((hF z hz).below B6)
    ·obtain rfl:=List.mem_singleton.1 hz
     exact hst _ ⟨⟨⟨eq hs3,(show (-9223372036854775808:Int)<=0 by decide),(show (0:Int)<=9223372036854775807 by decide)⟩,hlab.below B6,hs3⟩,mp hlab0 fun k e=>by have:=(hlt k e).1;omega,pd (fun k e=>(hlt k e).2) fun k e=>by have:=hfr2 k e;omega⟩)
   clear hown' hk7 hloc kr6 hs3 B6 row6 hF hlab hlab0 hok z0 hlt hbW hnb HRR k6;go_roundw
   case rel=>
    obtain⟨c1,c2,c3,c4,c5⟩:=HC.out;refine⟨j+1,_,hjn,by go_num,c1,c2,c3,c4,c5,af ?_,by rw[aG];simp;omega⟩;rw[HS.out,List.map_append,HJ.out];rfl
   case measure=>simp[intOf];omega
  ·cases hAll:uG M yl with
   |true=>
    have hz0:ys2.length=0:=by
     unfold CL at hp;rw[Bool.and_eq_true,decide_eq_true_eq] at hp;have hp2:¬(0<ys2.length):=fun h=>hp ⟨hAll,h⟩;omega
    have hposi:¬((0:Int)<(ys2.length:Int)):=by omega
    rw[hAll] at qA;clear hz0;go_wp2_with fail
    refine dY ?_;iterate 7 (refine bJ fun K hK=>?_;go_big_quiet_step (fail);refine hK _ ?_;clear hK K)
    (refine fS (f:=167) (args:=#[.slice ma M.length mc,.slice ya yl.length yc]) (v:=.bool true) (fun W hW=>qA.out W (B5.trans (Below.mono hW B5.size))) fun K hK=>?_;go_big_quiet_step (fail);refine hK _ ?_;clear hK K);iterate 2 (refine bJ fun K hK=>?_;go_big_quiet_step (fail);refine hK _ ?_;clear hK K)
    (refine nw (v:=.int .i64 (ys2.length:Int)) (fun _ _=>by go_simp) fun K hK=>?_;go_big_quiet_step (fail);refine hK _ ?_;clear hK K);iterate 2 (refine bJ fun K hK=>?_;go_big_quiet_step (fail);refine hK _ ?_;clear hK K)
    refine eR ?_;intro w6 hb6;simp only[aB];have B6:=ay B5 hb6;have hs3:=hs2.below hb6;have k6:=ag.below k4 hb6 k4.lt;have kr6:=ag.below kr B6 kr.lt;have row6:=aw row (ak.of_below (S:=fun _=>False) B6) (fun _ _ e=>e);have hbW:=ay hb B6;have B6s:=B6.size;clear g0 g5 z0 z5 qA hs2 hb6 k4 G5;clear row hlab hlab0 hok hs3 k6 hAll;go_wp2_with fail
    go_roundw
    case rel=>exact⟨j+1,Z,hjn,by go_num,hbW,aK hs B6s,kr6,row6,fun z hz=>(hF z hz).below B6,af (by rw[HS.out,if_neg hp,List.append_nil];exact HJ.out),by omega⟩
    case measure=>simp[intOf];omega
   |false=>
    rw[hAll] at qA;go_wp2_with fail
    refine dY ?_;iterate 7 (refine bJ fun K hK=>?_;go_big_quiet_step (fail);refine hK _ ?_;clear hK K)
    (refine fS (f:=167) (args:=#[.slice ma M.length mc,.slice ya yl.length yc]) (v:=.bool false) (fun W hW=>qA.out W (B5.trans (Below.mono hW B5.size))) fun K hK=>?_;go_big_quiet_step (fail);refine hK _ ?_;clear hK K)
    (refine bJ fun K hK=>?_;go_big_quiet_step (fail);refine hK _ ?_;clear hK K);iterate 3 (refine Du fun K hK=>?_;go_big_quiet_step (fail);refine hK _ ?_;clear hK K)
    (refine bJ fun K hK=>?_;go_big_quiet_step (fail);refine hK _ ?_;clear hK K);refine eR ?_;intro w6 hb6;simp only[aB];have B6:=ay B5 hb6;have hs3:=hs2.below hb6;have k6:=ag.below k4 hb6 k4.lt;have kr6:=ag.below kr B6 kr.lt;have row6:=aw row (ak.of_below (S:=fun _=>False) B6) (fun _ _ e=>e);have hbW:=ay hb B6;have B6s:=B6.size;clear g0 g5 z0 z5 qA hs2 hb6 k4 G5;clear row hlab hlab0 hok hs3 k6 hAll;go_wp2_with fail
    go_roundw
    case rel=>exact⟨j+1,Z,hjn,by go_num,hbW,aK hs B6s,kr6,row6,fun z hz=>(hF z hz).below B6,af (by rw[HS.out,if_neg hp,List.append_nil];exact HJ.out),by omega⟩
    case measure=>simp[intOf];omega
 ·have HI:=af (cV row rfl (by omega) fun z hz=>(hF z hz).1);rw[HJ.out] at HI;have f0:=ag.frozen kr 0;have f1:=ag.frozen kr 1;have f2:=ag.frozen kr 2;have c0:=ax kr 0 (.int .i64 0) rfl;have c1:=ax kr 1 (.int .i64 0) rfl;have c2:=ax kr 2 (.slice none 0 0) rfl;obtain⟨n9,kA,kB⟩:=iL (ak.of_below (S:=fun k=>k=G) hb) (aF _) kr (.int .i64 0) (.int .i64 0) (.slice za Z.length zc);have hI9:=HI.out.an kr kB;have hs9:=(H.out.below hb).an kr kB;have G9:=ag.keptK (ag.below HG.out hb hGl) kB (show ¬(G=w.heap.size) by omega);clear HI row hF kr kB;go_wp2_with fail
  refine bodyPost_ret (results_cell_row rfl _ _ w.heap.size 62 #[.int .i64 0,.int .i64 0,.slice za Z.length zc] (0,0) _ rfl n9 Tryz.underlying62 rfl (by kernel_rfl)) rfl ?_;unfold gI;rw[HZ.out];exact⟨_,_,.slice none 0 0,[],rfl,by rw[HR.out];exact hI9,hs9,G9,eE,by simp,rfl,kA⟩
def DX(K:Nat->Prop)(u:Value):Prop:=∀p n c,u=.slice (some p) n c->n≠0->¬K p.block
theorem aI.apart{w w':World}{K:Nat->Prop}{u:Value}{L:List cH}(h:aI w u L)(hk:ak w w' K)(hf:DX K u):aI w' u L:=by
 obtain⟨a,c,rfl,h2,h3,h4,h5⟩:=h;refine⟨a,c,rfl,h2,h3,h4,fun i x hx=>?_⟩;obtain⟨b,o,rfl,k1,k2,k3⟩:=h5 i x hx;have hn:L.length≠0:=by have:=(List.getElem?_eq_some_iff.1 hx).1;omega
 exact⟨b,o,rfl,k1,hk.cell k2 (hf ⟨b,o,none⟩ _ _ rfl hn),hk.cell k3 (hf ⟨b,o,none⟩ _ _ rfl hn)⟩
theorem Bk{w:World}{K:Nat->Prop}{u:Value}{L:List cH}(h:aI w u L)(hv:∀k,K k->w.heap.size<=k):DX K u:=by
 rintro p n c rfl hn e;obtain⟨a,c',h1,_,_,_,h3⟩:=h;obtain⟨rfl,rfl,rfl⟩:=Value.slice.inj h1;obtain⟨b,o,e2,_,k3,_⟩:=h3 0 L[0] (aV (by omega));cases e2;have:=World.block_lt_of_cell? _ _ k3;have:=hv _ e;simp at*;omega
def JK (G:Nat)(v rv:Value)(k:Nat):Prop:=v.ownBlock=some k\/k=G\/rv.ownBlock=some k
structure qD(w0 w:World)(G:Nat)(v rv:Value)(wr:World)(Z:List (aO×Value×Value))(R:List (Rc×Value)):Prop where
 below:Below w0.heap.size w0 wr
 kept:ak w wr (fun k=>k=G)
 sz:w.heap.size+1<=wr.heap.size
 row:wr.ownsRow (w.heap.size+1) 88 3 v Z.length (aL eT Z)
 rrow:wr.ownsRow (w.heap.size+1) 108 5 rv R.length (aU R)
 sep:∀k,v.ownBlock=some k->rv.ownBlock≠some k
 ser:∀z∈Z,z.1.ok/\aC w0 z.2.1 z.1.labels/\aI wr z.2.2 z.1.samples/\DX (JK G v rv) z.2.2
 labs:∀z∈R,aC w0 z.2 z.1.labels
section
variable {w0 w wr w':World} {G:Nat} {v rv:Value} {Z:List (aO×Value×Value)} {R:List (Rc×Value)}
theorem qD.serV(h:qD w0 w G v rv wr Z R){z:aO×Value×Value}(hz:z∈Z):jf wr z:=⟨(h.ser z hz).1,(h.ser z hz).2.1.below h.below,(h.ser z hz).2.2.1⟩
theorem qD.next(h:qD w0 w G v rv wr Z R)(hb:Below wr.heap.size wr w'):qD w0 w G v rv w' Z R:=
 ⟨h.below.trans (hb.mono h.below.size),h.kept.trans (ak.of_below hb),aK h.sz hb.size,aw h.row (ak.of_below (S:=fun _=>False) hb) (fun _ _ e=>e),aw h.rrow (ak.of_below (S:=fun _=>False) hb) (fun _ _ e=>e),h.sep,
  fun z hz=>⟨(h.ser z hz).1,(h.ser z hz).2.1,(h.ser z hz).2.2.1.below hb,(h.ser z hz).2.2.2⟩,h.labs⟩
theorem tU{S:Nat->Prop}{a b c:World}{K:Nat->Prop}(h:ak a b S)(k:ak b c K)(hK:∀i,K i->a.heap.size<=i\/S i):ak a c S:=
 ⟨k.os.trans h.os,k.tape.trans h.tape,k.output.trans h.output,aK h.size k.size,fun i hi hn=>(k.block i (dQ hi h.size) (fun e=>(hK i e).elim (fun h1=>Nat.not_le_of_gt hi h1) hn)).trans (h.block i hi hn)⟩
theorem qD.setSer(h:qD w0 w G v rv wr Z R)(hG:G<w.heap.size)(hG0:w0.heap.size<=G){g i:Nat}{z:aO×Value×Value}(hg:v.ownBlock=some g)(hz:Z[i]?=some z){u:Value}{L:List cH}(hs:aI wr u L)(hu:∀k,JK G v rv k->u.ownBlock≠some k):
 qD w0 w G v rv (wr.setCell ⟨g,i*3+1,none⟩ u) (Z.set i (⟨z.1.labels,L,z.1.last⟩,z.2.1,u)) R:=by
 have hgl:=(h.row.lt g hg).1
 have hkk:ak wr (wr.setCell ⟨g,i*3+1,none⟩ u) (fun k=>k=g):=ak.of_grown (ap _ _ _ _) fun k e=>(az e).symm
 have hua:DX (JK G v rv) u:=by rintro p n c rfl hn e;exact hu _ e rfl
 have hin:∀k,k=g->JK G v rv k:=fun k e=>.inl (by rw[hg,e])
 have hmem:=List.mem_of_getElem? hz
 refine⟨?_,tU h.kept hkk (fun k e=>Or.inl (by omega)),aK h.sz hkk.size,?_,aw h.rrow hkk fun k hk e=>by subst e;exact h.sep _ hg hk,h.sep,fun y hy=>?_,h.labs⟩
 ·exact h.below.trans (hkk.below h.below.size fun k e=>by omega)
 ·have:=cF (j:=i*3+1) (u:=u) h.row hg;rw[db (sz:=3) (fun _=>rfl) Z i 1 _ (⟨z.1.labels,L,z.1.last⟩,z.2.1,u) _ hz (by decide) rfl] at this;rw[List.length_set];exact this
 ·have hs':aI (wr.setCell ⟨g,i*3+1,none⟩ u) u L:=hs.apart hkk fun p n c e hn e2=>hua p n c e hn (hin _ e2);rcases List.mem_or_eq_of_mem_set hy with hy|rfl
  ·obtain⟨h1,h2,h3,h4⟩:=h.ser y hy;exact⟨h1,h2,h3.apart hkk fun p n c e hn e2=>h4 p n c e hn (hin _ e2),h4⟩
  ·obtain⟨h1,h2,_,_⟩:=h.ser z hmem;exact⟨⟨eq hs',h1.2⟩,h2,hs',hua⟩
theorem qD.app(h:qD w0 w G v rv wr Z R)(hG:G<w.heap.size)(hG0:w0.heap.size<=G){w1:World}{x:Rc}{sl:Value}{na:Option Addr}{nc:Nat}(hk:ak wr w1 (fun k=>rv.ownBlock=some k))(hl:aC w0 sl x.labels)
 (hrow:w1.ownsRow (w.heap.size+1) 108 5 (.slice na (R.length+1) nc) (R.length+1) (aU R++gq x sl)) (hloc:(Value.slice na (R.length+1) nc).ownBlock=rv.ownBlock\/∀k,(Value.slice na (R.length+1) nc).ownBlock=some k->wr.heap.size<=k):
 qD w0 w G v (.slice na (R.length+1) nc) (w1.setCell ⟨G,10,none⟩ (.slice na (R.length+1) nc)) Z (R++[(x,sl)]):=by
 have hkG:ak w1 (w1.setCell ⟨G,10,none⟩ (.slice na (R.length+1) nc)) (fun k=>k=G):=ak.of_grown (ap _ _ _ _) fun k e=>(az e).symm
 have hr:=h.rrow.lt
 have hv:=h.row.lt
 have B1:=h.below.trans (hk.below h.below.size fun k e=>by have:=(hr k e).1;omega)
 have hrow2:=hrow.lt
 refine⟨B1.trans (hkG.below B1.size fun k e=>by omega),tU (tU h.kept hk (fun k e=>Or.inl (by have:=(hr k e).1;omega))) hkG (fun k e=>Or.inr e),aK h.sz (aK hk.size hkG.size),?_,?_,fun k hk1 hk2=>?_,fun z hz=>?_,fun z hz=>?_⟩
 ·exact aw (aw h.row hk fun k h1 h2=>h.sep k h1 h2) hkG fun k h1 h2=>by have:=(hv k h1).1;omega
 ·have:=aw hrow hkG fun k h1 h2=>by have:=(hrow2 k h1).1;omega
  rw[show aU (R++[(x,sl)])=aU R++gq x sl by unfold aU;rw[List.flatMap_append];simp,aG];exact this
 ·rcases hloc with e|e
  ·exact h.sep k hk1 (e▸hk2)
  ·have:=e k hk2;have:=(hv k hk1).2;omega
 ·obtain⟨h1,h2,h3,h4⟩:=h.ser z hz;refine⟨h1,h2,(h3.apart hk fun p n c e hn e2=>h4 p n c e hn (.inr (.inr e2))).apart hkG fun p n c e hn e2=>h4 p n c e hn (.inr (.inl e2)),fun p n c e hn e2=>?_⟩;rcases e2 with e2|e2|e2
  ·exact h4 p n c e hn (.inl e2)
  ·exact h4 p n c e hn (.inr (.inl e2))
  ·rcases hloc with e3|e3
   ·exact h4 p n c e hn (.inr (.inr (e3▸e2)))
   ·obtain⟨a',c',h5,_,_,_,h6⟩:=h3;have h5':=h5.symm.trans e;obtain⟨rfl,e6,rfl⟩:=Value.slice.inj h5';obtain⟨b,o,e7,_,k3,_⟩:=h6 0 z.1.samples[0] (aV (by omega));cases e7;have:=World.block_lt_of_cell? _ _ k3;have:=e3 _ e2;simp at*;omega
 ·rcases List.mem_append.1 hz with hz|hz
  ·exact h.labs z hz
  ·obtain rfl:=List.mem_singleton.1 hz;exact hl
end
def rW (M:List Mr)(t tb:Int)(x:aO):Bool:=uG M x.labels&& !decide ((bV x.samples t tb).length=x.samples.length)
def yi (M:List Mr)(t tb:Int)(x:aO):aO:=if rW M t tb x then⟨x.labels,bV x.samples t tb,x.last⟩ else x
def pi (M:List Mr)(t tb:Int)(S:List aO):Nat:=S.foldl (fun n x=>n+if rW M t tb x then x.samples.length-(bV x.samples t tb).length else 0) 0
def yh (M:List Mr)(t tb:Int)(S:List aO):List Rc:=(S.filter (rW M t tb)).map fun x=>⟨1,x.labels,t,tb,0⟩
def eO(s:kt)(M:List Mr)(t tb:Int):kt×Int×Int×List Rc:=
 if lE M t tb then(⟨s.ser.map (yi M t tb),s.floor⟩,0,(pi M t tb s.ser:Int),yh M t tb s.ser) else(s,1,0,[])
theorem Fx(M:List Mr)(t tb:Int)(S:List aO){j:Nat}(h:j<S.length):pi M t tb (S.take (j+1))=pi M t tb (S.take j)+if rW M t tb S[j] then S[j].samples.length-(bV S[j].samples t tb).length else 0:=by
 unfold pi;rw[eM h,List.foldl_append];rfl
theorem Fw(M:List Mr)(t tb:Int)(S:List aO){j:Nat}(h:j<S.length):yh M t tb (S.take (j+1))=yh M t tb (S.take j)++if rW M t tb S[j] then[⟨1,S[j].labels,t,tb,0⟩] else[]:=by
 unfold yh;rw[eM h,List.filter_append,List.map_append];congr 1;cases hh:rW M t tb S[j]<;>simp[hh]
def rU (M:List Mr)(t tb:Int)(S:List aO)(j:Nat):List aO:=(S.take j).map (yi M t tb)++S.drop j
theorem zH(M:List Mr)(t tb:Int)(S:List aO){j:Nat}(h:j<S.length):(rU M t tb S j)[j]?=some S[j]:=by
 unfold rU;rw[List.getElem?_append_right (by simp;omega)];simp;rw[show j-min j S.length=0 by omega];simp[aV h]
theorem zG(M:List Mr)(t tb:Int)(S:List aO){j:Nat}(h:j<S.length):(rU M t tb S j).set j (yi M t tb S[j])=rU M t tb S (j+1):=by
 unfold rU;rw[List.set_append_right _ _ (by simp;omega),eM h,List.map_append,List.append_assoc];congr 1;rw[List.drop_eq_getElem_cons h,List.length_map,dp,show j-min j S.length=0 by omega];rfl
theorem EJ(M:List Mr)(t tb:Int)(S:List aO){j:Nat}(h:j<S.length)(hh:rW M t tb S[j]=false):rU M t tb S j=rU M t tb S (j+1):=by
 rw[<-zG M t tb S h,show yi M t tb S[j]=S[j] by unfold yi;rw[hh];rfl];obtain⟨h1,h2⟩:=List.getElem?_eq_some_iff.1 (zH M t tb S h);rw[<-h2,List.set_getElem_self]
theorem Cy(G:Nat)(sv lv mv:Value)(S:List aO)(M:List Mr)(f ge kd t tb og:Int)(u:Nat)(w0 w:World)(hG:ag w G 158 (l4 sv f (.int .i64 ge) kd lv mv t tb u og (.slice none 0 0)))
 (h:aM w0 sv S) (hM:iG w0 mv M) (hw:Below w0.heap.size w0 w) (hGw:w0.heap.size<=G) (hb0:∀m∈M,m.name.length<=1048576/\m.value.length<=1048576):
 Calls Tryz.prog 100 #[.pointer (some ⟨G,0,none⟩)] w (gI w G ge kd lv mv t tb u og (eO ⟨S,f⟩ M t tb).1 (eO ⟨S,f⟩ M t tb).2.1 (eO ⟨S,f⟩ M t tb).2.2.1 [] (eO ⟨S,f⟩ M t tb).2.2.2):=by
 have HA:=af (show eO ⟨S,f⟩ M t tb=if lE M t tb then(⟨S.map (yi M t tb),f⟩,0,(pi M t tb S:Int),yh M t tb S) else(⟨S,f⟩,1,0,[]) from rfl)
 have hlen:=h.len
 obtain⟨sa,sc,rfl,_⟩:=id h
 obtain⟨ma,mc,rfl,_⟩:=id hM
 obtain⟨N,hN⟩:∃N,S.length=N:=⟨_,rfl⟩
 have HN:=af hN
 have H:=af h
 have q3:=af (fun W (hb:Below w0.heap.size w0 W)=>fQ _ S w0 W h hb)
 rw[hN] at h H hlen hG q3
 have HG:=af hG
 have b1:=ai w (.cells #[.int .i64 0,.int .i64 0,.slice none 0 0] 62)
 have k1:=ag.new w 62 #[.int .i64 0,.int .i64 0,.slice none 0 0]
 have hGl:=hG.lt
 have q1:=af (wL G _ _ _ _ _ _ _ _ _ _ _ M _ (ag.alloc hG (.cells #[.int .i64 0,.int .i64 0,.slice none 0 0] 62)) ((hM.below hw).below b1) hb0)
 have HM:=af hM
 have HR:=af (show S.map (yi M t tb)=rU M t tb S N/\pi M t tb S=pi M t tb (S.take N)/\yh M t tb S=yh M t tb (S.take N) by
  rw[<-hN,List.take_of_length_le (aF _)]
  refine⟨?_,rfl,rfl⟩
  unfold rU
  rw[List.take_of_length_le (aF _),List.drop_length,List.append_nil])
 clear hG h hN hM hb0
 go_enter Tryz.func100,Tryz.ntmps100
 go_upto_region 1 with fail
 generalize hW0:w.alloc _=W0 at*
 clear hW0
 go_wp2_with fail
 refine bL q1.out fun w1 hb1=>?_
 have B1:=ay b1 hb1
 have kr:=ag.below k1 hb1 k1.lt
 have hs1:w.heap.size+1<=w1.heap.size:=kr.lt
 have G1:=ag.below HG.out B1 hGl
 have BB1:=ay hw B1
 have hws:=hw.size
 clear q1 b1 k1 hb1
 cases hask:lE M t tb with
 |false=>
  have HZ:=af (show eO ⟨S,f⟩ M t tb=(⟨S,f⟩,1,0,[]) by rw[HA.out,hask];rfl);have f0:=ag.frozen kr 0;have f1:=ag.frozen kr 1;have f2:=ag.frozen kr 2;have c0:=ax kr 0 (.int .i64 0) rfl;have c1:=ax kr 1 (.int .i64 0) rfl;have c2:=ax kr 2 (.slice none 0 0) rfl;obtain⟨n9,kA,kB⟩:=iL (ak.of_below (S:=fun k=>k=G) B1) (aF _) kr (.int .i64 1) (.int .i64 0) (.slice none 0 0);have hs9:=(H.out.below BB1).an kr kB;have G9:=ag.keptK G1 kB (show ¬(G=w.heap.size) by omega);clear HA kr kB hask;go_wp2_with fail
  refine bodyPost_ret (results_cell_row rfl _ _ w.heap.size 62 #[.int .i64 1,.int .i64 0,.slice none 0 0] (0,0) _ rfl n9 Tryz.underlying62 rfl (by kernel_rfl)) rfl ?_;unfold gI;rw[HZ.out];exact⟨_,_,.slice none 0 0,[],rfl,iu.nil _,hs9,G9,eE,by simp,rfl,kA⟩
 |true=>
 have HZ:=af (show eO ⟨S,f⟩ M t tb=(⟨S.map (yi M t tb),f⟩,0,(pi M t tb S:Int),yh M t tb S) by rw[HA.out,hask];rfl)
 have y0:=ax G1 0 (.slice sa N sc) rfl
 clear HA hask
 go_wp2_with fail
 refine(q3.out _ BB1).mono ?_
 rintro e w2 ⟨v1,Z,rfl,hZ,hV,hrow,hb2⟩
 obtain⟨ca,cc,hv1⟩:=aH hrow
 have hZl:=af (show Z.length=N by rw[<-HN.out,<-hZ,List.length_map])
 rw[hZl.out] at hv1
 subst hv1
 have G2:=ag.below G1 hb2 G1.lt
 have kr2:=ag.below kr hb2 kr.lt
 have B2:=ay B1 hb2
 have BB2:=ay BB1 hb2
 have hkG:ak w2 (w2.setCell ⟨G,0,none⟩ (.slice ca N cc)) (fun k=>k=G):=ak.of_grown (ap _ _ _ _) fun k e=>(az e).symm
 have G3:ag (w2.setCell ⟨G,0,none⟩ (.slice ca N cc)) G 158 (l4 (.slice ca N cc) f (.int .i64 ge) kd lv (.slice ma M.length mc) t tb u og (.slice none 0 0)):=ag.set_ G2 0 _
 have kr3:=ag.keptK kr2 hkG (show ¬(w.heap.size=G) by omega)
 have hrl:=hrow.lt
 have BB3:=BB2.trans (hkG.below BB2.size fun k e=>by omega)
 have hs2:w1.heap.size<=w2.heap.size:=hb2.size
 have I3:qD w0 w G (.slice ca N cc) (.slice none 0 0) (w2.setCell ⟨G,0,none⟩ (.slice ca N cc)) Z []:=
  ⟨BB3,(ak.of_below B2).trans hkG,aK (aK hs1 hs2) hkG.size,eJ (aw hrow hkG fun k hk e=>by have:=(hrl k hk).1;omega) hs1,eE,fun k _ e=>(by cases e),
   fun z hz=>⟨(hV z hz).1,(hV z hz).2.1,(hV z hz).2.2.below BB3,Bk (hV z hz).2.2 fun k hk=>by
    rcases hk with hk|hk|hk
    ·have:=(hrl k hk).1;omega
    ·omega
    ·cases hk⟩,fun z hz=>(by cases hz)⟩
 have hf0:=ag.frozen G2 0
 have y0:=ax G2 0 (.slice sa N sc) rfl
 have y1:=ax G3 0 (.slice ca N cc) rfl
 have HZ0:=af (show Z.map (fun z=>z.1)=rU M t tb S 0 by rw[hZ];unfold rU;simp)
 clear q3 hrow hrl hV hb2 G2 kr2 B2 BB2 hkG hZ G1 kr B1 BB1 hs1 hs2 BB3
 go_wp2_with fail
 generalize hW3:w2.setCell _ _=W3 at*
 clear hW3 hf0 y0 y1
 go_loopw [3,27] (fun vn vi wr=>∃(j:Nat) (rv:Value) (Z:List (aO×Value×Value)) (R:List (Rc×Value)),j<=N/\vi=.int .i64 (j:Int)/\vn=.int .i64 (pi M t tb (S.take j):Int)/\pi M t tb (S.take j)<=j*100000/\qD w0 w G (.slice ca N cc) rv wr Z R/\
  ag wr w.heap.size 62 #[.int .i64 0,.int .i64 0,.slice none 0 0]/\ag wr G 158 (l4 (.slice ca N cc) f (.int .i64 ge) kd lv (.slice ma M.length mc) t tb u og rv)/\Hid (Z.map (fun z=>z.1)=rU M t tb S j)/\Hid (R.map (fun z=>z.1)=yh M t tb (S.take j))/\R.length<=j/\Hid (Z.length=N)) (fun _ vi _=>N-(intOf vi).toNat)
 case atStart=>exact⟨0,_,Z,[],Nat.zero_le _,rfl,rfl,Nat.zero_le _,I3,kr3,G3,HZ0,af rfl,aF _,hZl⟩
 clear I3 kr3 G3 HZ0 hZl Z
 obtain⟨j,rv,Z,R,hj,rfl,rfl,hnc,I,kr,Gr,HZj,HRj,hRl,hZl⟩:=hrel
 obtain⟨ra,rc,rfl⟩:=aH I.rrow
 rcases(show j<N\/j=N by omega) with hjn|rfl
 ·have hjl:j<S.length:=by rw[HN.out];exact hjn
  have hjZ:j<Z.length:=by rw[hZl.out];exact hjn
  obtain⟨z,hz⟩:∃z,Z[j]?=some z:=⟨_,aV hjZ⟩
  have hzm:=List.mem_of_getElem? hz;have hzS:z.1=S[j]:=by
   have h1:=zH M t tb S hjl;rw[<-HZj.out,List.getElem?_map,hz] at h1;exact az h1
  have hzV:=I.ser z hzm;rcases I.row.2 with⟨_,h0⟩|⟨g,gcc,cur,e9,_⟩
  ·omega
  obtain⟨rfl,e10,e11⟩:=Value.slice.inj e9;clear e9 e10 e11;obtain⟨d0,d1,d2⟩:=d9 I.row hz;have HNs:=af (Fx M t tb S hjl);have HRs:=af (Fw M t tb S hjl);have HMs:=af (And.intro (zG M t tb S hjl) (EJ M t tb S hjl));rw[<-hzS] at HNs HRs HMs;generalize pi M t tb (S.take j)=dn at*;have hnx:=af (show ∀d,d<=100000->dn+d<=(j+1)*100000 from fun d h=>by rw[Nat.add_mul];omega);obtain⟨⟨yl,ys,b⟩,zl,zv⟩:=z;simp only at hzV d0 d1 d2;obtain⟨hok,hlab,hsm,hap⟩:=hzV;obtain⟨ya,yc,rfl,_⟩:=id hlab;obtain⟨za2,zc2,rfl,_⟩:=id hsm;have hgl:=I.row.lt g rfl;have b3:=ai wr (.cells #[.slice ya yl.length yc,.slice za2 ys.length zc2,.int .i64 b] 88);have k3:=ag.new wr 88 #[.slice ya yl.length yc,.slice za2 ys.length zc2,.int .i64 b];have e1:=ax k3 1 (.slice za2 ys.length zc2) rfl;have I3:=I.next b3;have G3:=ag.below Gr b3 Gr.lt;have q:=af (fun W (hW:Below wr.heap.size wr W)=>mI _ ys t tb W (hsm.below hW));have qA:=af (fun W (hW:Below wr.heap.size wr W)=>DY M _ yl _ W (HM.out.below (I.below.trans (hW.mono I.below.size))) (hlab.below (I.below.trans (hW.mono I.below.size))));have hys:=hsm.len;have HH:=af (show rW M t tb ⟨yl,ys,b⟩=(uG M yl&& !decide ((bV ys t tb).length=ys.length)) from rfl);have HC:=af (show yi M t tb ⟨yl,ys,b⟩=if rW M t tb ⟨yl,ys,b⟩ then⟨yl,bV ys t tb,b⟩ else⟨yl,ys,b⟩ from rfl);have hle:(bV ys t tb).length<=ys.length:=List.length_filter_le _ _;simp only at HNs HRs;clear hzS;generalize bV ys t tb=ys2 at*;go_upto_region 8 with fail
  generalize hW3:wr.alloc _=W3' at*;clear hW3;have g1:=aj e1;have g6:=aj (ax G3 6 (.int .i64 t) rfl);have g7:=aj (ax G3 7 (.int .i64 tb) rfl);refine cB (R:=co) 12 100 (by kernel_rfl) (by kernel_rfl) (by kernel_rfl) ?_;simp only[List.take_succ_cons,List.take_zero,List.drop_succ_cons,List.drop_zero];iterate 12 (refine bJ fun K hK=>?_;go_big_quiet_step (fail);refine hK _ ?_;clear hK K)
  refine eR ?_;intro w4 hb4;simp only[aB];unfold bF;have B4:=ay b3 hb4;clear g1 g6 g7;go_wp2_with fail
  refine(q.out _ B4).mono ?_;rintro e w5 ⟨v2,rfl,hs2,hb5,hfr⟩;have hb35:=ay hb4 hb5;have k5:=ag.below k3 hb35 k3.lt;have B5:=ay B4 hb5;obtain⟨ba,bc,rfl,_⟩:=id hs2;have hlen2:=hs2.len;have I5:=I3.next hb35;have kr5:=ag.below kr B5 kr.lt;have G5:=ag.below G3 hb35 G3.lt;have z0:=ax k5 0 (.slice ya yl.length yc) rfl;have z1:=ax k5 1 (.slice za2 ys.length zc2) rfl;have z5:=ax G5 5 (.slice ma M.length mc) rfl;have hwk:wr.heap.size<W3'.heap.size:=k3.lt;have hnew:∀k,(Value.slice ba ys2.length bc).ownBlock=some k->wr.heap.size<k:=fun k e=>by have:=hfr k e;have:=hb4.size;omega
  have hrr:=I.rrow.lt;have hGr:=Gr.lt;have hsz5:=hb35.size;have hw9:IntKind.i64.wrap ((j:Int)+1)=(j:Int)+1:=ct _ (by omega);clear q hfr hb4 hb5 hb35 k3 e1 b3 B4 G3 I3 d0 d1 d2 kr Gr;have g0:=aj z0;have gx:=aj z1;have g5:=aj z5;cases hAll:uG M yl with
  |false=>
   rw[hAll] at qA HH;have hhit:rW M t tb ⟨yl,ys,b⟩=false:=HH.out;go_wp2_with fail
   refine dY ?_;iterate 7 (refine bJ fun K hK=>?_;go_big_quiet_step (fail);refine hK _ ?_;clear hK K)
   (refine fS (f:=167) (args:=#[.slice ma M.length mc,.slice ya yl.length yc]) (v:=.bool false) (fun W hW=>qA.out W (B5.trans (Below.mono hW B5.size))) fun K hK=>?_;go_big_quiet_step (fail);refine hK _ ?_;clear hK K);iterate 2 (refine bJ fun K hK=>?_;go_big_quiet_step (fail);refine hK _ ?_;clear hK K)
   iterate 6 (refine Du fun K hK=>?_;go_big_quiet_step (fail);refine hK _ ?_;clear hK K)
   (refine bJ fun K hK=>?_;go_big_quiet_step (fail);refine hK _ ?_;clear hK K);refine eR ?_;intro w6 hb6;simp only[aB];have I6:=I5.next hb6;have hs6:=hs2.below hb6;have k6:=ag.below k5 hb6 k5.lt;have kr6:=ag.below kr5 hb6 kr5.lt;have G6:=ag.below G5 hb6 G5.lt;have hsz6:=hb6.size;clear g0 gx g5 z0 z1 z5 qA hs2 hb6 k5 kr5 G5 I5;clear hs6 k6 hok hlab hsm hap;go_wp2_with fail
   go_roundw
   case rel=>exact⟨j+1,_,Z,R,hjn,by go_num,by rw[HNs.out,hhit,if_neg (by decide),Nat.add_zero],by rw[HNs.out,hhit,if_neg (by decide)];exact hnx.out 0 (Nat.zero_le _),I6,kr6,G6,af (by rw[HZj.out];exact HMs.out.2 hhit),af (by rw[HRs.out,hhit,HRj.out];simp),by omega,hZl⟩
   case measure=>simp[intOf];omega
  |true=>
   rw[hAll] at qA HH;by_cases hq:ys2.length=ys.length
   ·have hhit:rW M t tb ⟨yl,ys,b⟩=false:=by rw[HH.out,decide_eq_true hq];rfl
    have hqi:(ys2.length:Int)=(ys.length:Int):=by omega
    have Hq:=af hq;clear hq;go_wp2_with fail
    refine dY ?_;iterate 7 (refine bJ fun K hK=>?_;go_big_quiet_step (fail);refine hK _ ?_;clear hK K)
    (refine fS (f:=167) (args:=#[.slice ma M.length mc,.slice ya yl.length yc]) (v:=.bool true) (fun W hW=>qA.out W (B5.trans (Below.mono hW B5.size))) fun K hK=>?_;go_big_quiet_step (fail);refine hK _ ?_;clear hK K);iterate 3 (refine bJ fun K hK=>?_;go_big_quiet_step (fail);refine hK _ ?_;clear hK K)
    (refine nw (v:=.int .i64 (ys2.length:Int)) (fun _ _=>by go_simp) fun K hK=>?_;go_big_quiet_step (fail);refine hK _ ?_;clear hK K);iterate 2 (refine bJ fun K hK=>?_;go_big_quiet_step (fail);refine hK _ ?_;clear hK K)
    (refine nw (v:=.int .i64 (ys.length:Int)) (fun _ _=>by go_simp) fun K hK=>?_;go_big_quiet_step (fail);refine hK _ ?_;clear hK K);iterate 2 (refine bJ fun K hK=>?_;go_big_quiet_step (fail);refine hK _ ?_;clear hK K)
    refine eR ?_;intro w6 hb6;simp only[aB];have I6:=I5.next hb6;have hs6:=hs2.below hb6;have k6:=ag.below k5 hb6 k5.lt;have kr6:=ag.below kr5 hb6 kr5.lt;have G6:=ag.below G5 hb6 G5.lt;have hsz6:=hb6.size;clear g0 gx g5 z0 z1 z5 qA hs2 hb6 k5 kr5 G5 I5;clear hs6 k6 hok hlab hsm hap;go_wp2_with fail
    go_roundw
    case rel=>exact⟨j+1,_,Z,R,hjn,by go_num,by rw[HNs.out,hhit,if_neg (by decide),Nat.add_zero],by rw[HNs.out,hhit,if_neg (by decide)];exact hnx.out 0 (Nat.zero_le _),I6,kr6,G6,af (by rw[HZj.out];exact HMs.out.2 hhit),af (by rw[HRs.out,hhit,HRj.out];simp),by omega,hZl⟩
    case measure=>simp[intOf];omega
   ·have hhit:rW M t tb ⟨yl,ys,b⟩=true:=by rw[HH.out,decide_eq_false hq];rfl
    have hqi:¬((ys2.length:Int)=(ys.length:Int)):=by omega
    go_wp2_with fail
    refine dY ?_;iterate 7 (refine bJ fun K hK=>?_;go_big_quiet_step (fail);refine hK _ ?_;clear hK K)
    (refine fS (f:=167) (args:=#[.slice ma M.length mc,.slice ya yl.length yc]) (v:=.bool true) (fun W hW=>qA.out W (B5.trans (Below.mono hW B5.size))) fun K hK=>?_;go_big_quiet_step (fail);refine hK _ ?_;clear hK K);iterate 3 (refine bJ fun K hK=>?_;go_big_quiet_step (fail);refine hK _ ?_;clear hK K)
    (refine nw (v:=.int .i64 (ys2.length:Int)) (fun _ _=>by go_simp) fun K hK=>?_;go_big_quiet_step (fail);refine hK _ ?_;clear hK K);iterate 2 (refine bJ fun K hK=>?_;go_big_quiet_step (fail);refine hK _ ?_;clear hK K)
    (refine nw (v:=.int .i64 (ys.length:Int)) (fun _ _=>by go_simp) fun K hK=>?_;go_big_quiet_step (fail);refine hK _ ?_;clear hK K);iterate 2 (refine bJ fun K hK=>?_;go_big_quiet_step (fail);refine hK _ ?_;clear hK K)
    refine eR ?_;intro w6 hb6;simp only[aB];have I6:=I5.next hb6;have hs6:=hs2.below hb6;have k6:=ag.below k5 hb6 k5.lt;have kr6:=ag.below kr5 hb6 kr5.lt;have G6:=ag.below G5 hb6 G5.lt;have hsz6:=hb6.size;clear g0 gx g5 z0 z1 z5 qA hs2 hb6 k5 kr5 G5 I5;have hgg:=hgl;have z1:=ax k6 1 (.slice za2 ys.length zc2) rfl;have y0:=ax G6 0 (.slice (some ⟨g,0,none⟩) N cc) rfl;have gf:=bq (j:=j*3+1) I6.row rfl;have gc:=(d9 I6.row hz).2.1;simp only at gc;have hw10:IntKind.i64.wrap ((ys.length:Int)-(ys2.length:Int))=(ys.length:Int)-(ys2.length:Int):=ct _ (by omega);have hw11:IntKind.i64.wrap ((dn:Int)+((ys.length:Int)-(ys2.length:Int)))=(dn:Int)+((ys.length:Int)-(ys2.length:Int)):=ct _ (by omega);have hjN:(j:Int)<(N:Int):=by omega
    have I7:=I6.setSer (u:=.slice ba ys2.length bc) hGl hGw rfl hz hs6 fun k hk e=>by
     have h1:=hnew k e;rcases hk with hk|hk|hk
     ·obtain rfl:=az hk;exact absurd h1 (by have:=hgg.2;simp at*;omega)
     ·omega
     ·have:=(hrr k hk).2;omega
    have hkg:ak w6 (w6.setCell ⟨g,j*3+1,none⟩ (.slice ba ys2.length bc)) (fun k=>k=g):=ak.of_grown (ap _ _ _ _) fun k e=>(az e).symm;have G7:=ag.keptK G6 hkg (show ¬(G=g) by omega);have k7:=ag.keptK k6 hkg (show ¬(wr.heap.size=g) by omega);have kr7:=ag.keptK kr6 hkg (show ¬(w.heap.size=g) by omega);have HQ:=af hq;clear hkg I6 G6 k6 kr6 hs6 hq hsm hap;go_upto_region 12 with fail
    generalize hW7:w6.setCell _ _=W7 at*;clear hW7 z1 y0 gf gc;have g10:=aj (ax G7 10 (.slice ra R.length rc) rfl);have g6:=aj (ax G7 6 (.int .i64 t) rfl);have g7:=aj (ax G7 7 (.int .i64 tb) rfl);have g0:=aj (ax k7 0 (.slice ya yl.length yc) rfl);go_wp2_with fail
    refine cB (R:=co) 19 0 (by kernel_rfl) (by kernel_rfl) (by kernel_rfl) ?_;simp only[List.take_succ_cons,List.take_zero,List.drop_succ_cons,List.drop_zero];iterate 17 (refine bJ fun K hK=>?_;go_big_quiet_step (fail);refine hK _ ?_;clear hK K)
    (refine nw (v:=.agg #[.int .i64 1,.slice ya yl.length yc,.int .i64 t,.int .i64 tb,.int .u64 0]) (fun _ _=>by go_simp) fun K hK=>?_;go_big_quiet_step (fail);refine hK _ ?_;clear hK K);refine js 97 1 [.int .i64 1,.slice ya yl.length yc,.int .i64 t,.int .i64 tb,.int .u64 0] (by kernel_rfl) (fun _ _ h=>by cases h) (by kernel_rfl) rfl 108 (fun W=>by go_simp) ?_;refine eR ?_;intro w8 hb8;simp only[aB];rintro x ⟨p,cp,rfl,hp,hcells⟩;unfold bF;have I8:=I7.next hb8;have G8:=ag.below G7 hb8 G7.lt;have kr8:=ag.below kr7 hb8 kr7.lt;have hrow8:=I8.rrow;have hsz8:=I8.sz;obtain⟨i0,z0',hin,hz0,hz1,hz2,hz3⟩:=ww.info;clear g10 g6 g7 g0 hp G7 kr7 I7 k7;go_wp2_with (at_builtin;(refine wpList_append_own_at _ rfl _ _ 22 rfl (w.heap.size+1) 108 i0 z0' 5 56 ww.und hin hz0 hz1 hz2 hz3 (by decide) _ R.length _ rfl hrow8 ⟨p,0,none⟩ 1 cp [.int .i64 1,.slice ya yl.length yc,.int .i64 t,.int .i64 tb,.int .u64 0] rfl rfl hcells (by simp[Value.oneCell']) (by unfold maxLen;omega) (by omega) hsz8 ?_);intro rv' w9 hown' hgrow hnil hloc;obtain⟨na9,nc9,rfl⟩:=aH hown';have hk9:ak w8 w9 (fun k=>(Value.slice ra R.length rc).ownBlock=some k):=ak.of_grown hgrow (fun k e=>e);have G9:=ag.keptK G8 hk9 (fun e=>by have:=(hrr G e).1;omega);have f10:=ag.frozen G9 10;have c10:=ax G9 10 (.slice ra R.length rc) rfl)
    have I9:=I8.app (x:=⟨1,yl,t,tb,0⟩) (sl:=.slice ya yl.length yc) hGl hGw hk9 hlab hown' (hloc.imp id fun e k hk=>by rw[e] at hk;have:=az hk;omega);have kr9:=ag.keptK kr8 hk9 (fun e=>by have:=(hrr _ e).1;omega);have hkX:ak w9 (w9.setCell ⟨G,10,none⟩ (.slice na9 (R.length+1) nc9)) (fun k=>k=G):=ak.of_grown (ap _ _ _ _) fun k e=>(az e).symm;have krX:=ag.keptK kr9 hkX (show ¬(w.heap.size=G) by omega);have GX:ag (w9.setCell ⟨G,10,none⟩ (.slice na9 (R.length+1) nc9)) G 158 (l4 (.slice (some ⟨g,0,none⟩) N cc) f (.int .i64 ge) kd lv (.slice ma M.length mc) t tb u og (.slice na9 (R.length+1) nc9)):=ag.set_ G9 10 _;clear hown' hgrow hnil hloc hk9 G9 G8 kr8 kr9 hkX hrow8 I8 hcells f10 c10;go_roundw
    case rel=>
     refine⟨j+1,_,_,_,hjn,by go_num,?_,?_,I9,krX,GX,af ?_,af ?_,?_,af ?_⟩
     ·rw[HNs.out,hhit,if_pos rfl];congr 1;omega
     ·rw[HNs.out,hhit,if_pos rfl];exact hnx.out _ (by omega)
     ·rw[List.map_set,HZj.out,<-HMs.out.1,HC.out,hhit,if_pos rfl]
     ·rw[List.map_append,HRj.out,HRs.out,hhit,if_pos rfl];rfl
     ·rw[aG];simp;omega
     ·rw[List.length_set];exact hZl.out
    case measure=>simp[intOf];omega
 ·have hat:=cV I.row rfl (by rw[hZl.out];omega) fun z hz=>I.serV hz;rw[HZj.out,<-HR.out.1] at hat;have f0:=ag.frozen kr 0;have f1:=ag.frozen kr 1;have f2:=ag.frozen kr 2;have c0:=ax kr 0 (.int .i64 0) rfl;have c1:=ax kr 1 (.int .i64 0) rfl;have c2:=ax kr 2 (.slice none 0 0) rfl;obtain⟨n9,kA,kB⟩:=iL I.kept (aF _) kr (.int .i64 0) (.int .i64 (pi M t tb (S.take j):Int)) (.slice none 0 0);have hs9:=hat.an kr kB;have G9:=ag.keptK Gr kB (show ¬(G=w.heap.size) by omega);have row9:=eJ (aw I.rrow kB fun k hk e=>by have:=(I.rrow.lt k hk).1;omega) (Nat.le_succ w.heap.size);have hlb:=I.labs;have hlbb:Below w0.heap.size w0 (((wr.setCell ⟨w.heap.size,0,none⟩ (.int .i64 0)).setCell ⟨w.heap.size,1,none⟩ (.int .i64 (pi M t tb (S.take j):Int))).setCell ⟨w.heap.size,2,none⟩ (.slice none 0 0)):=I.below.trans (kB.below I.below.size fun k e=>by omega);clear hat kr kB I Gr HZj;go_wp2_with fail
  refine bodyPost_ret (results_cell_row rfl _ _ w.heap.size 62 #[.int .i64 0,.int .i64 (pi M t tb (S.take j):Int),.slice none 0 0] (0,0) _ rfl n9 Tryz.underlying62 rfl (by kernel_rfl)) rfl ?_;unfold gI;rw[HZ.out];rw[HR.out.2.1,HR.out.2.2];exact⟨_,_,_,R,rfl,iu.nil _,hs9,G9,row9,fun z hz=>(hlb z hz).below hlbb,HRj.out,kA⟩
end
end Go.Proofs.YtcdgfajdlaeodaaGreatDoor
