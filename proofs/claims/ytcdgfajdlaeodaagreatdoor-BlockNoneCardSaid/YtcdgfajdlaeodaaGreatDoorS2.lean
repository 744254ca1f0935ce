/- Part 2 of the proof: contracts of functions, and plain laws. -/
import Derived.Test.YtcdgfajdlaeodaaGreatDoorS0
import Derived.Deep.Upon
import Derived.RangeFuncNested
import Derived.OwnWalkIn
import Derived.Test.YtcdgfajdlaeodaaGreatDoorChecked
import Derived.Lib.FrozenHead2
import Derived.RangeFuncBound
import Derived.Shelf.RegionOpen
import Derived.LoopNIn
import Derived.LoopIn
set_option maxRecDepth 100000
set_option maxHeartbeats 4000000
namespace Go.Proofs.YtcdgfajdlaeodaaGreatDoor
section
open Go.RowKit
class bE(R:World->World->Prop):Prop where
 refl:∀w,R w w
 trans:∀{a b c},R a b->R b c->R a c
 drew:∀w:World,R w {w with drawn:=w.drawn+1}
def RW (R:World->World->Prop)(w:World):Type:={w':World//R w w'}
def RW.w {R:World->World->Prop}{w:World}(x:RW R w):World:=x.1
theorem RW.is{R:World->World->Prop}{w:World}(x:RW R w):R w x.w:=x.2
instance {R:World->World->Prop}[bE R]{w:World}:Nonempty (RW R w):=⟨⟨w,bE.refl w⟩⟩
abbrev bn:=Value->World->Prop
def bn.keeps(R:World->World->Prop)(r:bn):Prop:=∀x w w',r x w->R w w'->r x w'
def gj(R:World->World->Prop)(P:Program)(ops:Array Oper)(w0:World)(o:Oper)(s:Tmp->bn)(r:bn):Prop:=
 ∀c w,R w0 w->(∀t∈o.looksAt ops,s t (c.eval (.tmp t)) w)->
  (Region.wanted o (yielded ops c.tmps)=false/\r undef w)\/
  (Region.wanted o (yielded ops c.tmps)=true/\∀Q Q',(∀x w',R w w'->r x w'->Q (c.put o.dst x) w')->o.wp P c w Q Q')
def aD(ops:Array Oper)(r:Nat->bn)(s:Tmp->bn):Nat->Tmp->bn
 |0=>s
 |k+1=>fun t=>if (ops[k]?).bind (·.dst)=some t then r k else aD ops r s k t
def iH(ops:Array Oper)(n:Nat):Prop:=
 ∀i o,ops[i]?=some o->(∀e∈o.after,Region.binds .any e=true->e.on<i)/\(∀t,o.dst=some t->t<n)/\
  ∀j p t,ops[j]?=some p->j≠i->p.dst=some t->o.dst≠some t/\(t∈o.looksAt ops->
   (j<i/\∃e∈o.after,Region.binds .any e=true/\e.on=j)\/(i<j/\∃e∈p.after,Region.binds .any e=true/\e.on=i))
def fo(ops:Array Oper)(n:Nat):Bool:=
 (List.range ops.size).all fun i=>match ops[i]? with
  |none=>true
  |some o=>o.after.toList.all (fun e=> !Region.binds .any e||decide (e.on<i))&&(match o.dst with|none=>true|some t=>decide (t<n))&&
   (List.range ops.size).all fun j=>decide (j=i)||match ops[j]? with
    |none=>true
    |some p=>match p.dst with
     |none=>true
     |some t=>decide (o.dst≠some t)&&(!(o.looksAt ops).contains t||
      (decide (j<i)&&o.after.toList.any fun e=>Region.binds .any e&&decide (e.on=j))||(decide (i<j)&&p.after.toList.any fun e=>Region.binds .any e&&decide (e.on=i)))
theorem aN{ops:Array Oper}{i:Nat}{o:Oper}(h:ops[i]?=some o):i<ops.size:=by
 rcases Nat.lt_or_ge i ops.size with hlt|hge
 ·exact hlt
 ·rw[Array.getElem?_eq_none hge] at h;cases h
theorem gU{ops:Array Oper}{n:Nat}(h:fo ops n=true):iH ops n:=by
 intro i o ho;unfold fo at h;rw[List.all_eq_true] at h;have hi:=h i (List.mem_range.2 (aN ho));rw[ho] at hi;simp only[Bool.and_eq_true] at hi;obtain⟨⟨h1,h2⟩,h3⟩:=hi;refine⟨fun e he hb=>?_,fun t ht=>?_,fun j p t hp hne ht=>?_⟩
 ·rw[List.all_eq_true] at h1;have:=h1 e (Array.mem_toList_iff.2 he);rw[hb] at this;simpa using this
 ·rw[ht] at h2;simpa using h2
 ·rw[List.all_eq_true] at h3;have:=h3 j (List.mem_range.2 (aN hp));rw[hp] at this;simp only[ht,hne,decide_false,Bool.false_or,Bool.and_eq_true,Bool.or_eq_true,decide_eq_true_eq] at this;obtain⟨k1,k2⟩:=this;refine⟨k1,fun hm=>?_⟩;rcases k2 with(k2|k2)|k2
  ·have:(o.looksAt ops).contains t=true:=List.contains_iff_mem.2 hm;rw[this] at k2;cases k2
  ·obtain⟨k3,k4⟩:=k2;rw[List.any_eq_true] at k4;obtain⟨e,he,hb⟩:=k4;simp only[Bool.and_eq_true,decide_eq_true_eq] at hb;exact .inl ⟨k3,e,Array.mem_toList_iff.1 he,hb.1,hb.2⟩
  ·obtain⟨k3,k4⟩:=k2;rw[List.any_eq_true] at k4;obtain⟨e,he,hb⟩:=k4;simp only[Bool.and_eq_true,decide_eq_true_eq] at hb;exact .inr ⟨k3,e,Array.mem_toList_iff.1 he,hb.1,hb.2⟩
section
variable {R:World->World->Prop} {P:Program} {ops:Array Oper} {n:Nat} {r:Nat->bn} {s:Tmp->bn} {w0:World} {a:Act}
theorem fy(hF:iH ops n){k j:Nat}{p:Oper}{t:Tmp}(hj:j<k)(hp:ops[j]?=some p)(ht:p.dst=some t):aD ops r s k t=r j:=by
 induction k with
 |zero=>omega
 |succ k ih=>
  unfold aD;by_cases hjk:j=k
  ·subst hjk;rw[hp];simp[ht]
  ·have hlt:j<k:=by omega
   rw[if_neg,ih hlt];intro h;cases hq:ops[k]? with
   |none=>rw[hq] at h;cases h
   |some q=>
    rw[hq] at h;exact((hF j p hp).2.2 k q t hq (by omega) h).1 ht
theorem eH{k:Nat}{t:Tmp}(h:∀j,j<k->(ops[j]?).bind (·.dst)≠some t):aD ops r s k t=s t:=by
 induction k with
 |zero=>rfl
 |succ k ih=>
  unfold aD;rw[if_neg (h k (by omega))];exact ih fun j hj=>h j (by omega)
structure gW(R:World->World->Prop)(ops:Array Oper)(r:Nat->bn)(w0:World)(a:Act)(listed:Array Bool)(c:Act)(w:World):Prop where
 size:listed.size=ops.size
 deps:∀j p,ops[j]?=some p->listed.getD j false=true->∀e∈p.after,Region.binds .any e=true->listed.getD e.on false=true
 done:∀j p t,ops[j]?=some p->listed.getD j false=true->p.dst=some t->r j (c.eval (.tmp t)) w
 rest:∀t,(∀j p,ops[j]?=some p->listed.getD j false=true->p.dst≠some t)->c.eval (.tmp t)=a.eval (.tmp t)
 frame:c.tmps.size=a.tmps.size
 defers:c.defers=a.defers
 below:R w0 w
theorem fc{c:Act}{t:Tmp}{x:Value}(h:t<c.tmps.size):(c.put (some t) x).eval (.tmp t)=x:=by
 simp[Act.eval,Act.put,h]
theorem eF{c:Act}{t u:Tmp}{x:Value}(h:u≠t):(c.put (some u) x).eval (.tmp t)=c.eval (.tmp t):=by
 simp[Act.eval,Act.put,Array.getElem?_setIfInBounds_ne h]
theorem tu{c:Act}{d:Option Tmp}{x:Value}:(c.put d x).tmps.size=c.tmps.size:=by
 cases d<;>simp[Act.put]
theorem mi{c:Act}{d:Option Tmp}{x:Value}:(c.put d x).defers=c.defers:=by
 cases d<;>rfl
theorem ly{l:Array Bool}{i:Nat}(h:l.getD i false=true):i<l.size:=by
 rcases Nat.lt_or_ge i l.size with hlt|hge
 ·exact hlt
 ·simp[hge] at h
theorem cU{l:Array Bool}{i:Nat}(h:i<l.size):(l.setIfInBounds i true).getD i false=true:=by
 simp[h]
theorem gW.step[bE R](hF:iH ops n)(hn:a.tmps.size=n)(hk:∀k,(r k).keeps R){listed:Array Bool}{c:Act}{w w':World}{i:Nat}{o:Oper}{x:Value}(h:gW R ops r w0 a listed c w)
 (ho:ops[i]?=some o) (hi:i∈Region.ready .any ops listed) (hw:R w w') (hr:r i x w'):gW R ops r w0 a (listed.setIfInBounds i true) (c.put o.dst x) w':=by
 obtain⟨hun,o',ho',hall⟩:=mem_ready.1 hi
 obtain rfl:o=o':=by rw[ho] at ho';exact az ho'
 have hil:i<listed.size:=by rw[h.size];exact aN ho
 have hset:∀j,(listed.setIfInBounds i true).getD j false=true->j=i\/listed.getD j false=true:=fun j hj=>by
  by_cases hij:i=j
  ·exact .inl hij.symm
  ·rw[getD_set_ne false hij] at hj;exact .inr hj
 refine⟨by simp[h.size],fun j p hp hj e he hb=>?_,fun j p t hp hj ht=>?_,fun t ht=>?_,by rw[tu,h.frame],by rw[mi,h.defers],bE.trans h.below hw⟩
 ·rcases hset j hj with rfl|hj
  ·rw[hp] at ho;cases ho;exact getD_set_true (hall e he hb)
  ·exact getD_set_true (h.deps j p hp hj e he hb)
 ·by_cases hji:j=i
  ·subst hji;rw[hp] at ho;cases ho;rw[ht,fc (by rw[h.frame,hn];exact(hF _ _ hp).2.1 t ht)];exact hr
  ·rcases hset j hj with rfl|hj
   ·exact absurd rfl hji
   ·have hne:o.dst≠some t:=((hF i o ho).2.2 j p t hp hji ht).1;have:(c.put o.dst x).eval (.tmp t)=c.eval (.tmp t):=by
     cases hd:o.dst with
     |none=>rfl
     |some u=>exact eF (fun e=>hne (by rw[hd,e]))
    rw[this];exact hk j _ _ _ (h.done j p t hp hj ht) hw
 ·have hne:o.dst≠some t:=ht i o ho (cU hil);have:(c.put o.dst x).eval (.tmp t)=c.eval (.tmp t):=by
   cases hd:o.dst with
   |none=>rfl
   |some u=>exact eF (fun e=>hne (by rw[hd,e]))
  rw[this];exact h.rest t fun j p hp hj=>ht j p hp (getD_set_true hj)
theorem gW.looks(hF:iH ops n){listed:Array Bool}{c:Act}{w:World}{i:Nat}{o:Oper}(h:gW R ops r w0 a listed c w)(ho:ops[i]?=some o)(hi:i∈Region.ready .any ops listed)
 (t:Tmp) (ht:t∈o.looksAt ops):aD ops r (fun t x _=>x=a.eval (.tmp t)) i t (c.eval (.tmp t)) w:=by
 obtain⟨hun,o',ho',hall⟩:=mem_ready.1 hi
 obtain rfl:o=o':=by rw[ho] at ho';exact az ho'
 have hil:i<listed.size:=by rw[h.size];exact aN ho
 have hunf:listed.getD i false≠true:=by
  intro hh;have:listed.getD i true=true:=by simp[hil] at hh⊢;exact hh
  rw[hun] at this;cases this
 by_cases hex:∃j,j<i/\∃p,ops[j]?=some p/\p.dst=some t
 ·obtain⟨j,hji,p,hp,hd⟩:=hex;rw[fy hF hji hp hd];rcases((hF i o ho).2.2 j p t hp (by omega) hd).2 ht with⟨_,e,he,hb,rfl⟩|⟨hlt,_⟩
  ·exact h.done _ p t hp (hall e he hb) hd
  ·omega
 ·rw[eH fun j hj hd=>hex ⟨j,hj,by
   cases hp:ops[j]? with
   |none=>rw[hp] at hd;cases hd
   |some p=>rw[hp] at hd;exact⟨p,rfl,hd⟩⟩]
  refine h.rest t fun j p hp hj hd=>?_;have hne:j≠i:=fun e=>hunf (e▸hj);rcases((hF i o ho).2.2 j p t hp hne hd).2 ht with⟨hlt,_⟩|⟨_,e,he,hb,rfl⟩
  ·exact hex ⟨j,hlt,p,hp,hd⟩
  ·exact hunf (h.deps j p hp hj e he hb)
theorem eQ(hF:iH ops n){listed:Array Bool}(hs:listed.size=ops.size)(h:Region.ready .any ops listed=[]):∀i,i<ops.size->listed.getD i false=true:=by
 intro i;induction i using Nat.strongRecOn with
 |_ i ih=>
  intro hi;rcases Bool.eq_false_or_eq_true (listed.getD i false) with ht|hf
  ·exact ht
  ·exfalso;have hmem:i∈Region.ready .any ops listed:=by
    refine mem_ready.2 ⟨?_,ops[i],Array.getElem?_eq_getElem hi,fun e he hb=>?_⟩
    ·have hil:i<listed.size:=by omega
     simp[hil] at hf⊢;exact hf
    ·have:=(hF i _ (Array.getElem?_eq_getElem hi)).1 e he hb;exact ih _ this (by omega)
   rw[h] at hmem;cases hmem
theorem cQ{l:Array Bool}{i:Nat}(h:i<l.size)(hf:l.getD i true=false):(l.setIfInBounds i true).toList.count false+1=l.toList.count false:=by
 have hl:i<l.toList.length:=by simpa using h
 have hx:l.toList[i]=false:=by simp[h] at hf;simpa using hf
 rw[Array.toList_setIfInBounds,List.count_set hl,hx];have:0<l.toList.count false:=List.count_pos_iff.2 (hx▸dK hl);show ((l.toList.count false-1)+0)+1=_;omega
theorem bC(n j:Nat):(Array.replicate n false).getD j false=false:=by
 rw[Array.getD_eq_getD_getElem?,Array.getElem?_replicate];split<;>rfl
theorem qF[bE R](hF:iH ops n)(hn:a.tmps.size=n)(hk:∀k,(r k).keeps R)(hS:∀i o,ops[i]?=some o->gj R P ops w0 o (aD ops r (fun t x _=>x=a.eval (.tmp t)) i) (r i))
 {Q:Exit->Act->World->Prop}
 (hQ:∀c w,R w0 w->c.tmps.size=a.tmps.size->c.defers=a.defers->(∀t,aD ops r (fun t x _=>x=a.eval (.tmp t)) ops.size t (c.eval (.tmp t)) w)->Q .normal c w):
 ∀(fuel:Nat) (listed:Array Bool) (c:Act) (w:World),listed.toList.count false<=fuel->gW R ops r w0 a listed c w->wpAny P .any ops Q fuel listed c w:=by
 have hend:∀(listed:Array Bool) (c:Act) (w:World),gW R ops r w0 a listed c w->Region.ready .any ops listed=[]->Q .normal c w:=fun listed c w h h0=>by
  have hall:=eQ hF h.size h0;refine hQ c w h.below h.frame h.defers fun t=>?_;by_cases hex:∃(j:Nat) (p:Oper),ops[j]?=some p/\p.dst=some t
  ·obtain⟨j,p,hp,hd⟩:=hex;rw[fy hF (aN hp) hp hd];exact h.done j p t hp (hall j (aN hp)) hd
  ·rw[eH fun j hj hd=>hex ⟨j,by
    cases hp:ops[j]? with
    |none=>rw[hp] at hd;cases hd
    |some p=>rw[hp] at hd;exact⟨p,rfl,hd⟩⟩]
   exact h.rest t fun j p hp _ hd=>hex ⟨j,p,hp,hd⟩
 intro fuel
 induction fuel with
 |zero=>
  intro listed c w hc h;have h0:Region.ready .any ops listed=[]:=by
   cases hr:Region.ready .any ops listed with
   |nil=>rfl
   |cons i l=>
    have hi:i∈Region.ready .any ops listed:=by rw[hr];exact List.mem_cons_self
    obtain⟨hun,o,ho,_⟩:=mem_ready.1 hi;have hil:i<listed.size:=by rw[h.size];exact aN ho
    have:=cQ hil hun;omega
  exact⟨h0,hend _ _ _ h h0⟩
 |succ fuel ih=>
  intro listed c w hc h;refine⟨hend _ _ _ h,fun i hi=>?_⟩;obtain⟨hun,o,ho,_⟩:=mem_ready.1 hi;have hil:i<listed.size:=by rw[h.size];exact aN ho
  have hcnt:=cQ hil hun;unfold wpOp;rw[ho];simp only[];rcases hS i o ho c w h.below (h.looks hF ho hi) with⟨h1,h2⟩|⟨h1,h2⟩
  ·rw[h1];exact ih _ _ _ (by omega) (h.step hF hn hk ho hi (bE.refl w) h2)
  ·rw[h1];exact .inl (h2 _ _ fun x w' hb hr=>ih _ _ _ (by omega) (h.step hF hn hk ho hi hb hr))
end
def ov(R:World->World->Prop)(P:Program)(ops:Array Oper)(w0:World)(Fin:(Tmp->bn)->Prop):List Oper->(Tmp->bn)->Prop
 |[],s=>Fin s
 |o::rest,s=>∃r:bn,r.keeps R/\gj R P ops w0 o s r/\ov R P ops w0 Fin rest (fun t=>if o.dst=some t then r else s t)
theorem pD{R:World->World->Prop}{P:Program}{ops:Array Oper}{w0:World}{Fin:(Tmp->bn)->Prop}:∀(l:List Oper) (k:Nat) (r:Nat->bn) (s0:Tmp->bn),(∀j,l[j]?=ops[k+j]?)->
 (∀j,j<k->(r j).keeps R)->(∀j o,j<k->ops[j]?=some o->gj R P ops w0 o (aD ops r s0 j) (r j))->ov R P ops w0 Fin l (aD ops r s0 k)->
 ∃r':Nat->bn,(∀j,(r' j).keeps R)/\(∀j o,ops[j]?=some o->gj R P ops w0 o (aD ops r' s0 j) (r' j))/\Fin (aD ops r' s0 (k+l.length))
 |[],k,r,s0,hl,h1,h2,h=>by
  have hs:∀m,m<=k->aD ops (fun j=>if j<k then r j else fun _ _=>True) s0 m=aD ops r s0 m:=by
   intro m;induction m with
   |zero=>intro _;rfl
   |succ m ih=>
    intro hm
    funext t;unfold aD;rw[ih (by omega),if_pos (show m<k by omega)]
  have hsz:∀j o,ops[j]?=some o->j<k:=fun j o ho=>by
   rcases Nat.lt_or_ge j k with hlt|hge
   ·exact hlt
   ·have:=hl (j-k);rw[show k+(j-k)=j by omega,ho] at this;cases this
  refine⟨fun j=>if j<k then r j else fun _ _=>True,fun j=>?_,fun j o ho=>?_,?_⟩
  ·by_cases hj:j<k
   ·simp only[hj,if_true];exact h1 j hj
   ·simp only[hj,if_false];exact fun _ _ _ _ _=>trivial
  ·have hj:=hsz j o ho;simp only[hj,if_true];rw[hs j (by omega)];exact h2 j o hj ho
  ·rw[List.length_nil,Nat.add_zero,hs k (aF _)];exact h
 |o::rest,k,r,s0,hl,h1,h2,h=>by
  obtain⟨q,hq,hsv,hrest⟩:=h;have ho:ops[k]?=some o:=by simpa using(hl 0).symm
  have hs:∀m,m<=k->aD ops (fun j=>if j=k then q else r j) s0 m=aD ops r s0 m:=by
   intro m;induction m with
   |zero=>intro _;rfl
   |succ m ih=>
    intro hm
    funext t;unfold aD;rw[ih (by omega),if_neg (show m≠k by omega)]
  have:=pD rest (k+1) (fun j=>if j=k then q else r j) s0 (fun j=>by have:=hl (j+1);simpa[Nat.add_assoc,Nat.add_comm 1 j] using this)
   (fun j hj=>by
    by_cases hjk:j=k
    ·simp only[hjk,if_true];exact hq
    ·simp only[hjk,if_false];exact h1 j (by omega))
   (fun j p hj hp=>by
    rw[hs j (by omega)]
    by_cases hjk:j=k
    ·subst hjk
     simp only[if_true]
     rw[hp] at ho;cases ho
     exact hsv
    ·simp only[hjk,if_false];exact h2 j p (by omega) hp)
   (by
    have:aD ops (fun j=>if j=k then q else r j) s0 (k+1)=fun t=>if o.dst=some t then q else aD ops r s0 k t:=by
     funext t
     show (if (ops[k]?).bind (·.dst)=some t then _ else _)=_
     rw[hs k (aF _),ho]
     simp
    rw[this]
    exact hrest)
  rwa[show k+1+rest.length=k+(o::rest).length by simp;omega] at this
theorem uR{R:World->World->Prop}[bE R]{P:Program}{id:Nat}{Q:Exit->Act->World->Prop}{a:Act}{w:World}{l:List Oper}(hm:P.follows .mixedOrders=true)(hB:fo l.toArray a.tmps.size=true)
 (h:ov R P l.toArray w (fun s=>∀c w',R w w'->c.tmps.size=a.tmps.size->c.defers=a.defers->(∀t,s t (c.eval (.tmp t)) w')->Q .normal c w') l (fun t x _=>x=a.eval (.tmp t))):
 (Code.region id l.toArray true).wp P Q a w:=by
 obtain⟨r,h1,h2,h3⟩:=pD (ops:=l.toArray) l 0 (fun _ _ _=>True) (fun t x _=>x=a.eval (.tmp t)) (fun j=>by simp) (fun j hj=>by omega) (fun j _ hj=>by omega) h
 refine wp_region_any hm ?_
 have hF:=gU hB
 refine qF hF rfl h1 h2 (fun c w' hb hs hd ht=>h3 c w' hb hs hd (by simpa using ht)) _ _ _ _ ?_ ⟨by simp,fun j p hp hj=>?_,fun j p t hp hj=>?_,fun _ _=>rfl,rfl,rfl,bE.drew w⟩
 ·rw[Array.toList_replicate];exact aK List.count_le_length (by simp)
 ·rw[bC] at hj;cases hj
 ·rw[bC] at hj;cases hj
def E4 (ops:Array Oper)(m:Nat):Bool:=
 decide (ops.size=m+1)&&(List.range m).all fun j=>(List.range ops.size).any fun k=>decide (j<k)&&match ops[k]? with
  |none=>false
  |some p=>p.after.toList.any fun e=>Region.binds .any e&&decide (e.on=j)
theorem Ca{ops:Array Oper}{m:Nat}(h:E4 ops m=true):ops.size=m+1/\∀j,j<m->∃k p,j<k/\ops[k]?=some p/\∃e∈p.after,Region.binds .any e=true/\e.on=j:=by
 unfold E4 at h;rw[Bool.and_eq_true,decide_eq_true_eq,List.all_eq_true] at h;refine⟨h.1,fun j hj=>?_⟩;have:=h.2 j (List.mem_range.2 hj);rw[List.any_eq_true] at this;obtain⟨k,hk,hb⟩:=this;rw[Bool.and_eq_true,decide_eq_true_eq] at hb;obtain⟨h1,h2⟩:=hb;cases hp:ops[k]? with
 |none=>rw[hp] at h2;cases h2
 |some p=>
  rw[hp] at h2;simp only[List.any_eq_true,Bool.and_eq_true,decide_eq_true_eq] at h2;obtain⟨e,he,hb⟩:=h2;exact⟨k,p,h1,hp,e,Array.mem_toList_iff.1 he,hb.1,hb.2⟩
section
variable {R:World->World->Prop} {P:Program} {ops:Array Oper} {n m:Nat} {r:Nat->bn} {w0:World} {a:Act}
theorem Dx(hsz:ops.size=m+1)(hl:∀j,j<m->∃k p,j<k/\ops[k]?=some p/\∃e∈p.after,Region.binds .any e=true/\e.on=j){listed:Array Bool}{c:Act}{w:World}(h:gW R ops r w0 a listed c w)
 (hm:m∈Region.ready .any ops listed):∀d j,j+d+1=m->listed.getD j false=true:=by
 intro d
 induction d using Nat.strongRecOn with
 |_ d ih=>
  intro j hj;obtain⟨k,p,hjk,hp,e,he,hb,rfl⟩:=hl j (by omega);have hk:k<ops.size:=aN hp;by_cases hkm:k=m
  ·subst hkm;obtain⟨_,o,ho,hall⟩:=mem_ready.1 hm;rw[hp] at ho;cases ho;exact hall e he hb
  ·exact h.deps k p hp (ih (m-1-k) (by omega) k (by omega)) e he hb
theorem vB[bE R](hF:iH ops n)(hn:a.tmps.size=n)(hk:∀k,(r k).keeps R)(hsz:ops.size=m+1)(hl:∀j,j<m->∃k p,j<k/\ops[k]?=some p/\∃e∈p.after,Region.binds .any e=true/\e.on=j)
 (hS:∀i o,i<m->ops[i]?=some o->gj R P ops w0 o (aD ops r (fun t x _=>x=a.eval (.tmp t)) i) (r i)) {Q:Exit->Act->World->Prop}
 (hQ:∀c w,R w0 w->c.tmps.size=a.tmps.size->c.defers=a.defers->(∀t,aD ops r (fun t x _=>x=a.eval (.tmp t)) m t (c.eval (.tmp t)) w)->wpOp P ops Q m (Q .normal) c w):
 ∀(fuel:Nat) (listed:Array Bool) (c:Act) (w:World),listed.toList.count false<=fuel->gW R ops r w0 a listed c w->listed.getD m true=false->wpAny P .any ops Q fuel listed c w:=by
 have hnot:∀(listed:Array Bool) (c:Act) (w:World),gW R ops r w0 a listed c w->listed.getD m true=false->Region.ready .any ops listed≠[]:=fun listed c w h hm h0=>by
  have:=eQ hF h.size h0 m (by omega);have hlt:=ly this;simp[hlt] at this hm;rw[hm] at this;cases this
 intro fuel
 induction fuel with
 |zero=>
  intro listed c w hc h hm;exfalso;have hml:m<listed.size:=by rw[h.size];omega
  have:=cQ hml hm;omega
 |succ fuel ih=>
  intro listed c w hc h hm;refine⟨fun h0=>absurd h0 (hnot _ _ _ h hm),fun i hi=>?_⟩;obtain⟨hun,o,ho,_⟩:=mem_ready.1 hi;have hil:i<listed.size:=by rw[h.size];exact aN ho
  have hcnt:=cQ hil hun;by_cases him:i=m
  ·subst him;have hall:=Dx hsz hl h hi;have hfit:∀t,aD ops r (fun t x _=>x=a.eval (.tmp t)) i t (c.eval (.tmp t)) w:=fun t=>by
    by_cases hex:∃(j:Nat) (p:Oper),j<i/\ops[j]?=some p/\p.dst=some t
    ·obtain⟨j,p,hji,hp,hd⟩:=hex;rw[fy hF hji hp hd];exact h.done j p t hp (hall (i-1-j) j (by omega)) hd
    ·rw[eH fun j hj hd=>hex ⟨j,by
      cases hp:ops[j]? with
      |none=>rw[hp] at hd;cases hd
      |some p=>rw[hp] at hd;exact⟨p,hj,rfl,hd⟩⟩]
     refine h.rest t fun j p hp hj hd=>hex ⟨j,p,?_,hp,hd⟩;have hjs:=aN hp;have hne:j≠i:=fun e=>by
      subst e;simp[hil] at hun hj;rw[hun] at hj;cases hj
     omega
   refine wpOp_mono (fun c' w' hq=>?_) (hQ c w h.below h.frame h.defers hfit);have hempty:Region.ready .any ops (listed.setIfInBounds i true)=[]:=by
    cases hr:Region.ready .any ops (listed.setIfInBounds i true) with
    |nil=>rfl
    |cons k l=>
     exfalso;have hk':k∈Region.ready .any ops (listed.setIfInBounds i true):=by rw[hr];exact List.mem_cons_self
     obtain⟨hku,p,hp,_⟩:=mem_ready.1 hk';have hks:=aN hp;have hkl:(listed.setIfInBounds i true).getD k false=true:=by
      by_cases hki:k=i
      ·subst hki;exact cU hil
      ·exact getD_set_true (hall (i-1-k) k (by omega))
     have hlt:=ly hkl;rw[Array.size_setIfInBounds] at hlt;simp[hlt] at hku hkl;rw[hku] at hkl;cases hkl
   cases fuel with
   |zero=>exact⟨hempty,hq⟩
   |succ fuel=>exact⟨fun _=>hq,fun k hk=>by rw[hempty] at hk;cases hk⟩
  ·have hlt:i<m:=by have:=aN ho;omega
   have hm':(listed.setIfInBounds i true).getD m true=false:=by rw[getD_set_ne true him];exact hm
   unfold wpOp;rw[ho];simp only[];rcases hS i o hlt ho c w h.below (h.looks hF ho hi) with⟨h1,h2⟩|⟨h1,h2⟩
   ·rw[h1];exact ih _ _ _ (by omega) (h.step hF hn hk ho hi (bE.refl w) h2) hm'
   ·rw[h1];exact .inl (h2 _ _ fun x w' hb hr=>ih _ _ _ (by omega) (h.step hF hn hk ho hi hb hr) hm')
end
def cw:List (Tmp×bn)->Tmp->Option bn
 |[],_=>none
 |(k,r)::H,t=>if k=t then some r else cw H t
def em (H:List (Tmp×bn))(a:Act):Tmp->bn:=fun t=>match cw H t with
 |some r=>r
 |none=>fun x _=>x=a.eval (.tmp t)
def bQ(R:World->World->Prop)(P:Program)(ops:Array Oper)(w0:World)(n:Nat)(ds:List Deferred)(F:Act->World->Prop)(l:List Oper)(H:List (Tmp×bn))(a:Act):Prop:=
 ov R P ops w0 (fun s=>∀c w',R w0 w'->c.tmps.size=n->c.defers=ds->(∀t,s t (c.eval (.tmp t)) w')->F c w') l (em H a)
theorem ou{R:World->World->Prop}[bE R]{P:Program}{id:Nat}{Q:Exit->Act->World->Prop}{a:Act}{w:World}{l:List Oper}(hm:P.follows .mixedOrders=true)(hB:fo l.toArray a.tmps.size=true)
 (h:bQ R P l.toArray w a.tmps.size a.defers (Q .normal) l [] a):(Code.region id l.toArray true).wp P Q a w:=uR hm hB h
def aB:List (Tmp×bn)->Act->World->(Act->Prop)->Prop
 |[],a,_,F=>F a
 |(k,r)::H,a,w,F=>∀x,r x w->aB H (a.put (some k) x) w F
def oj:List (Tmp×bn)->Bool
 |[]=>true
 |(k,_)::H=>(cw H k).isNone&&oj H
theorem mu:∀(H:List (Tmp×bn)) (a:Act) (w:World) (F:Act->Prop),oj H=true->aB H a w F->∀c:Act,c.tmps.size=a.tmps.size->c.defers=a.defers->(∀t,em H a t (c.eval (.tmp t)) w)->F c
 |[],a,w,F,_,h,c,h1,h2,h3=>by
  have:c=a:=by
   cases c;cases a;simp only at h1 h2;subst h2;congr 1;apply Array.ext h1;intro i hi hj;have:=h3 i;unfold em cw at this;simpa[Act.eval,hi,hj] using this
  exact this▸h
 |(k,r)::H,a,w,F,hap,h,c,h1,h2,h3=>by
  unfold oj at hap;rw[Bool.and_eq_true] at hap;have hr:r (c.eval (.tmp k)) w:=by
   have:=h3 k;unfold em cw at this;simpa using this
  refine mu H _ w F hap.2 (h (c.eval (.tmp k)) hr) c (by rw[tu];exact h1) (by rw[mi];exact h2) fun t=>?_;by_cases hk:k=t
  ·subst hk;unfold em;cases hh:cw H k with
   |some q=>rw[hh] at hap;cases hap.1
   |none=>
    simp only[];rcases Nat.lt_or_ge k a.tmps.size with hlt|hge
    ·rw[fc hlt]
    ·have e1:c.eval (.tmp k)=undef:=by simp[Act.eval,show c.tmps.size<=k by omega]
     have e2:∀x,(a.put (some k) x).eval (.tmp k)=undef:=fun x=>by simp[Act.eval,Act.put,hge]
     rw[e2];exact e1
  ·have:=h3 t;unfold em at this⊢;rw[show cw ((k,r)::H) t=if k=t then some r else cw H t from rfl,if_neg hk] at this;rw[eF hk];exact this
theorem nf{R:World->World->Prop}[bE R]{P:Program}{id:Nat}{Q:Exit->Act->World->Prop}{a:Act}{w:World}{l:List Oper}{oL:Oper}(hm:P.follows .mixedOrders=true)(hB:fo l.toArray a.tmps.size=true)
 (hL:l.getLast?=some oL) (hD:E4 l.toArray (l.length-1)=true) (h:bQ R P l.toArray w a.tmps.size a.defers (fun c w'=>wpList P l.toArray Q [oL] c w') l.dropLast [] a):(Code.region id l.toArray true).wp P Q a w:=by
 have hF:=gU hB
 obtain⟨hsz,hl⟩:=Ca hD
 have hlen:l.length=(l.length-1)+1:=by simpa using hsz
 have hget:∀j,j<l.length-1->l.dropLast[j]?=l.toArray[j]?:=fun j hj=>by
  rw[List.getElem?_dropLast];simp[hj]
 have key:∀(rest:List Oper) (k:Nat) (r:Nat->bn),k+rest.length=l.length-1->(∀j,j<rest.length->rest[j]?=l.toArray[k+j]?)->
  (∀j,j<k->(r j).keeps R)->(∀j o,j<k->l.toArray[j]?=some o->gj R P l.toArray w o (aD l.toArray r (fun t x _=>x=a.eval (.tmp t)) j) (r j))->
  ov R P l.toArray w (fun s=>∀c w',R w w'->c.tmps.size=a.tmps.size->c.defers=a.defers->(∀t,s t (c.eval (.tmp t)) w')->wpList P l.toArray Q [oL] c w') rest (aD l.toArray r (fun t x _=>x=a.eval (.tmp t)) k)->
  ∃r':Nat->bn,(∀j,(r' j).keeps R)/\(∀j o,j<l.length-1->l.toArray[j]?=some o->gj R P l.toArray w o (aD l.toArray r' (fun t x _=>x=a.eval (.tmp t)) j) (r' j))/\
   ∀c w',R w w'->c.tmps.size=a.tmps.size->c.defers=a.defers->(∀t,aD l.toArray r' (fun t x _=>x=a.eval (.tmp t)) (l.length-1) t (c.eval (.tmp t)) w')->wpList P l.toArray Q [oL] c w':=by
  intro rest
  induction rest with
  |nil=>
   intro k r hk _ h1 h2 h3;have hk':k=l.length-1:=by simpa using hk
   have hs:∀q,q<=k->aD l.toArray (fun j=>if j<k then r j else fun _ _=>True) (fun t x _=>x=a.eval (.tmp t)) q=aD l.toArray r (fun t x _=>x=a.eval (.tmp t)) q:=by
    intro q;induction q with
    |zero=>intro _;rfl
    |succ q ih=>
     intro hq
     funext t;unfold aD;rw[ih (by omega),if_pos (show q<k by omega)]
   refine⟨fun j=>if j<k then r j else fun _ _=>True,fun j=>?_,fun j o hj ho=>?_,?_⟩
   ·by_cases hj:j<k
    ·simp only[hj,if_true];exact h1 j hj
    ·simp only[hj,if_false];exact fun _ _ _ _ _=>trivial
   ·have hj':j<k:=by omega
    simp only[hj',if_true];rw[hs j (by omega)];exact h2 j o hj' ho
   ·rw[<-hk',hs k (aF _)];exact h3
  |cons o rest ih=>
   intro k r hk hl' h1 h2 h3;obtain⟨q,hq,hsv,hrest⟩:=h3;have ho:l.toArray[k]?=some o:=by simpa using(hl' 0 (by simp)).symm
   have hs:∀m,m<=k->aD l.toArray (fun j=>if j=k then q else r j) (fun t x _=>x=a.eval (.tmp t)) m=aD l.toArray r (fun t x _=>x=a.eval (.tmp t)) m:=by
    intro m;induction m with
    |zero=>intro _;rfl
    |succ m ih=>
     intro hm
     funext t;unfold aD;rw[ih (by omega),if_neg (show m≠k by omega)]
   refine ih (k+1) (fun j=>if j=k then q else r j) (by simp at hk;omega) (fun j hj=>?_) (fun j hj=>?_) (fun j p hj hp=>?_) ?_
   ·have:=hl' (j+1) (by simp;omega);rw[show k+1+j=k+(j+1) by omega,<-this];simp
   ·by_cases hjk:j=k
    ·simp only[hjk,if_true];exact hq
    ·simp only[hjk,if_false];exact h1 j (by omega)
   ·rw[hs j (by omega)];by_cases hjk:j=k
    ·subst hjk;simp only[if_true];rw[hp] at ho;cases ho;exact hsv
    ·simp only[hjk,if_false];exact h2 j p (by omega) hp
   ·have:aD l.toArray (fun j=>if j=k then q else r j) (fun t x _=>x=a.eval (.tmp t)) (k+1)=fun t=>if o.dst=some t then q else aD l.toArray r (fun t x _=>x=a.eval (.tmp t)) k t:=by
     funext t;show (if (l.toArray[k]?).bind (·.dst)=some t then _ else _)=_;rw[hs k (aF _),ho];simp
    rw[this];exact hrest
 obtain⟨r,h1,h2,h3⟩:=key l.dropLast 0 (fun _ _ _=>True) (by simp) (fun j hj=>by rw[Nat.zero_add];exact hget j (by simpa using hj)) (fun j hj=>by omega) (fun j _ hj=>by omega) h
 refine wp_region_any hm ?_
 have hlast:l.toArray[l.length-1]?=some oL:=by rw[<-hL,List.getLast?_eq_getElem?];simp
 refine vB hF rfl h1 hsz hl h2 (fun c w' hb hs hd ht=>?_) _ _ _ _ ?_ ⟨by simp,fun j p hp hj=>?_,fun j p t hp hj=>?_,fun _ _=>rfl,rfl,rfl,bE.drew w⟩ ?_
 ·have:=h3 c w' hb hs hd ht;unfold wpOp;rw[hlast];exact this
 ·rw[Array.toList_replicate];exact aK List.count_le_length (by simp)
 ·rw[bC] at hj;cases hj
 ·rw[bC] at hj;cases hj
 ·rw[Array.getD_eq_getD_getElem?,Array.getElem?_replicate,if_pos (by rw[List.size_toArray];omega)];rfl
section
variable {R:World->World->Prop} {P:Program} {ops:Array Oper} {w0:World} {n:Nat} {ds:List Deferred} {F:Act->World->Prop} {rest:List Oper} {H:List (Tmp×bn)} {a:Act} {o:Oper}
theorem Jz(h1:a.tmps.size=n)(h2:a.defers=ds)(h0:oj H=true)(h:∀w',R w0 w'->aB H a w' (fun c=>F c w')):bQ R P ops w0 n ds F [] H a:=by
 intro c w' hb hs hd ht;exact mu H a w' _ h0 (h w' hb) c (hs.trans h1.symm) (hd.trans h2.symm) ht
def bi(ops:Array Oper)(H:List (Tmp×bn))(o:Oper):Bool:=(o.looksAt ops).all fun t=>(cw H t).isNone
def br(H:List (Tmp×bn))(a:Act):Option Tmp->Bool
 |none=>true
 |some d=>decide (d<a.tmps.size)&&(cw H d).isNone
theorem cr(hl:bi ops H o=true){c:Act}{w:World}(h:∀t∈o.looksAt ops,em H a t (c.eval (.tmp t)) w):∀t∈o.looksAt ops,c.eval (.tmp t)=a.eval (.tmp t):=fun t ht=>by
 have h1:=h t ht;have h2:=List.all_eq_true.1 hl t ht;unfold em at h1;cases hh:cw H t with
 |none=>rw[hh] at h1;exact h1
 |some r=>rw[hh] at h2;cases h2
theorem bO(hs:∀cs b,o.op≠.select cs b){c:Act}(h:∀t∈o.looksAt ops,c.eval (.tmp t)=a.eval (.tmp t)):execOp c.eval o=execOp a.eval o:=
 execOp_congr o hs fun x hx=>by
  cases x with
  |tmp t=>exact h t (List.mem_append_left _ (List.mem_filterMap.2 ⟨.tmp t,by simpa using hx,rfl⟩))
  |_=>rfl
theorem bz{c:Act}(h:∀g b t,o.guard=some (g,b)->(ops[g]?).bind (·.dst)=some t->c.eval (.tmp t)=a.eval (.tmp t)):Region.wanted o (yielded ops c.tmps)=Region.wanted o (yielded ops a.tmps):=by
 unfold Region.wanted;cases hg:o.guard with
 |none=>rfl
 |some gb=>
  obtain⟨g,b⟩:=gb;have:yielded ops c.tmps g=yielded ops a.tmps g:=by
   unfold yielded;cases ht:(ops[g]?).bind (·.dst) with
   |none=>rfl
   |some t=>
    have he:=h g b t hg ht;simp only[Act.eval,Array.getD_eq_getD_getElem?] at he;simp only[Option.bind_some];cases h1:c.tmps[t]?<;>cases h2:a.tmps[t]?<;>rw[h1,h2] at he<;>simp only[Option.getD_none,Option.getD_some] at he
    ·rw[<-he];rfl
    ·rw[he];rfl
    ·rw[he]
  simp only[this]
theorem cx{g:Nat}{b:Bool}{t:Tmp}(hg:o.guard=some (g,b))(ht:(ops[g]?).bind (·.dst)=some t):t∈o.looksAt ops:=by
 unfold Oper.looksAt;rw[hg];exact List.mem_append_right _ (by simp[ht])
theorem eV(hw:br H a o.dst=true)(v:Value):(fun t=>if o.dst=some t then(fun x _=>x=v:bn) else em H a t)=em H (a.put o.dst v):=by
 funext t;cases hd:o.dst with
 |none=>simp[Act.put]
 |some d=>
  rw[hd] at hw;simp only[br,Bool.and_eq_true,decide_eq_true_eq] at hw;by_cases hdt:d=t
  ·subst hdt;rw[if_pos rfl];unfold em;cases hh:cw H d with
   |some r=>rw[hh] at hw;cases hw.2
   |none=>simp only[];rw[fc hw.1]
  ·rw[if_neg (fun e=>hdt (az e))];unfold em;rw[eF hdt]
def jL:Op->Bool
 |.move _|.assign _|.pick _ _ _|.load _ _|.binOp _ _ _ _ _|.unOp _ _ _|.convert _ _ _|.fieldAddr _ _ _|.field _ _ _|.indexAddr _ _ _|.index _ _ _|.extract _ _|.makeFunc _ _ _|.makeInterface _ _|.nilCheck _=>true
 |_=>false
theorem Gp{s:Sem Value}{w w':World}{f:FuncId}{args:Array Value}:(do pure (Next.value (<-s)):Sem Next).run P w≠.ok (.enter f args) w':=by
 intro h;rw[Sem.run_bind] at h;cases hs:s.run P w<;>rw[hs] at h<;>simp[go_sem] at h
theorem lM(h:jL o.op=true)(e:Operand->Value)(w w':World)(f:FuncId)(args:Array Value):(execOp e o).run P w≠.ok (.enter f args) w':=by
 obtain⟨dst,op,type,pos,after,guard⟩:=o;cases op<;>simp only[jL,Bool.false_eq_true] at h<;>simp only[execOp]<;>first|exact Gp|skip
 ·intro h;simp[go_sem] at h
 ·intro h;simp[go_sem] at h
 ·intro h;rw[Sem.run_bind] at h;generalize (asBool _).run P w=q at h;cases q<;>simp[go_sem] at h
 ·split
  ·intro h;simp[go_sem] at h
  ·intro h;simp[go_sem] at h
  ·intro h;simp[go_sem] at h
  ·split
   ·intro h;simp[go_sem] at h
   ·exact fun h=>by
     simp only[Sem.run_bind] at h;generalize Sem.run P _ w=q at h;cases q with
     |halt _ _=>simp[go_sem] at h
     |ok v w1=>
      simp only[Result.andThen] at h;generalize Sem.run P (nilAhead _ _ _ _) w1=q at h;cases q with
      |halt _ _=>simp at h
      |ok b w2=>
       simp only[] at h;split at h<;>simp[go_sem] at h
   ·intro h;simp[go_sem] at h
  ·intro h;simp[go_sem] at h
theorem zP(hw:Region.wanted o (yielded ops a.tmps)=false)(hl:bi ops H o=true)(hd:br H a o.dst=true)(h:bQ R P ops w0 n ds F rest H (a.put o.dst undef)):bQ R P ops w0 n ds F (o::rest) H a:=by
 refine⟨fun x _=>x=undef,fun _ _ _ h _=>h,fun c w hb hs=>.inl ⟨?_,rfl⟩,?_⟩
 ·rw[bz fun g b t hg ht=>cr hl hs t (cx hg ht)];exact hw
 ·rw[eV hd];exact h
theorem EY[bE R](hw:Region.wanted o (yielded ops a.tmps)=true)(hp:jL o.op=true)(hl:bi ops H o=true)(hd:br H a o.dst=true)
 (h:o.quiet P a (fun w'=>∃x:RW R w0,w'=x.w) (fun a'=>bQ R P ops w0 n ds F rest H a')):bQ R P ops w0 n ds F (o::rest) H a:=by
 obtain⟨v,h1,h2⟩:=h
 refine⟨fun x _=>x=v,fun _ _ _ h _=>h,fun c w hb hs=>.inr ?_,by rw[eV hd];exact h2⟩
 have he:=cr hl hs
 refine⟨by rw[bz fun g b t hg ht=>he t (cx hg ht)];exact hw,fun K Q' hK=>?_⟩
 have h3:=h1 w ⟨⟨w,hb⟩,rfl⟩
 have hne:∀w' f args,(execOp a.eval o).run P w≠.ok (.enter f args) w':=fun w' f args=>lM hp a.eval w w' f args
 unfold Oper.quietAt at h3
 unfold Oper.wp
 rw[bO (fun cs b e=>by rw[e] at hp;cases hp) he]
 generalize (execOp a.eval o).run P w=res at*
 cases res with
 |ok m w'=>
  cases m<;>simp only[Oper.quietUpon] at h3<;>simp only[Oper.upon]
  case value u=>
   obtain⟨rfl,rfl⟩:=h3;exact hK _ _ (bE.refl _) rfl
  case skip=>
   obtain⟨rfl,rfl⟩:=h3;exact hK _ _ (bE.refl _) rfl
  case enter f args=>exact absurd rfl (hne _ _ _)
 |halt x w'=>simp only[Oper.quietUpon] at h3
theorem Hf{f:FuncId}{args:Array Value}{v:Value}(hw:Region.wanted o (yielded ops a.tmps)=true)(hns:∀cs b,o.op≠.select cs b)(hl:bi ops H o=true)(hd:br H a o.dst=true)
 (hr:∀w,(execOp a.eval o).run P w=.ok (.enter f args) w) (hc:∀w,R w0 w->Calls P f args w fun e w'=>e=.returned v/\R w w')
 (h:bQ R P ops w0 n ds F rest H (a.put o.dst v)):bQ R P ops w0 n ds F (o::rest) H a:=by
 refine⟨fun x _=>x=v,fun _ _ _ h _=>h,fun c w hb hs=>.inr ?_,by rw[eV hd];exact h⟩
 have he:=cr hl hs
 refine⟨by rw[bz fun g b t hg ht=>he t (cx hg ht)];exact hw,fun K Q' hK=>?_⟩
 unfold Oper.wp
 rw[bO hns he,hr]
 exact(hc w hb).mono fun e w' ⟨h1,h2⟩=>by subst h1;exact hK _ _ h2 rfl
theorem Jy[bE R](hp:jL o.op=true)(hl:bi ops H o=true)(hd:br H a o.dst=true)
 (h:∀K:Act->Prop,(∀a',bQ R P ops w0 n ds F rest H a'->K a')->wpQuiet P ops (fun w'=>∃x:RW R w0,w'=x.w) K [o] a):bQ R P ops w0 n ds F (o::rest) H a:=by
 have h':=h _ fun _ h=>h
 unfold wpQuiet at h'
 by_cases hw:Region.wanted o (yielded ops a.tmps)=true
 ·rw[if_pos hw] at h';exact EY hw hp hl hd h'
 ·rw[if_neg hw] at h';exact zP (by simpa using hw) hl hd h'
theorem i9[bE R]{dst:Option Tmp}{v:Value}{type:TypeId}{pos:String}
 (h:∀K:Act->Prop,(∀a',bQ R P ops w0 n ds F rest H a'->K a')->wpQuiet P ops (fun w'=>∃x:RW R w0,w'=x.w) K [⟨dst,.move (.const v),type,pos,#[],none⟩] a):bQ R P ops w0 n ds F rest H (a.put dst v):=by
 have h':=h _ fun _ h=>h
 unfold wpQuiet at h'
 rw[if_pos (by rfl)] at h'
 obtain⟨u,h1,h2⟩:=h'
 have h3:=h1 w0 ⟨⟨w0,bE.refl w0⟩,rfl⟩
 obtain rfl:u=v:=by
  have:Oper.quietUpon P (fun w'=>∃x:RW R w0,w'=x.w) w0 u (.ok (.value v) w0):=h3;exact this.2.symm
 exact h2
theorem kJ{d:Tmp}{r:bn}(hk:r.keeps R)(hw:Region.wanted o (yielded ops a.tmps)=true)(hns:∀cs b,o.op≠.select cs b)(hl:bi ops H o=true)(hd:o.dst=some d)
 (hr:∀w,R w0 w->∃x w',(execOp a.eval o).run P w=.ok (.value x) w'/\R w w'/\r x w') (h:bQ R P ops w0 n ds F rest ((d,r)::H) a):bQ R P ops w0 n ds F (o::rest) H a:=by
 refine⟨r,hk,fun c w hb hs=>.inr ?_,?_⟩
 ·have he:=cr hl hs;refine⟨by rw[bz fun g b t hg ht=>he t (cx hg ht)];exact hw,fun K Q' hK=>?_⟩;obtain⟨x,w',h1,h2,h3⟩:=hr w hb;unfold Oper.wp;rw[bO hns he,h1];exact hK _ _ h2 h3
 ·have:(fun t=>if o.dst=some t then r else em H a t)=em ((d,r)::H) a:=by
   funext t;rw[hd];unfold em;rw[show cw ((d,r)::H) t=if d=t then some r else cw H t from rfl];by_cases hdt:d=t
   ·simp[hdt]
   ·simp[hdt]
  rw[this];exact h
theorem pP{f:FuncId}{args:Array Value}{d:Tmp}{r:bn}(hk:r.keeps R)(hw:Region.wanted o (yielded ops a.tmps)=true)(hns:∀cs b,o.op≠.select cs b)(hl:bi ops H o=true)(hd:o.dst=some d)
 (hr:∀w,(execOp a.eval o).run P w=.ok (.enter f args) w) (hc:∀w,R w0 w->Calls P f args w fun e w'=>∃x,e=.returned x/\R w w'/\r x w')
 (h:bQ R P ops w0 n ds F rest ((d,r)::H) a):bQ R P ops w0 n ds F (o::rest) H a:=by
 refine⟨r,hk,fun c w hb hs=>.inr ?_,?_⟩
 ·have he:=cr hl hs;refine⟨by rw[bz fun g b t hg ht=>he t (cx hg ht)];exact hw,fun K Q' hK=>?_⟩;unfold Oper.wp;rw[bO hns he,hr];exact(hc w hb).mono fun e w' ⟨x,h1,h2,h3⟩=>by subst h1;exact hK _ _ h2 h3
 ·have:(fun t=>if o.dst=some t then r else em H a t)=em ((d,r)::H) a:=by
   funext t;rw[hd];unfold em;rw[show cw ((d,r)::H) t=if d=t then some r else cw H t from rfl];by_cases hdt:d=t
   ·simp[hdt]
   ·simp[hdt]
  rw[this];exact h
theorem xR[bE R]{v:Value}(hw:Region.wanted o (yielded ops a.tmps)=true)(hns:∀cs b,o.op≠.select cs b)(hl:bi ops H o=true)(hd:br H a o.dst=true)
 (hr:∀w,R w0 w->(execOp a.eval o).run P w=.ok (.value v) w) (h:bQ R P ops w0 n ds F rest H (a.put o.dst v)):bQ R P ops w0 n ds F (o::rest) H a:=by
 refine⟨fun x _=>x=v,fun _ _ _ h _=>h,fun c w hb hs=>.inr ?_,by rw[eV hd];exact h⟩
 have he:=cr hl hs
 refine⟨by rw[bz fun g b t hg ht=>he t (cx hg ht)];exact hw,fun K Q' hK=>?_⟩
 unfold Oper.wp
 rw[bO hns he,hr w hb]
 exact hK _ _ (bE.refl _) rfl
theorem oU{d:Tmp}{r:bn}(hk:r.keeps R)(hs:gj R P ops w0 o (em H a) r)(hd:o.dst=some d)(h:bQ R P ops w0 n ds F rest ((d,r)::H) a):bQ R P ops w0 n ds F (o::rest) H a:=by
 refine⟨r,hk,hs,?_⟩;have:(fun t=>if o.dst=some t then r else em H a t)=em ((d,r)::H) a:=by
  funext t;rw[hd];unfold em;rw[show cw ((d,r)::H) t=if d=t then some r else cw H t from rfl];by_cases hdt:d=t
  ·simp[hdt]
  ·simp[hdt]
 rw[this];exact h
theorem zO[bE R]{d:Tmp}{r:bn}{v:Value}{s t:TypeId}(hw:Region.wanted o (yielded ops a.tmps)=true)(hop:o.op=.convert s t (.tmp d))(hh:cw H d=some r)
 (hl:(match o.guard with|none=>true|some (g,_)=>match (ops[g]?).bind (·.dst) with|none=>true|some t=>(cw H t).isNone)=true) (hd:br H a o.dst=true)
 (hr:∀x w,r x w->(convert s t x).run P w=.ok v w) (h:bQ R P ops w0 n ds F rest H (a.put o.dst v)):bQ R P ops w0 n ds F (o::rest) H a:=by
 refine⟨fun x _=>x=v,fun _ _ _ h _=>h,fun c w hb hs=>.inr ?_,by rw[eV hd];exact h⟩
 refine⟨?_,fun K Q' hK=>?_⟩
 ·rw[bz (a:=a) fun g b u hg hu=>?_]
  ·exact hw
  ·rw[hg] at hl;simp only[hu] at hl;have:=hs u (cx hg hu);unfold em at this;cases hh:cw H u with
   |none=>rw[hh] at this;exact this
   |some q=>rw[hh] at hl;cases hl
 ·have h1:=hs d (List.mem_append_left _ (by rw[hop];simp[Op.operands]));unfold em at h1;rw[hh] at h1;have h2:=hr _ _ h1;unfold Oper.wp execOp;rw[hop];simp only[];have:(do pure (Next.value (<-convert s t (c.eval (.tmp d)))):Sem Next).run P w=.ok (.value v) w:=by rw[Sem.run_bind,h2];rfl
  rw[this];exact hK _ _ (bE.refl _) rfl
end
section
variable {R:World->World->Prop} {P:Program} {ops:Array Oper} {w0:World} {n:Nat} {ds:List Deferred} {F:Act->World->Prop} {rest:List Oper} {H:List (Tmp×bn)} {a:Act} {o:Oper}
theorem bJ[bE R](h:∀K:Act->Prop,(∀a',bQ R P ops w0 n ds F rest H a'->K a')->wpQuiet P ops (fun w'=>∃x:RW R w0,w'=x.w) K [o] a)(hp:jL o.op=true:=by kernel_rfl)(hl:bi ops H o=true:=by kernel_rfl)(hd:br H a o.dst=true:=by kernel_rfl):bQ R P ops w0 n ds F (o::rest) H a:=Jy hp hl hd h
theorem eR(h:∀w',R w0 w'->aB H a w' (fun c=>F c w'))(h1:a.tmps.size=n:=by kernel_rfl)(h2:a.defers=ds:=by kernel_rfl)(h0:oj H=true:=by kernel_rfl):bQ R P ops w0 n ds F [] H a:=Jz h1 h2 h0 h
theorem fS[bE R]{f:FuncId}{args:Array Value}{v:Value}(hc:∀w,R w0 w->Calls P f args w fun e w'=>e=.returned v/\R w w')(h:∀K:Act->Prop,(∀a',bQ R P ops w0 n ds F rest H a'->K a')->wpQuiet P ops (fun w'=>∃x:RW R w0,w'=x.w) K [⟨o.dst,.move (.const v),0,"",#[],none⟩] a)
 (hw:Region.wanted o (yielded ops a.tmps)=true:=by kernel_rfl) (hns:∀cs b,o.op≠.select cs b:=by intro _ _ h;cases h) (hl:bi ops H o=true:=by kernel_rfl) (hd:br H a o.dst=true:=by kernel_rfl) (hr:∀w,(execOp a.eval o).run P w=.ok (.enter f args) w:=by intro _;go_simp):bQ R P ops w0 n ds F (o::rest) H a:=
 Hf hw hns hl hd hr hc (i9 h)
theorem nw[bE R]{v:Value}(hr:∀w,R w0 w->(execOp a.eval o).run P w=.ok (.value v) w)(h:∀K:Act->Prop,(∀a',bQ R P ops w0 n ds F rest H a'->K a')->wpQuiet P ops (fun w'=>∃x:RW R w0,w'=x.w) K [⟨o.dst,.move (.const v),0,"",#[],none⟩] a)
 (hw:Region.wanted o (yielded ops a.tmps)=true:=by kernel_rfl) (hns:∀cs b,o.op≠.select cs b:=by intro _ _ h;cases h) (hl:bi ops H o=true:=by kernel_rfl) (hd:br H a o.dst=true:=by kernel_rfl):bQ R P ops w0 n ds F (o::rest) H a:=
 xR hw hns hl hd hr (i9 h)
end
section
variable {R:World->World->Prop} {P:Program} {ops:Array Oper} {w0:World} {n:Nat} {ds:List Deferred} {F:Act->World->Prop} {rest:List Oper} {H:List (Tmp×bn)} {a:Act} {o:Oper}
theorem Hd(hw:Region.wanted o (yielded ops a.tmps)=false)(hl:bi ops H o=true)(hd:br H a o.dst=true)
 (h:∀K:Act->Prop,(∀a',bQ R P ops w0 n ds F rest H a'->K a')->wpQuiet P ops (fun w'=>∃x:RW R w0,w'=x.w) K [o] a):bQ R P ops w0 n ds F (o::rest) H a:=by
 have h':=h _ fun _ h=>h
 unfold wpQuiet at h'
 rw[if_neg (by simp[hw])] at h'
 exact zP hw hl hd h'
theorem Du(h:∀K:Act->Prop,(∀a',bQ R P ops w0 n ds F rest H a'->K a')->wpQuiet P ops (fun w'=>∃x:RW R w0,w'=x.w) K [o] a)(hw:Region.wanted o (yielded ops a.tmps)=false:=by kernel_rfl)(hl:bi ops H o=true:=by kernel_rfl)(hd:br H a o.dst=true:=by kernel_rfl):bQ R P ops w0 n ds F (o::rest) H a:=Hd hw hl hd h
end
section
variable {R:World->World->Prop} {P:Program} {ops:Array Oper} {w0:World} {n:Nat} {ds:List Deferred} {F:Act->World->Prop} {rest:List Oper} {H:List (Tmp×bn)} {a:Act} {o:Oper}
def tN(ops:Array Oper)(H:List (Tmp×bn))(d:Tmp)(o:Oper):Bool:=(o.looksAt ops).all fun t=>t==d||(cw H t).isNone
def mT(ops:Array Oper)(H:List (Tmp×bn))(d:Tmp)(o:Oper):Bool:=match o.guard with
 |none=>true
 |some (g,_)=>match (ops[g]?).bind (·.dst) with
  |none=>true
  |some t=>t != d&&(cw H t).isNone
theorem Ag{d:Tmp}(hz:d<a.tmps.size)(hl:tN ops H d o=true){c:Act}{w:World}(h:∀t∈o.looksAt ops,em H a t (c.eval (.tmp t)) w):∀t∈o.looksAt ops,c.eval (.tmp t)=(a.put (some d) (c.eval (.tmp d))).eval (.tmp t):=fun t ht=>by
 by_cases hd:d=t
 ·subst hd;rw[fc hz]
 ·rw[eF hd];have h1:=h t ht;have h2:=List.all_eq_true.1 hl t ht;unfold em at h1;cases he:cw H t with
  |none=>rw[he] at h1;exact h1
  |some q=>
   rw[he] at h2;simp only[Option.isNone_some,Bool.or_false,beq_iff_eq] at h2;exact absurd h2.symm hd
theorem sI{d:Tmp}(hg:mT ops H d o=true){c:Act}{w:World}(h:∀t∈o.looksAt ops,em H a t (c.eval (.tmp t)) w):Region.wanted o (yielded ops c.tmps)=Region.wanted o (yielded ops a.tmps):=
 bz fun g b u hgd hu=>by
  unfold mT at hg;rw[hgd] at hg;simp only[hu] at hg;have h1:=h u (cx hgd hu);unfold em at h1;cases he:cw H u with
  |none=>rw[he] at h1;exact h1
  |some q=>rw[he] at hg;simp at hg
theorem EZ(d:Tmp){r:bn}{v:Value}(hw:Region.wanted o (yielded ops a.tmps)=true)(hns:∀cs b,o.op≠.select cs b)(hh:cw H d=some r)(hz:d<a.tmps.size)(hm:(o.looksAt ops).contains d=true)(hl:tN ops H d o=true)(hg:mT ops H d o=true)(hd:br H a o.dst=true)
 (hr:∀x w,R w0 w->r x w->∃f args,(execOp (a.put (some d) x).eval o).run P w=.ok (.enter f args) w/\Calls P f args w fun e w'=>e=.returned v/\R w w')
 (h:bQ R P ops w0 n ds F rest H (a.put o.dst v)):bQ R P ops w0 n ds F (o::rest) H a:=by
 refine⟨fun x _=>x=v,fun _ _ _ h _=>h,fun c w hb hs=>.inr ⟨by rw[sI hg hs];exact hw,fun K Q' hK=>?_⟩,by rw[eV hd];exact h⟩
 have h1:=hs d (List.contains_iff_mem.1 hm)
 unfold em at h1
 rw[hh] at h1
 obtain⟨f,args,h2,h3⟩:=hr _ _ hb h1
 unfold Oper.wp
 rw[bO hns (Ag hz hl hs),h2]
 exact h3.mono fun e w' ⟨e1,e2⟩=>by subst e1;exact hK _ _ e2 rfl
theorem BZ(d:Tmp){e:Tmp}{r s:bn}(hk:s.keeps R)(hw:Region.wanted o (yielded ops a.tmps)=true)(hns:∀cs b,o.op≠.select cs b)(hh:cw H d=some r)(hz:d<a.tmps.size)(hm:(o.looksAt ops).contains d=true)(hl:tN ops H d o=true)(hg:mT ops H d o=true)(hd:o.dst=some e)
 (hr:∀x w,R w0 w->r x w->∃f args,(execOp (a.put (some d) x).eval o).run P w=.ok (.enter f args) w/\Calls P f args w fun e w'=>∃y,e=.returned y/\R w w'/\s y w')
 (h:bQ R P ops w0 n ds F rest ((e,s)::H) a):bQ R P ops w0 n ds F (o::rest) H a:=by
 refine oU hk (fun c w hb hs=>.inr ⟨by rw[sI hg hs];exact hw,fun K Q' hK=>?_⟩) hd h
 have h1:=hs d (List.contains_iff_mem.1 hm)
 unfold em at h1
 rw[hh] at h1
 obtain⟨f,args,h2,h3⟩:=hr _ _ hb h1
 unfold Oper.wp
 rw[bO hns (Ag hz hl hs),h2]
 exact h3.mono fun e w' ⟨y,e1,e2,e3⟩=>by subst e1;exact hK _ _ e2 e3
end
section
variable {R:World->World->Prop} {P:Program} {ops:Array Oper} {n m:Nat} {r:Nat->bn} {w0:World} {a:Act}
theorem Hh(hl:∀j,j<m->∃k p,j<k/\k<=m/\ops[k]?=some p/\∃e∈p.after,Region.binds .any e=true/\e.on=j){listed:Array Bool}{c:Act}{w:World}(h:gW R ops r w0 a listed c w)
 (hm:m∈Region.ready .any ops listed):∀d j,j+d+1=m->listed.getD j false=true:=by
 intro d
 induction d using Nat.strongRecOn with
 |_ d ih=>
  intro j hj;obtain⟨k,p,hjk,hkm,hp,e,he,hb,rfl⟩:=hl j (by omega);have hk:k<ops.size:=aN hp;by_cases hkm:k=m
  ·subst hkm;obtain⟨_,o,ho,hall⟩:=mem_ready.1 hm;rw[hp] at ho;cases ho;exact hall e he hb
  ·exact h.deps k p hp (ih (m-1-k) (by omega) k (by omega)) e he hb
end
def Hi(ops:Array Oper)(m:Nat):Bool:=
 decide (ops.size=m+2)&&((List.range m).all fun j=>(List.range (m+1)).any fun k=>decide (j<k)&&match ops[k]? with
  |none=>false
  |some p=>p.after.toList.any fun e=>Region.binds .any e&&decide (e.on=j))&&match ops[m+1]? with
  |none=>false
  |some p=>p.after.toList.any fun e=>Region.binds .any e&&decide (e.on=m)
theorem JB{ops:Array Oper}{m:Nat}(h:Hi ops m=true):ops.size=m+2/\(∀j,j<m->∃k p,j<k/\k<=m/\ops[k]?=some p/\∃e∈p.after,Region.binds .any e=true/\e.on=j)/\∃p,ops[m+1]?=some p/\∃e∈p.after,Region.binds .any e=true/\e.on=m:=by
 unfold Hi at h;rw[Bool.and_eq_true,Bool.and_eq_true,decide_eq_true_eq,List.all_eq_true] at h;obtain⟨⟨h0,h1⟩,h2⟩:=h;refine⟨h0,fun j hj=>?_,?_⟩
 ·have:=h1 j (List.mem_range.2 hj);rw[List.any_eq_true] at this;obtain⟨k,hk,hb⟩:=this;rw[Bool.and_eq_true,decide_eq_true_eq] at hb;obtain⟨h1,h2⟩:=hb;cases hp:ops[k]? with
  |none=>rw[hp] at h2;cases h2
  |some p=>
   rw[hp] at h2;simp only[List.any_eq_true,Bool.and_eq_true,decide_eq_true_eq] at h2;obtain⟨e,he,hb⟩:=h2;exact⟨k,p,h1,by have:=List.mem_range.1 hk;omega,hp,e,Array.mem_toList_iff.1 he,hb.1,hb.2⟩
 ·cases hp:ops[m+1]? with
  |none=>rw[hp] at h2;cases h2
  |some p=>
   rw[hp] at h2;simp only[List.any_eq_true,Bool.and_eq_true,decide_eq_true_eq] at h2;obtain⟨e,he,hb⟩:=h2;exact⟨p,rfl,e,Array.mem_toList_iff.1 he,hb.1,hb.2⟩
def di(cur:Array Value)(k:Nat)(news:List Value):Array Value:=if k+news.length<=cur.size then(cur.toList.take k++news++cur.toList.drop (k+news.length)).toArray else cur
theorem lp(cur:Array Value)(k:Nat)(news:List Value):(di cur k news).size=cur.size:=by
 unfold di;split
 ·simp only[List.size_toArray,aG,dp,List.length_drop,Array.length_toList];omega
 ·rfl
theorem oI(cur:Array Value)(k:Nat)(news:List Value):(di cur k news).toList.take k=cur.toList.take k:=by
 unfold di;split
 ·rename_i h;have:(cur.toList.take k).length=k:=by simp;omega
  simp only[List.append_assoc];rw[List.take_append_of_le_length (by omega),List.take_of_length_le (by omega)]
 ·rfl
theorem uY(cur:Array Value)(k:Nat)(news:List Value):di (di cur k news) k news=di cur k news:=by
 have hs:=lp cur k news;by_cases h:k+news.length<=cur.size
 ·have e:di cur k news=(cur.toList.take k++news++cur.toList.drop (k+news.length)).toArray:=by unfold di;rw[if_pos h]
  have ht:=oI cur k news;have hd:(di cur k news).toList.drop (k+news.length)=cur.toList.drop (k+news.length):=by
   rw[e];have:(cur.toList.take k++news).length=k+news.length:=by simp;omega
   show (cur.toList.take k++news++cur.toList.drop (k+news.length)).drop (k+news.length)=_;rw[List.drop_append_of_le_length (by omega),List.drop_of_length_le (by omega),List.nil_append]
  generalize di cur k news=C at*;unfold di;rw[if_pos (by rw[hs];exact h),ht,hd,e]
 ·generalize di cur k news=C at*;unfold di;rw[if_neg (by rw[hs];exact h)]
def bj(w:World)(v:Value)(size n:Nat)(news:List Value):Option Obj:=
 match v with
 |.slice (some a) _ _=>match w.heap[a.block]? with
  |some (.cells cur e fz)=>some (.cells (di cur (n*size) news) e fz)
  |_=>none
 |_=>none
def lZ (row:Option Nat)(fin:Option Obj)(a b:World):Prop:=a.grownBy b row/\∀g,row=some g->b.heap[g]?=a.heap[g]?\/b.heap[g]?=fin
instance {row:Option Nat}{fin:Option Obj}:bE (lZ row fin):=
 ⟨fun _=>⟨⟨rfl,rfl,rfl,aF _,fun _ _ _=>rfl⟩,fun _ _=>.inl rfl⟩,
  fun h k=>⟨World.grownBy.trans h.1 k.1,fun g hg=>by
   rcases k.2 g hg with e|e
   ·rw[e];exact h.2 g hg
   ·exact .inr e⟩,
  fun _=>⟨⟨rfl,rfl,rfl,aF _,fun _ _ _=>rfl⟩,fun _ _=>.inl rfl⟩⟩
theorem lZ.cell{row:Option Nat}{fin:Option Obj}{w w':World}{p:Addr}{v:Value}(hR:lZ row fin w w')(h:w.cell? p=some v)(hr:some p.block≠row):w'.cell? p=some v:=
 (World.cell?_of_block (hR.1.block p.block (World.block_lt_of_cell? _ _ h) hr)).trans h
theorem pu{row:Option Nat}{fin:Option Obj}{w:World}{p:Addr}{v:Value}(h:w.cell? p=some v)(hr:some p.block≠row):∀x:RW (lZ row fin) w,x.w.cell? p=some v:=fun x=>lZ.cell x.is h hr
def eZ(w0:World)(m:Nat)(news:List Value):bn:=fun x W=>∃p c,x=.slice (some ⟨p,0,none⟩) m c/\w0.heap.size<=p/\∀j u,news[j]?=some u->W.cell? ((⟨p,0,none⟩:Addr).add j)=some u
theorem qi(a:Addr)(j:Nat):(a.add j).block=a.block:=by unfold Addr.add;split<;>rfl
theorem tJ{row:Option Nat}{fin:Option Obj}{w0:World}{m:Nat}{news:List Value}(hr:∀g,row=some g->g<w0.heap.size):(eZ w0 m news).keeps (lZ row fin):=by
 rintro x W W' ⟨p,c,rfl,hp,hc⟩ hR;exact⟨p,c,rfl,hp,fun j u hu=>lZ.cell hR (hc j u hu) fun e=>by
  rw[qi] at e
  have:=hr p e.symm
  omega⟩
def lG(w0:World)(base:Nat)(e:TypeId)(size:Nat)(row:Option Nat)(fin:Option Obj)(n:Nat)(xs:List Value):bn:=fun v' W'=>
 W'.ownsRow base e size v' n xs/\((v'.ownBlock=row/\∀g,row=some g->W'.heap[g]?=fin)\/∃k,v'.ownBlock=some k/\w0.heap.size<=k)
theorem gM{w w':World}{base:Nat}{e:TypeId}{size n:Nat}{v:Value}{xs:List Value}(h:w.ownsRow base e size v n xs)(hk:∀g,v.ownBlock=some g->w'.heap[g]?=w.heap[g]?):w'.ownsRow base e size v n xs:=by
 refine⟨h.1,?_⟩;rcases h.2 with h2|⟨g,cap,cur,rfl,h3,h4,h5⟩
 ·exact .inl h2
 ·exact .inr ⟨g,cap,cur,rfl,h3,(hk g rfl).trans h4,h5⟩
theorem jM{w:World}{base:Nat}{e:TypeId}{size n:Nat}{v:Value}{xs:List Value}(h:w.ownsRow base e size v n xs){k:Nat}(hk:v.ownBlock=some k):k<w.heap.size:=by
 rcases h.2 with⟨rfl,_⟩|⟨g,cap,cur,rfl,_,hg,_⟩
 ·cases hk
 ·obtain rfl:g=k:=az hk;exact(Array.getElem?_eq_some_iff.1 hg).1
theorem vy{w0:World}{base:Nat}{e:TypeId}{size:Nat}{row:Option Nat}{fin:Option Obj}{n:Nat}{xs:List Value}(hr:∀g,row=some g->g<w0.heap.size):
 (lG w0 base e size row fin n xs).keeps (lZ row fin):=by
 rintro v W W' ⟨h1,h2⟩ hR
 rcases h2 with⟨h2,h3⟩|⟨k,h2,h3⟩
 ·have hs:∀g,row=some g->W'.heap[g]?=W.heap[g]?:=fun g hg=>by
   rcases hR.2 g hg with e|e
   ·exact e
   ·rw[e,h3 g hg]
  exact⟨gM h1 fun g hg=>hs g (h2▸hg),.inl ⟨h2,fun g hg=>(hs g hg).trans (h3 g hg)⟩⟩
 ·exact⟨gM h1 fun g hg=>hR.1.block g (jM h1 hg) fun e=>by
   have:=hr g e.symm
   rw[h2] at hg
   have:=az hg
   omega,.inr ⟨k,h2,h3⟩⟩
section
variable {P:Program}
theorem jl(t ty e:TypeId)(i:TypeInfo)(z:Value)(size bytes:Nat)(ht:P.underlying t=some (.slice e))(hi:P.info? e=some i)(hz:i.zero=some z)(hsize:i.size=size)(hby:i.bytes=bytes)(hzs:z.cells.size=size)(hsz:0<size)
 (base:Nat) (w0 w:World) (v:Value) (n:Nat) (xs:List Value) (hown:w0.ownsRow base e size v n xs) (m c:Nat) (a:Addr) (news:List Value) (hl:news.length=m*size) (hnews:∀j u,news[j]?=some u->w.cell? (a.add j)=some u)
 (h1:∀u∈news,u.oneCell'=true) (h63:n+m<=maxLen) (hbytes:(n+m)*bytes<=140737488355328) (hbase:base<=w0.heap.size) (hR:lZ v.ownBlock (bj w0 v size n news) w0 w):
 ∃v' w',(Builtin.append_ #[t,t] ty #[v,.slice (some a) m c]).run P w=.ok v' w'/\lZ v.ownBlock (bj w0 v size n news) w w'/\lG w0 base e size v.ownBlock (bj w0 v size n news) (n+m) (xs++news) v' w':=by
 have hown':w.ownsRow base e size v n xs:=by
  refine⟨hown.1,?_⟩;rcases hown.2 with h2|⟨g,cap,cur,rfl,h3,h4,h5,h6,h7,h8⟩
  ·exact .inl h2
  ·rcases hR.2 g rfl with e'|e'
   ·exact .inr ⟨g,cap,cur,rfl,h3,e'.trans h4,h5,h6,h7,h8⟩
   ·refine .inr ⟨g,cap,di cur (n*size) news,rfl,h3,e'.trans ?_,h5,h6,by rw[lp,h7],by rw[oI,h8]⟩;unfold bj;simp only[h4]
 have hge:=hR.1.size
 rcases hown'.2 with⟨rfl,rfl⟩|⟨g,cap,cur,rfl,hbg,hg,hnc,hcm,hcs,htake⟩
 ·obtain⟨v',w',hr,h2,h3,h4,h5⟩:=run_append_own_at (P:=P) w base t ty e i z size bytes ht hi hz hsize hby hzs hsz _ _ xs hown' a m c news hl hnews h1 h63 hbytes (by omega);refine⟨v',w',hr,⟨h3,fun g hg=>by cases hg⟩,h2,?_⟩;rcases h5 with h5|h5
  ·exact .inl ⟨h5,fun g hg=>by cases hg⟩
  ·exact .inr ⟨_,h5,hge⟩
 ·by_cases hroom:n+m<=cap
  ·have hfit:n*i.size+news.length<=cur.size:=by rw[hl,hcs,hsize,<-Nat.add_mul];exact Nat.mul_le_mul_right _ hroom
   have hr:=run_append_room (P:=P) w t ty e i ht hi g n cap cur hg a m c news (by rw[hsize];exact hl) hnews h1 hroom hfit;have hset:(cur.toList.take (n*i.size)++news++cur.toList.drop (n*i.size+news.length)).toArray=di cur (n*size) news:=by
    unfold di;rw[hsize] at hfit⊢;rw[if_pos hfit]
   rw[hset] at hr;have hnew:(w.setRow g (di cur (n*size) news)).heap[g]?=some (.cells (di cur (n*size) news) e (0,0)):=setRow_heap w g cur _ e _ hg;have hfin:(w.setRow g (di cur (n*size) news)).heap[g]?=bj w0 (.slice (some ⟨g,0,none⟩) n cap) size n news:=by
    rw[hnew];rcases hR.2 g rfl with e'|e'
    ·unfold bj;simp only[<-e',hg]
    ·rw[hg] at e';unfold bj at e'⊢;simp only at e'⊢;cases hq:w0.heap[g]? with
     |none=>rw[hq] at e';cases e'
     |some o=>
      rw[hq] at e';cases o<;>simp only[Option.some.injEq,reduceCtorEq,Obj.cells.injEq] at e'⊢
      obtain⟨rfl,rfl,rfl⟩:=e';exact⟨uY _ _ _,rfl,rfl⟩
   refine⟨_,_,hr,⟨⟨rfl,rfl,rfl,by simp,fun k _ hk=>setRow_other w g k _ (fun e=>hk (by simp[Value.ownBlock,e]))⟩,fun k hk=>?_⟩,⟨by rw[aG,hown'.1,hl,Nat.add_mul],.inr ⟨g,cap,_,rfl,hbg,hnew,hroom,hcm,by rw[lp,hcs],?_⟩⟩,.inl ⟨rfl,fun k hk=>?_⟩⟩
   ·obtain rfl:g=k:=az hk;exact .inr hfin
   ·unfold di;rw[hsize] at hfit;rw[if_pos hfit,Nat.add_mul,<-hl];have:(cur.toList.take (n*size)++news).length=n*size+news.length:=by simp;omega
    show (cur.toList.take (n*size)++news++cur.toList.drop (n*size+news.length)).take _=_;rw[List.take_append_of_le_length (by omega),List.take_of_length_le (by omega),htake]
   ·obtain rfl:g=k:=az hk;exact hfin
  ·obtain⟨v',w',hr,h2,h3,h4,h5⟩:=run_append_own_at (P:=P) w base t ty e i z size bytes ht hi hz hsize hby hzs hsz _ _ xs hown' a m c news hl hnews h1 h63 hbytes (by omega);have holds:∀j u,xs[j]?=some u->w.cell? ((⟨g,0,none⟩:Addr).add j)=some u:=hown'.cells (g:=g) rfl;have hq:=run_append_grow (P:=P) w t ty e i z ht hi hz ⟨g,0,none⟩ n cap xs (by rw[hsize];exact hown'.1) holds a m c news (by rw[hsize];exact hl) hnews (by omega) (by simp only[maxLen] at h63;omega) (growslice_fits (by omega) (by rw[hby];exact hbytes));rw[hq] at hr;obtain⟨rfl,rfl⟩:=Result.ok.inj hr;refine⟨_,_,hq,⟨h3,fun k hk=>?_⟩,h2,.inr ⟨_,rfl,hge⟩⟩;obtain rfl:g=k:=az hk;exact .inl (heap_alloc_old w.drew _ (by exact(Array.getElem?_eq_some_iff.1 hg).1))
variable {ops:Array Oper} {w0:World} {k:Nat} {ds:List Deferred} {F:Act->World->Prop} {rest:List Oper} {H:List (Tmp×bn)} {A:Act} {o:Oper}
theorem vT{d:Tmp}{row:Option Nat}{fin:Option Obj}{m:Nat}{news:List Value}(hrow:∀g,row=some g->g<w0.heap.size)(hw:Region.wanted o (yielded ops A.tmps)=true)(hns:∀cs b,o.op≠.select cs b)(hl:bi ops H o=true)(hd:o.dst=some d)(E:TypeId)
 (hr:∀w,(execOp A.eval o).run P w=.ok (.value (.slice (some ⟨w.heap.size,0,none⟩) m m)) (w.alloc (.cells news.toArray E))) (h:bQ (lZ row fin) P ops w0 k ds F rest ((d,eZ w0 m news)::H) A):
 bQ (lZ row fin) P ops w0 k ds F (o::rest) H A:=by
 refine kJ (tJ hrow) hw hns hl hd (fun w hR=>⟨_,_,hr w,?_,w.heap.size,m,rfl,hR.1.size,fun j u hu=>?_⟩) h
 ·exact⟨World.grownBy_alloc w _ _,fun g hg=>.inl (heap_alloc_old w _ (dQ (hrow g hg) hR.1.size))⟩
 ·have hadd:(⟨w.heap.size,0,none⟩:Addr).add j=⟨w.heap.size,j,none⟩:=by unfold Addr.add;split<;>simp_all
  rw[hadd,World.cell?_alloc_new];simpa using hu
theorem Dw{s x d:Tmp}{t e:TypeId}{i:TypeInfo}{z:Value}{size bytes base n m:Nat}{v:Value}{xs news:List Value}(hgd:o.guard=none)(ho:o.op=.call {callee:=.builtin .append,args:=#[.tmp s,.tmp x],argTypes:=#[t,t]})(hd:o.dst=some d)
 (ht:P.underlying t=some (.slice e)) (hi:P.info? e=some i) (hz:i.zero=some z) (hsize:i.size=size) (hby:i.bytes=bytes) (hzs:z.cells.size=size) (hsz:0<size)
 (hsn:cw H s=none) (hs:A.eval (.tmp s)=v) (hx:cw H x=some (eZ w0 m news)) (hown:w0.ownsRow base e size v n xs) (hl:news.length=m*size)
 (h1:∀u∈news,u.oneCell'=true) (h63:n+m<=maxLen) (hbytes:(n+m)*bytes<=140737488355328) (hbase:base<=w0.heap.size)
 (h:bQ (lZ v.ownBlock (bj w0 v size n news)) P ops w0 k ds F rest ((d,lG w0 base e size v.ownBlock (bj w0 v size n news) (n+m) (xs++news))::H) A):
 bQ (lZ v.ownBlock (bj w0 v size n news)) P ops w0 k ds F (o::rest) H A:=by
 refine oU (vy fun g hg=>jM hown hg) (fun c w hR hf=>.inr ⟨?_,fun K Q' hK=>?_⟩) hd h
 ·unfold Region.wanted;rw[hgd]
 ·have hes:=hf s (by simp[Oper.looksAt,ho,hgd,Op.operands,Call.operands]);have hex:=hf x (by simp[Oper.looksAt,ho,hgd,Op.operands,Call.operands]);unfold em at hes hex;rw[hsn] at hes;rw[hx] at hex;obtain⟨p,c',hex,hp,hc⟩:=hex;simp only at hes;obtain⟨v',w',hr,h2,h3⟩:=jl (P:=P) t o.type e i z size bytes ht hi hz hsize hby hzs hsz base w0 w v n xs hown m c' ⟨p,0,none⟩ news hl hc h1 h63 hbytes hbase hR;unfold Oper.wp execOp;simp only[ho,resolve,invoke,builtin,Sem.run_bind,Sem.run_pure,Result.andThen_ok,List.map_toArray,List.map_cons,List.map_nil,hes,hs,hex,hr];exact hK _ _ h2 h3
end
def co(a b:World):Prop:=Below a.heap.size a b
instance:bE co:=⟨fun w=>Below.refl _ w,fun h k=>Below.trans h (Below.mono k h.size),fun w=>(Below.refl _ w).drew⟩
theorem aj{w:World}{p:Addr}{v:Value}(h:w.cell? p=some v):∀x:RW co w,x.w.cell? p=some v:=fun x=>(Below.cell (show Below w.heap.size w x.w from x.is) (World.block_lt_of_cell? _ _ h)).trans h
def Gv(l:List UInt8):bn:=fun x w=>∃g,x=.slice (some ⟨g,0,none⟩) l.length l.length/\∀i (h:i<l.length),w.cell? ⟨g,0+i,none⟩=some (.int .u8 (l[i].toNat:Int))
theorem qS(l:List UInt8):(Gv l).keeps co:=fun _ _ _ ⟨g,h1,h2⟩ hb=>⟨g,h1,fun i h=>(Below.cell hb (World.block_lt_of_cell? _ _ (h2 i h))).trans (h2 i h)⟩
theorem tM{P:Program}{o:Oper}{a:Act}{w0:World}(e:TypeId)(l:List UInt8)
 (h:∀w:World,(execOp a.eval o).run P w=.ok (.value (.slice (some ⟨w.heap.size,0,none⟩) l.length l.length)) (w.alloc (.cells (l.map fun b=>Value.int .u8 (b.toNat:Int)).toArray e))):
 ∀w,co w0 w->∃x w',(execOp a.eval o).run P w=.ok (.value x) w'/\co w w'/\Gv l x w':=fun w _=>
 ⟨_,_,h w,(Below.refl _ w).alloc (aF _) _,w.heap.size,rfl,fun i hi=>by
   rw[Nat.zero_add,World.cell?_alloc_new]
   simp[hi]⟩
theorem sL{P:Program}(src dst e:TypeId)(hs:P.underlying src=some (.slice e))(he:P.underlying e=some (.int .u8))(hd:P.underlying dst=some .string)(l:List UInt8):
 ∀x w,Gv l x w->(convert src dst x).run P w=.ok (.string (bs l)) w:=fun x w ⟨g,h1,h2⟩=>by
 subst h1
 exact fD src dst e hs he hd g 0 l.length l w h2
theorem dY{P:Program}{id:Nat}{Q:Exit->Act->World->Prop}{a:Act}{w:World}{l:List Oper}(h:bQ co P l.toArray w a.tmps.size a.defers (Q .normal) l [] a)(hm:P.follows .mixedOrders=true:=by kernel_rfl)(hB:fo l.toArray a.tmps.size=true:=by kernel_rfl):(Code.region id l.toArray true).wp P Q a w:=ou hm hB h
theorem l6{P:Program}{id:Nat}{Q:Exit->Act->World->Prop}{a:Act}{w:World}{l:List Oper}{oL:Oper}(h:bQ co P l.toArray w a.tmps.size a.defers (fun c w'=>wpList P l.toArray Q [oL] c w') l.dropLast [] a)(hm:P.follows .mixedOrders=true:=by kernel_rfl)(hB:fo l.toArray a.tmps.size=true:=by kernel_rfl)(hL:l.getLast?=some oL:=by exact rfl)(hD:E4 l.toArray (l.length-1)=true:=by kernel_rfl):(Code.region id l.toArray true).wp P Q a w:=nf hm hB hL hD h
structure fK where
 ph:Nat->World->Prop
 K:World->World->Prop
 w0:World
 start:ph 0 w0
 refl:∀w,K w w
 trans:∀{a b c},K a b->K b c->K a c
 grow:∀{a b},co a b->K a b
 stay:∀{q a b},ph q a->co a b->ph q b
section
variable (S:fK) (ch:List Nat) (P:Program) (ops:Array Oper)
def PW:Type:={w:World// ∃q,S.ph q w}
variable {S} in
def PW.w (x:PW S):World:=x.1
instance:Nonempty (PW S):=⟨⟨S.w0,0,S.start⟩⟩
def yA(o:Oper)(s:Tmp->bn)(r:bn):Prop:=
 ∀c w,(∃q,S.ph q w)->(∀t∈o.looksAt ops,s t (c.eval (.tmp t)) w)->
  (Region.wanted o (yielded ops c.tmps)=false/\r undef w)\/
  (Region.wanted o (yielded ops c.tmps)=true/\∀Q Q',(∀x w',co w w'->r x w'->Q (c.put o.dst x) w')->o.wp P c w Q Q')
def sC(q:Nat)(o:Oper)(s:Tmp->bn)(r:bn):Prop:=
 ∀c w,S.ph q w->(∀t∈o.looksAt ops,s t (c.eval (.tmp t)) w)->
  Region.wanted o (yielded ops c.tmps)=true/\∀Q Q',(∀x w',S.K w w'->S.ph (q+1) w'->r x w'->Q (c.put o.dst x) w')->o.wp P c w Q Q'
def JS (k:Nat)(o:Oper)(s:Tmp->bn)(r:bn):Prop:=
 if ch.contains k then sC S P ops (ch.idxOf k) o s r else yA S P ops o s r
end
def AX(Sv:Nat->Oper->(Tmp->bn)->bn->Prop)(Kp:bn->Prop)(Fin:(Tmp->bn)->Prop):Nat->List Oper->(Tmp->bn)->Prop
 |_,[],s=>Fin s
 |k,o::rest,s=>∃r:bn,Kp r/\Sv k o s r/\AX Sv Kp Fin (k+1) rest (fun t=>if o.dst=some t then r else s t)
theorem nH{Sv:Nat->Oper->(Tmp->bn)->bn->Prop}{Kp:bn->Prop}{Fin:(Tmp->bn)->Prop}{ops:Array Oper}(hT:Kp fun _ _=>True):∀(l:List Oper) (k:Nat) (r:Nat->bn) (s0:Tmp->bn),(∀j,j<l.length->l[j]?=ops[k+j]?)->
 (∀j,j<k->Kp (r j))->(∀j o,j<k->ops[j]?=some o->Sv j o (aD ops r s0 j) (r j))->AX Sv Kp Fin k l (aD ops r s0 k)->
 ∃r':Nat->bn,(∀j,Kp (r' j))/\(∀j o,j<k+l.length->ops[j]?=some o->Sv j o (aD ops r' s0 j) (r' j))/\Fin (aD ops r' s0 (k+l.length))
 |[],k,r,s0,_,h1,h2,h=>by
  have hs:∀m,m<=k->aD ops (fun j=>if j<k then r j else fun _ _=>True) s0 m=aD ops r s0 m:=by
   intro m;induction m with
   |zero=>intro _;rfl
   |succ m ih=>
    intro hm
    funext t;unfold aD;rw[ih (by omega),if_pos (show m<k by omega)]
  refine⟨fun j=>if j<k then r j else fun _ _=>True,fun j=>?_,fun j o hj ho=>?_,?_⟩
  ·by_cases hj:j<k
   ·simp only[hj,if_true];exact h1 j hj
   ·simp only[hj,if_false];exact hT
  ·have hj:j<k:=by simpa using hj
   simp only[hj,if_true];rw[hs j (by omega)];exact h2 j o hj ho
  ·rw[List.length_nil,Nat.add_zero,hs k (aF _)];exact h
 |o::rest,k,r,s0,hl,h1,h2,h=>by
  obtain⟨q,hq,hsv,hrest⟩:=h;have ho:ops[k]?=some o:=by simpa using(hl 0 (by simp)).symm
  have hs:∀m,m<=k->aD ops (fun j=>if j=k then q else r j) s0 m=aD ops r s0 m:=by
   intro m;induction m with
   |zero=>intro _;rfl
   |succ m ih=>
    intro hm
    funext t;unfold aD;rw[ih (by omega),if_neg (show m≠k by omega)]
  have:=nH hT rest (k+1) (fun j=>if j=k then q else r j) s0 (fun j hj=>by have:=hl (j+1) (by simp;omega);simpa[Nat.add_assoc,Nat.add_comm 1 j] using this)
   (fun j hj=>by
    by_cases hjk:j=k
    ·simp only[hjk,if_true];exact hq
    ·simp only[hjk,if_false];exact h1 j (by omega))
   (fun j p hj hp=>by
    rw[hs j (by omega)]
    by_cases hjk:j=k
    ·subst hjk
     simp only[if_true]
     rw[hp] at ho;cases ho
     exact hsv
    ·simp only[hjk,if_false];exact h2 j p (by omega) hp)
   (by
    have:aD ops (fun j=>if j=k then q else r j) s0 (k+1)=fun t=>if o.dst=some t then q else aD ops r s0 k t:=by
     funext t
     show (if (ops[k]?).bind (·.dst)=some t then _ else _)=_
     rw[hs k (aF _),ho]
     simp
    rw[this]
    exact hrest)
  rwa[show k+1+rest.length=k+(o::rest).length by simp;omega] at this
def mD(ops:Array Oper)(ch:List Nat):Bool:=
 decide ch.Nodup&&(List.range (ch.length-1)).all fun i=>match ops[ch.getD (i+1) 0]? with
  |none=>false
  |some p=>p.after.toList.any fun e=>Region.binds .any e&&decide (e.on=ch.getD i 0)
theorem Ar{ops:Array Oper}{ch:List Nat}(h:mD ops ch=true):ch.Nodup/\∀i,i+1<ch.length->∃p,ops[ch.getD (i+1) 0]?=some p/\∃e∈p.after,Region.binds .any e=true/\e.on=ch.getD i 0:=by
 unfold mD at h;rw[Bool.and_eq_true,decide_eq_true_eq,List.all_eq_true] at h;refine⟨h.1,fun i hi=>?_⟩;have:=h.2 i (List.mem_range.2 (by omega));cases hp:ops[ch.getD (i+1) 0]? with
 |none=>rw[hp] at this;cases this
 |some p=>
  rw[hp] at this;simp only[List.any_eq_true,Bool.and_eq_true,decide_eq_true_eq] at this;obtain⟨e,he,hb⟩:=this;exact⟨p,rfl,e,Array.mem_toList_iff.1 he,hb.1,hb.2⟩
def mK(S:fK)(ch:List Nat)(listed:Array Bool)(w:World):Prop:=
 ∃q,q<=ch.length/\(∀i,i<q->listed.getD (ch.getD i 0) false=true)/\(∀i,q<=i->i<ch.length->listed.getD (ch.getD i 0) true=false)/\S.ph q w
section
variable {S:fK} {ch:List Nat} {P:Program} {ops:Array Oper} {n m:Nat} {r:Nat->bn} {a:Act}
theorem F7(S:fK):bE S.K:=⟨S.refl,S.trans,fun w=>S.grow (bE.drew (R:=co) w)⟩
theorem mK.other{listed:Array Bool}{w w':World}{i:Nat}(h:mK S ch listed w)(hi:i∉ch)(hw:co w w'):mK S ch (listed.setIfInBounds i true) w':=by
 obtain⟨q,hq,h1,h2,h3⟩:=h;refine⟨q,hq,fun j hj=>getD_set_true (h1 j hj),fun j hj hl=>?_,S.stay h3 hw⟩;have hne:i≠ch.getD j 0:=fun e=>hi (by rw[e,List.getD_eq_getElem?_getD,aV hl];exact dK hl);rw[getD_set_ne true hne];exact h2 j hj hl
theorem cD{l:Array Bool}{i:Nat}(h1:l.getD i false=true)(h2:l.getD i true=false):False:=by
 have:=ly h1;simp[this] at h1 h2;rw[h1] at h2;cases h2
theorem mK.here{listed:Array Bool}{w:World}{i q0:Nat}(hC:mD ops ch=true)(h:mK S ch listed w)(hq0:ch[q0]?=some i)(hi:i∈Region.ready .any ops listed):
 (∀i,i<q0->listed.getD (ch.getD i 0) false=true)/\(∀i,q0<=i->i<ch.length->listed.getD (ch.getD i 0) true=false)/\S.ph q0 w:=by
 obtain⟨q,hq,h1,h2,h3⟩:=h
 obtain⟨hnd,hch⟩:=Ar hC
 have hl0:q0<ch.length:=(List.getElem?_eq_some_iff.1 hq0).1
 have hg0:ch.getD q0 0=i:=by rw[List.getD_eq_getElem?_getD,hq0];rfl
 obtain⟨hun,o,ho,hall⟩:=mem_ready.1 hi
 have e:q=q0:=by
  rcases Nat.lt_trichotomy q q0 with hlt|heq|hgt
  ·obtain⟨p,hp,e,he,hb,hon⟩:=hch (q0-1) (by omega);rw[show q0-1+1=q0 by omega,hg0,ho] at hp;cases hp;have h4:=hall e he hb;rw[hon] at h4;exact(cD h4 (h2 (q0-1) (by omega) (by omega))).elim
  ·exact heq
  ·have h4:=h1 q0 hgt;rw[hg0] at h4;exact(cD h4 hun).elim
 subst e
 exact⟨h1,h2,h3⟩
theorem mK.next{listed:Array Bool}{w w':World}{i q0:Nat}(hC:mD ops ch=true)(h:mK S ch listed w)(hq0:ch[q0]?=some i)(hi:i∈Region.ready .any ops listed)(hil:i<listed.size)(hw:S.ph (q0+1) w'):mK S ch (listed.setIfInBounds i true) w':=by
 obtain⟨h1,h2,h3⟩:=h.here hC hq0 hi;obtain⟨hnd,_⟩:=Ar hC;have hl0:q0<ch.length:=(List.getElem?_eq_some_iff.1 hq0).1;have hg0:ch.getD q0 0=i:=by rw[List.getD_eq_getElem?_getD,hq0];rfl
 refine⟨q0+1,by omega,fun j hj=>?_,fun j hj hl=>?_,hw⟩
 ·rcases(show j<q0\/j=q0 by omega) with hlt|rfl
  ·exact getD_set_true (h1 j hlt)
  ·rw[hg0];exact cU hil
 ·have hne:i≠ch.getD j 0:=fun e=>by
   have h5:ch[j]?=ch[q0]?:=by
    rw[hq0,e,List.getD_eq_getElem?_getD,aV hl];rfl
   have:=(List.getElem?_inj hl hnd).1 h5;omega
  rw[getD_set_ne true hne];exact h2 j (by omega) hl
theorem J2{i:Nat}{o:Oper}{s:Tmp->bn}(h:JS S ch P ops i o s (r i)):(i∉ch/\yA S P ops o s (r i))\/∃q,ch[q]?=some i/\sC S P ops q o s (r i):=by
 unfold JS at h;by_cases hi:i∈ch
 ·rw[if_pos (by simpa using hi)] at h;exact .inr ⟨ch.idxOf i,by rw[aV (List.idxOf_lt_length_of_mem hi),List.getElem_idxOf],h⟩
 ·rw[if_neg (by simpa using hi)] at h;exact .inl ⟨hi,h⟩
theorem IX(hC:mD ops ch=true)(hF:iH ops n)(hn:a.tmps.size=n)(hk:∀k,(r k).keeps S.K)(hS:∀i o,ops[i]?=some o->JS S ch P ops i o (aD ops r (fun t x _=>x=a.eval (.tmp t)) i) (r i))
 {Q:Exit->Act->World->Prop}
 (hQ:∀c w,S.K S.w0 w->S.ph ch.length w->c.tmps.size=a.tmps.size->c.defers=a.defers->(∀t,aD ops r (fun t x _=>x=a.eval (.tmp t)) ops.size t (c.eval (.tmp t)) w)->Q .normal c w) (hch:∀j∈ch,j<ops.size):
 ∀(fuel:Nat) (listed:Array Bool) (c:Act) (w:World),listed.toList.count false<=fuel->gW S.K ops r S.w0 a listed c w->mK S ch listed w->wpAny P .any ops Q fuel listed c w:=by
 haveI:=F7 S
 have hend:∀(listed:Array Bool) (c:Act) (w:World),gW S.K ops r S.w0 a listed c w->mK S ch listed w->Region.ready .any ops listed=[]->Q .normal c w:=fun listed c w h hp h0=>by
  have hall:=eQ hF h.size h0;have hph:S.ph ch.length w:=by
   obtain⟨q,hq,h1,h2,h3⟩:=hp;have e:q=ch.length:=by
    rcases Nat.lt_or_ge q ch.length with hlt|hge
    ·exfalso;have hm:ch.getD q 0∈ch:=by rw[List.getD_eq_getElem?_getD,aV hlt];exact dK hlt
     exact cD (hall _ (hch _ hm)) (h2 q (aF _) hlt)
    ·omega
   exact e▸h3
  refine hQ c w h.below hph h.frame h.defers fun t=>?_;by_cases hex:∃(j:Nat) (p:Oper),ops[j]?=some p/\p.dst=some t
  ·obtain⟨j,p,hp,hd⟩:=hex;rw[fy hF (aN hp) hp hd];exact h.done j p t hp (hall j (aN hp)) hd
  ·rw[eH fun j hj hd=>hex ⟨j,by
    cases hp:ops[j]? with
    |none=>rw[hp] at hd;cases hd
    |some p=>rw[hp] at hd;exact⟨p,rfl,hd⟩⟩]
   exact h.rest t fun j p hp _ hd=>hex ⟨j,p,hp,hd⟩
 intro fuel
 induction fuel with
 |zero=>
  intro listed c w hc h hp;have h0:Region.ready .any ops listed=[]:=by
   cases hr:Region.ready .any ops listed with
   |nil=>rfl
   |cons i l=>
    have hi:i∈Region.ready .any ops listed:=by rw[hr];exact List.mem_cons_self
    obtain⟨hun,o,ho,_⟩:=mem_ready.1 hi;have hil:i<listed.size:=by rw[h.size];exact aN ho
    have:=cQ hil hun;omega
  exact⟨h0,hend _ _ _ h hp h0⟩
 |succ fuel ih=>
  intro listed c w hc h hp;refine⟨hend _ _ _ h hp,fun i hi=>?_⟩;obtain⟨hun,o,ho,_⟩:=mem_ready.1 hi;have hil:i<listed.size:=by rw[h.size];exact aN ho
  have hcnt:=cQ hil hun;unfold wpOp;rw[ho];simp only[];rcases J2 (hS i o ho) with⟨hni,hs⟩|⟨q,hq,hs⟩
  ·have hex:∃q,S.ph q w:=by obtain⟨q,_,_,_,h3⟩:=hp;exact⟨q,h3⟩
   rcases hs c w hex (h.looks hF ho hi) with⟨h1,h2⟩|⟨h1,h2⟩
   ·rw[h1];exact ih _ _ _ (by omega) (h.step hF hn hk ho hi (S.refl w) h2) (hp.other hni (bE.refl w))
   ·rw[h1];exact .inl (h2 _ _ fun x w' hb hr=>ih _ _ _ (by omega) (h.step hF hn hk ho hi (S.grow hb) hr) (hp.other hni hb))
  ·obtain⟨h1,h2⟩:=hs c w (hp.here hC hq hi).2.2 (h.looks hF ho hi);rw[h1];exact .inl (h2 _ _ fun x w' hb hp' hr=>ih _ _ _ (by omega) (h.step hF hn hk ho hi hb hr) (hp.next hC hq hi hil hp'))
theorem AZ(hC:mD ops ch=true)(hF:iH ops n)(hn:a.tmps.size=n)(hk:∀k,(r k).keeps S.K)(hsz:ops.size=m+1)(hl:∀j,j<m->∃k p,j<k/\ops[k]?=some p/\∃e∈p.after,Region.binds .any e=true/\e.on=j)
 (hS:∀i o,i<m->ops[i]?=some o->JS S ch P ops i o (aD ops r (fun t x _=>x=a.eval (.tmp t)) i) (r i)) {Q:Exit->Act->World->Prop}
 (hQ:∀c w,S.K S.w0 w->S.ph ch.length w->c.tmps.size=a.tmps.size->c.defers=a.defers->(∀t,aD ops r (fun t x _=>x=a.eval (.tmp t)) m t (c.eval (.tmp t)) w)->wpOp P ops Q m (Q .normal) c w) (hch:∀j∈ch,j<m):
 ∀(fuel:Nat) (listed:Array Bool) (c:Act) (w:World),listed.toList.count false<=fuel->gW S.K ops r S.w0 a listed c w->mK S ch listed w->listed.getD m true=false->wpAny P .any ops Q fuel listed c w:=by
 haveI:=F7 S
 have hnot:∀(listed:Array Bool) (c:Act) (w:World),gW S.K ops r S.w0 a listed c w->listed.getD m true=false->Region.ready .any ops listed≠[]:=fun listed c w h hm h0=>by
  have:=eQ hF h.size h0 m (by omega);exact cD this hm
 intro fuel
 induction fuel with
 |zero=>
  intro listed c w hc h hp hm;exfalso;have hml:m<listed.size:=by rw[h.size];omega
  have:=cQ hml hm;omega
 |succ fuel ih=>
  intro listed c w hc h hp hm;refine⟨fun h0=>absurd h0 (hnot _ _ _ h hm),fun i hi=>?_⟩;obtain⟨hun,o,ho,_⟩:=mem_ready.1 hi;have hil:i<listed.size:=by rw[h.size];exact aN ho
  have hcnt:=cQ hil hun;by_cases him:i=m
  ·subst him;have hall:=Dx hsz hl h hi;have hph:S.ph ch.length w:=by
    obtain⟨q,hq,h1,h2,h3⟩:=hp;have e:q=ch.length:=by
     rcases Nat.lt_or_ge q ch.length with hlt|hge
     ·exfalso;have hm:ch.getD q 0∈ch:=by rw[List.getD_eq_getElem?_getD,aV hlt];exact dK hlt
      have hlt2:=hch _ hm;exact cD (hall (i-1-ch.getD q 0) _ (by omega)) (h2 q (aF _) hlt)
     ·omega
    exact e▸h3
   have hfit:∀t,aD ops r (fun t x _=>x=a.eval (.tmp t)) i t (c.eval (.tmp t)) w:=fun t=>by
    by_cases hex:∃(j:Nat) (p:Oper),j<i/\ops[j]?=some p/\p.dst=some t
    ·obtain⟨j,p,hji,hp,hd⟩:=hex;rw[fy hF hji hp hd];exact h.done j p t hp (hall (i-1-j) j (by omega)) hd
    ·rw[eH fun j hj hd=>hex ⟨j,by
      cases hp:ops[j]? with
      |none=>rw[hp] at hd;cases hd
      |some p=>rw[hp] at hd;exact⟨p,hj,rfl,hd⟩⟩]
     refine h.rest t fun j p hp hj hd=>hex ⟨j,p,?_,hp,hd⟩;have hjs:=aN hp;have hne:j≠i:=fun e=>by
      subst e;exact cD hj hun
     omega
   refine wpOp_mono (fun c' w' hq=>?_) (hQ c w h.below hph h.frame h.defers hfit);have hempty:Region.ready .any ops (listed.setIfInBounds i true)=[]:=by
    cases hr:Region.ready .any ops (listed.setIfInBounds i true) with
    |nil=>rfl
    |cons k l=>
     exfalso;have hk':k∈Region.ready .any ops (listed.setIfInBounds i true):=by rw[hr];exact List.mem_cons_self
     obtain⟨hku,p,hp,_⟩:=mem_ready.1 hk';have hks:=aN hp;have hkl:(listed.setIfInBounds i true).getD k false=true:=by
      by_cases hki:k=i
      ·subst hki;exact cU hil
      ·exact getD_set_true (hall (i-1-k) k (by omega))
     exact cD hkl hku
   cases fuel with
   |zero=>exact⟨hempty,hq⟩
   |succ fuel=>exact⟨fun _=>hq,fun k hk=>by rw[hempty] at hk;cases hk⟩
  ·have hlt:i<m:=by have:=aN ho;omega
   have hm':(listed.setIfInBounds i true).getD m true=false:=by rw[getD_set_ne true him];exact hm
   unfold wpOp;rw[ho];simp only[];rcases J2 (hS i o hlt ho) with⟨hni,hs⟩|⟨q,hq,hs⟩
   ·have hex:∃q,S.ph q w:=by obtain⟨q,_,_,_,h3⟩:=hp;exact⟨q,h3⟩
    rcases hs c w hex (h.looks hF ho hi) with⟨h1,h2⟩|⟨h1,h2⟩
    ·rw[h1];exact ih _ _ _ (by omega) (h.step hF hn hk ho hi (S.refl w) h2) (hp.other hni (bE.refl w)) hm'
    ·rw[h1];exact .inl (h2 _ _ fun x w' hb hr=>ih _ _ _ (by omega) (h.step hF hn hk ho hi (S.grow hb) hr) (hp.other hni hb) hm')
   ·obtain⟨h1,h2⟩:=hs c w (hp.here hC hq hi).2.2 (h.looks hF ho hi);rw[h1];exact .inl (h2 _ _ fun x w' hb hp' hr=>ih _ _ _ (by omega) (h.step hF hn hk ho hi hb hr) (hp.next hC hq hi hil hp') hm')
end
def bS(S:fK)(ch:List Nat)(P:Program)(ops:Array Oper)(n:Nat)(ds:List Deferred)(F:Act->World->Prop)(k:Nat)(l:List Oper)(H:List (Tmp×bn))(a:Act):Prop:=
 AX (JS S ch P ops) (fun r=>r.keeps S.K) (fun s=>∀c w',S.K S.w0 w'->S.ph ch.length w'->c.tmps.size=n->c.defers=ds->(∀t,s t (c.eval (.tmp t)) w')->F c w') k l (em H a)
section
variable {P:Program} {id:Nat} {Q:Exit->Act->World->Prop} {a:Act} {w:World} {l:List Oper}
theorem dZ(S:fK)(ch:List Nat)(hw:S.w0=w)(hm:P.follows .mixedOrders=true)(hB:fo l.toArray a.tmps.size=true)(hC:mD l.toArray ch=true)(hch:ch.all (fun j=>decide (j<l.length))=true)
 (h:bS S ch P l.toArray a.tmps.size a.defers (Q .normal) 0 l [] a):(Code.region id l.toArray true).wp P Q a w:=by
 subst hw
 obtain⟨r,h1,h2,h3⟩:=nH (ops:=l.toArray) (Kp:=fun r=>r.keeps S.K) (fun _ _ _ _ _=>trivial) l 0 (fun _ _ _=>True) (fun t x _=>x=a.eval (.tmp t)) (fun j _=>by simp) (fun j hj=>by omega) (fun j _ hj=>by omega) h
 refine wp_region_any hm ?_
 have hF:=gU hB
 have hch':∀j∈ch,j<l.toArray.size:=fun j hj=>by simpa using List.all_eq_true.1 hch j hj
 refine IX hC hF rfl h1 (fun i o ho=>h2 i o (by have:=aN ho;simpa using this) ho) (fun c w' hb hp hs hd ht=>h3 c w' hb hp hs hd (by simpa using ht)) hch' _ _ _ _ ?_ ⟨by simp,fun j p hp hj=>?_,fun j p t hp hj=>?_,fun _ _=>rfl,rfl,rfl,S.grow (bE.drew (R:=co) S.w0)⟩
  ⟨0,Nat.zero_le _,fun i hi=>by omega,fun i _ hi=>?_,S.stay S.start (bE.drew (R:=co) S.w0)⟩
 ·rw[Array.toList_replicate];exact aK List.count_le_length (by simp)
 ·rw[bC] at hj;cases hj
 ·rw[bC] at hj;cases hj
 ·have hm:ch.getD i 0∈ch:=by rw[List.getD_eq_getElem?_getD,aV hi];exact dK hi
  have:=hch' _ hm;rw[Array.getD_eq_getD_getElem?,Array.getElem?_replicate,if_pos (by simpa using this)];rfl
theorem fu(S:fK)(ch:List Nat){oL:Oper}(hw:S.w0=w)(hm:P.follows .mixedOrders=true)(hB:fo l.toArray a.tmps.size=true)(hL:l.getLast?=some oL)(hD:E4 l.toArray (l.length-1)=true)(hC:mD l.toArray ch=true)(hch:ch.all (fun j=>decide (j<l.length-1))=true)
 (h:bS S ch P l.toArray a.tmps.size a.defers (fun c w'=>wpList P l.toArray Q [oL] c w') 0 l.dropLast [] a):(Code.region id l.toArray true).wp P Q a w:=by
 subst hw
 have hF:=gU hB
 obtain⟨hsz,hl⟩:=Ca hD
 have hlen:l.length=(l.length-1)+1:=by simpa using hsz
 obtain⟨r,h1,h2,h3⟩:=nH (ops:=l.toArray) (Kp:=fun r=>r.keeps S.K) (fun _ _ _ _ _=>trivial) l.dropLast 0 (fun _ _ _=>True) (fun t x _=>x=a.eval (.tmp t)) (fun j hj=>by
  rw[List.length_dropLast] at hj
  rw[List.getElem?_dropLast,Nat.zero_add];simp[hj]) (fun j hj=>by omega) (fun j _ hj=>by omega) h
 rw[List.length_dropLast,Nat.zero_add] at h2 h3
 refine wp_region_any hm ?_
 have hlast:l.toArray[l.length-1]?=some oL:=by rw[<-hL,List.getLast?_eq_getElem?];simp
 have hch':∀j∈ch,j<l.length-1:=fun j hj=>by simpa using List.all_eq_true.1 hch j hj
 refine AZ hC hF rfl h1 hsz hl h2 (fun c w' hb hp hs hd ht=>?_) hch' _ _ _ _ ?_ ⟨by simp,fun j p hp hj=>?_,fun j p t hp hj=>?_,fun _ _=>rfl,rfl,rfl,S.grow (bE.drew (R:=co) S.w0)⟩
  ⟨0,Nat.zero_le _,fun i hi=>by omega,fun i _ hi=>?_,S.stay S.start (bE.drew (R:=co) S.w0)⟩ ?_
 ·have:=h3 c w' hb hp hs hd ht;unfold wpOp;rw[hlast];exact this
 ·rw[Array.toList_replicate];exact aK List.count_le_length (by simp)
 ·rw[bC] at hj;cases hj
 ·rw[bC] at hj;cases hj
 ·have hm:ch.getD i 0∈ch:=by rw[List.getD_eq_getElem?_getD,aV hi];exact dK hi
  have:=hch' _ hm;rw[Array.getD_eq_getD_getElem?,Array.getElem?_replicate,if_pos (by rw[List.size_toArray];omega)];rfl
 ·rw[Array.getD_eq_getD_getElem?,Array.getElem?_replicate,if_pos (by rw[List.size_toArray];omega)];rfl
end
section
variable {S:fK} {ch:List Nat} {P:Program} {ops:Array Oper} {n k:Nat} {ds:List Deferred} {F:Act->World->Prop} {rest:List Oper} {H:List (Tmp×bn)} {a:Act} {o:Oper}
theorem Hb(h1:a.tmps.size=n)(h2:a.defers=ds)(h0:oj H=true)(h:∀w',S.K S.w0 w'->S.ph ch.length w'->aB H a w' (fun c=>F c w')):bS S ch P ops n ds F k [] H a:=by
 intro c w' hb hp hs hd ht;exact mu H a w' _ h0 (h w' hb hp) c (hs.trans h1.symm) (hd.trans h2.symm) ht
theorem wn{d:Tmp}{r:bn}(hd:o.dst=some d):(fun t=>if o.dst=some t then r else em H a t)=em ((d,r)::H) a:=by
 funext t;rw[hd];unfold em;rw[show cw ((d,r)::H) t=if d=t then some r else cw H t from rfl];by_cases hdt:d=t
 ·simp[hdt]
 ·simp[hdt]
theorem La{r:bn}{s:Tmp->bn}(hi:ch.contains k=false)(h:yA S P ops o s r):JS S ch P ops k o s r:=by
 unfold JS;rw[if_neg (by rw[hi];simp)];exact h
theorem LK{q:Nat}{r:bn}{s:Tmp->bn}(hi:ch.contains k=true)(hq:ch.idxOf k=q)(h:sC S P ops q o s r):JS S ch P ops k o s r:=by
 unfold JS;rw[if_pos hi,hq];exact h
theorem EU(hi:ch.contains k=false)(hw:Region.wanted o (yielded ops a.tmps)=false)(hl:bi ops H o=true)(hd:br H a o.dst=true)(h:bS S ch P ops n ds F (k+1) rest H (a.put o.dst undef)):bS S ch P ops n ds F k (o::rest) H a:=by
 refine⟨fun x _=>x=undef,fun _ _ _ h _=>h,La hi fun c w hb hs=>.inl ⟨?_,rfl⟩,?_⟩
 ·rw[bz fun g b t hg ht=>cr hl hs t (cx hg ht)];exact hw
 ·rw[eV hd];exact h
theorem BU(hi:ch.contains k=false)(hw:Region.wanted o (yielded ops a.tmps)=true)(hp:jL o.op=true)(hl:bi ops H o=true)(hd:br H a o.dst=true)
 (h:o.quiet P a (fun w'=>∃x:PW S,w'=x.w) (fun a'=>bS S ch P ops n ds F (k+1) rest H a')):bS S ch P ops n ds F k (o::rest) H a:=by
 obtain⟨v,h1,h2⟩:=h
 refine⟨fun x _=>x=v,fun _ _ _ h _=>h,La hi fun c w hb hs=>.inr ?_,by rw[eV hd];exact h2⟩
 have he:=cr hl hs
 refine⟨by rw[bz fun g b t hg ht=>he t (cx hg ht)];exact hw,fun K Q' hK=>?_⟩
 have h3:=h1 w ⟨⟨w,hb⟩,rfl⟩
 have hne:∀w' f args,(execOp a.eval o).run P w≠.ok (.enter f args) w':=fun w' f args=>lM hp a.eval w w' f args
 unfold Oper.quietAt at h3
 unfold Oper.wp
 rw[bO (fun cs b e=>by rw[e] at hp;cases hp) he]
 generalize (execOp a.eval o).run P w=res at*
 cases res with
 |ok m w'=>
  cases m<;>simp only[Oper.quietUpon] at h3<;>simp only[Oper.upon]
  case value u=>
   obtain⟨rfl,rfl⟩:=h3;exact hK _ _ (bE.refl _) rfl
  case skip=>
   obtain⟨rfl,rfl⟩:=h3;exact hK _ _ (bE.refl _) rfl
  case enter f args=>exact absurd rfl (hne _ _ _)
 |halt x w'=>simp only[Oper.quietUpon] at h3
theorem Ha(hi:ch.contains k=false)(hp:jL o.op=true)(hl:bi ops H o=true)(hd:br H a o.dst=true)
 (h:∀K:Act->Prop,(∀a',bS S ch P ops n ds F (k+1) rest H a'->K a')->wpQuiet P ops (fun w'=>∃x:PW S,w'=x.w) K [o] a):bS S ch P ops n ds F k (o::rest) H a:=by
 have h':=h _ fun _ h=>h
 unfold wpQuiet at h'
 by_cases hw:Region.wanted o (yielded ops a.tmps)=true
 ·rw[if_pos hw] at h';exact BU hi hw hp hl hd h'
 ·rw[if_neg hw] at h';exact EU hi (by simpa using hw) hl hd h'
theorem oT{dst:Option Tmp}{v:Value}{type:TypeId}{pos:String}
 (h:∀K:Act->Prop,(∀a',bS S ch P ops n ds F k rest H a'->K a')->wpQuiet P ops (fun w'=>∃x:PW S,w'=x.w) K [⟨dst,.move (.const v),type,pos,#[],none⟩] a):bS S ch P ops n ds F k rest H (a.put dst v):=by
 have h':=h _ fun _ h=>h
 unfold wpQuiet at h'
 rw[if_pos (by rfl)] at h'
 obtain⟨u,h1,h2⟩:=h'
 have h3:=h1 S.w0 ⟨⟨S.w0,0,S.start⟩,rfl⟩
 obtain rfl:u=v:=by
  have:Oper.quietUpon P (fun w'=>∃x:PW S,w'=x.w) S.w0 u (.ok (.value v) S.w0):=h3;exact this.2.symm
 exact h2
theorem zM{v:Value}(hi:ch.contains k=false)(hw:Region.wanted o (yielded ops a.tmps)=true)(hns:∀cs b,o.op≠.select cs b)(hl:bi ops H o=true)(hd:br H a o.dst=true)
 (hr:∀w,(∃q,S.ph q w)->(execOp a.eval o).run P w=.ok (.value v) w) (h:bS S ch P ops n ds F (k+1) rest H (a.put o.dst v)):bS S ch P ops n ds F k (o::rest) H a:=by
 refine⟨fun x _=>x=v,fun _ _ _ h _=>h,La hi fun c w hb hs=>.inr ?_,by rw[eV hd];exact h⟩
 have he:=cr hl hs
 refine⟨by rw[bz fun g b t hg ht=>he t (cx hg ht)];exact hw,fun K Q' hK=>?_⟩
 unfold Oper.wp
 rw[bO hns he,hr w hb]
 exact hK _ _ (bE.refl _) rfl
theorem pO{d:Tmp}{r:bn}(hi:ch.contains k=false)(hk:r.keeps S.K)(hw:Region.wanted o (yielded ops a.tmps)=true)(hns:∀cs b,o.op≠.select cs b)(hl:bi ops H o=true)(hd:o.dst=some d)
 (hr:∀w,(∃q,S.ph q w)->∃x w',(execOp a.eval o).run P w=.ok (.value x) w'/\co w w'/\r x w') (h:bS S ch P ops n ds F (k+1) rest ((d,r)::H) a):bS S ch P ops n ds F k (o::rest) H a:=by
 refine⟨r,hk,La hi fun c w hb hs=>.inr ?_,by rw[wn hd];exact h⟩
 have he:=cr hl hs
 refine⟨by rw[bz fun g b t hg ht=>he t (cx hg ht)];exact hw,fun K Q' hK=>?_⟩
 obtain⟨x,w',h1,h2,h3⟩:=hr w hb
 unfold Oper.wp
 rw[bO hns he,h1]
 exact hK _ _ h2 h3
theorem EW{f:FuncId}{args:Array Value}{v:Value}(hi:ch.contains k=false)(hw:Region.wanted o (yielded ops a.tmps)=true)(hns:∀cs b,o.op≠.select cs b)(hl:bi ops H o=true)(hd:br H a o.dst=true)
 (hr:∀w,(execOp a.eval o).run P w=.ok (.enter f args) w) (hc:∀w,(∃q,S.ph q w)->Calls P f args w fun e w'=>e=.returned v/\co w w')
 (h:bS S ch P ops n ds F (k+1) rest H (a.put o.dst v)):bS S ch P ops n ds F k (o::rest) H a:=by
 refine⟨fun x _=>x=v,fun _ _ _ h _=>h,La hi fun c w hb hs=>.inr ?_,by rw[eV hd];exact h⟩
 have he:=cr hl hs
 refine⟨by rw[bz fun g b t hg ht=>he t (cx hg ht)];exact hw,fun K Q' hK=>?_⟩
 unfold Oper.wp
 rw[bO hns he,hr]
 exact(hc w hb).mono fun e w' ⟨h1,h2⟩=>by subst h1;exact hK _ _ h2 rfl
theorem G0(q:Nat){f:FuncId}{args:Array Value}{v:Value}(hi:ch.contains k=true)(hq:ch.idxOf k=q)(hw:Region.wanted o (yielded ops a.tmps)=true)(hns:∀cs b,o.op≠.select cs b)(hl:bi ops H o=true)(hd:br H a o.dst=true)
 (hr:∀w,(execOp a.eval o).run P w=.ok (.enter f args) w) (hc:∀w,S.ph q w->Calls P f args w fun e w'=>e=.returned v/\S.K w w'/\S.ph (q+1) w')
 (h:bS S ch P ops n ds F (k+1) rest H (a.put o.dst v)):bS S ch P ops n ds F k (o::rest) H a:=by
 refine⟨fun x _=>x=v,fun _ _ _ h _=>h,LK hi hq fun c w hb hs=>?_,by rw[eV hd];exact h⟩
 have he:=cr hl hs
 refine⟨by rw[bz fun g b t hg ht=>he t (cx hg ht)];exact hw,fun K Q' hK=>?_⟩
 unfold Oper.wp
 rw[bO hns he,hr]
 exact(hc w hb).mono fun e w' ⟨h1,h2,h3⟩=>by subst h1;exact hK _ _ h2 h3 rfl
theorem pN(q:Nat){d:Tmp}{r:bn}(hi:ch.contains k=true)(hq:ch.idxOf k=q)(hk:r.keeps S.K)(hs:sC S P ops q o (em H a) r)(hd:o.dst=some d)(h:bS S ch P ops n ds F (k+1) rest ((d,r)::H) a):bS S ch P ops n ds F k (o::rest) H a:=
 ⟨r,hk,LK hi hq hs,by rw[wn hd];exact h⟩
theorem jY(h:∀K:Act->Prop,(∀a',bS S ch P ops n ds F (k+1) rest H a'->K a')->wpQuiet P ops (fun w'=>∃x:PW S,w'=x.w) K [o] a)(hi:ch.contains k=false:=by kernel_rfl)(hp:jL o.op=true:=by kernel_rfl)(hl:bi ops H o=true:=by kernel_rfl)(hd:br H a o.dst=true:=by kernel_rfl):bS S ch P ops n ds F k (o::rest) H a:=Ha hi hp hl hd h
theorem Dz(h:∀w',S.K S.w0 w'->S.ph ch.length w'->aB H a w' (fun c=>F c w'))(h1:a.tmps.size=n:=by kernel_rfl)(h2:a.defers=ds:=by kernel_rfl)(h0:oj H=true:=by kernel_rfl):bS S ch P ops n ds F k [] H a:=Hb h1 h2 h0 h
theorem Lh{v:Value}(hr:∀w,(∃q,S.ph q w)->(execOp a.eval o).run P w=.ok (.value v) w)(h:∀K:Act->Prop,(∀a',bS S ch P ops n ds F (k+1) rest H a'->K a')->wpQuiet P ops (fun w'=>∃x:PW S,w'=x.w) K [⟨o.dst,.move (.const v),0,"",#[],none⟩] a)
 (hi:ch.contains k=false:=by kernel_rfl) (hw:Region.wanted o (yielded ops a.tmps)=true:=by kernel_rfl) (hns:∀cs b,o.op≠.select cs b:=by intro _ _ h;cases h) (hl:bi ops H o=true:=by kernel_rfl) (hd:br H a o.dst=true:=by kernel_rfl):bS S ch P ops n ds F k (o::rest) H a:=zM hi hw hns hl hd hr (oT h)
theorem IV{f:FuncId}{args:Array Value}{v:Value}(hc:∀w,(∃q,S.ph q w)->Calls P f args w fun e w'=>e=.returned v/\co w w')(h:∀K:Act->Prop,(∀a',bS S ch P ops n ds F (k+1) rest H a'->K a')->wpQuiet P ops (fun w'=>∃x:PW S,w'=x.w) K [⟨o.dst,.move (.const v),0,"",#[],none⟩] a)
 (hi:ch.contains k=false:=by kernel_rfl) (hw:Region.wanted o (yielded ops a.tmps)=true:=by kernel_rfl) (hns:∀cs b,o.op≠.select cs b:=by intro _ _ h;cases h) (hl:bi ops H o=true:=by kernel_rfl) (hd:br H a o.dst=true:=by kernel_rfl) (hr:∀w,(execOp a.eval o).run P w=.ok (.enter f args) w:=by intro _;go_simp):bS S ch P ops n ds F k (o::rest) H a:=
 EW hi hw hns hl hd hr hc (oT h)
theorem AV(q:Nat){f:FuncId}{args:Array Value}{v:Value}(hc:∀w,S.ph q w->Calls P f args w fun e w'=>e=.returned v/\S.K w w'/\S.ph (q+1) w')(h:∀K:Act->Prop,(∀a',bS S ch P ops n ds F (k+1) rest H a'->K a')->wpQuiet P ops (fun w'=>∃x:PW S,w'=x.w) K [⟨o.dst,.move (.const v),0,"",#[],none⟩] a)
 (hi:ch.contains k=true:=by kernel_rfl) (hq:ch.idxOf k=q:=by kernel_rfl) (hw:Region.wanted o (yielded ops a.tmps)=true:=by kernel_rfl) (hns:∀cs b,o.op≠.select cs b:=by intro _ _ h;cases h) (hl:bi ops H o=true:=by kernel_rfl) (hd:br H a o.dst=true:=by kernel_rfl) (hr:∀w,(execOp a.eval o).run P w=.ok (.enter f args) w:=by intro _;go_simp):bS S ch P ops n ds F k (o::rest) H a:=
 G0 q hi hq hw hns hl hd hr hc (oT h)
end
section
variable {P:Program} {ops:Array Oper} {n m x:Nat}
theorem GA(c:Act){a:Option Tmp}{b:Tmp}(h:a≠some b)(u v:Value):(c.put a u).put (some b) v=(c.put (some b) v).put a u:=by
 cases a with
 |none=>rfl
 |some a=>
  have hab:a≠b:=fun e=>h (by rw[e]);simp only[Act.put];rw[Array.setIfInBounds_comm _ _ hab]
def bF(Q:Exit->Act->World->Prop):Exit->Act->World->Prop:=Exit.then (Q .normal) (fun _ _ _=>False)
theorem A7{o:Oper}{c:Act}{dx:Tmp}{v:Value}{K:Act->World->Prop}{Q:Exit->Act->World->Prop}(hd:o.dst≠some dx)(res:Result Next)(h:o.upon P (c.put (some dx) v) K (bF Q) res):
 o.upon P c (fun c1 w1=>(∃u ds,c1=({c with defers:=ds}:Act).put o.dst u)/\K (c1.put (some dx) v) w1) Q res:=by
 have hp:∀(u:Value) (ds:List Deferred),(({c with defers:=ds}:Act).put o.dst u).put (some dx) v=({c.put (some dx) v with defers:=ds}:Act).put o.dst u:=fun u ds=>GA {c with defers:=ds} hd u v
 cases res with
 |ok r w=>
  cases r with
  |value u=>exact⟨⟨u,c.defers,rfl⟩,by rw[show c.put o.dst u=({c with defers:=c.defers}:Act).put o.dst u from rfl,hp];exact h⟩
  |skip=>exact⟨⟨undef,c.defers,rfl⟩,by rw[show c.put o.dst undef=({c with defers:=c.defers}:Act).put o.dst undef from rfl,hp];exact h⟩
  |defer d=>exact⟨⟨undef,_,rfl⟩,by rw[hp];exact h⟩
  |enter f args=>
   refine Calls.mono h fun e w' he=>?_;cases e with
   |returned u=>exact⟨⟨u,c.defers,rfl⟩,by rw[show c.put o.dst u=({c with defers:=c.defers}:Act).put o.dst u from rfl,hp];exact he⟩
   |panicked ch=>exact he.elim
   |outgrown=>obtain⟨_,_,he⟩:=he;exact he.elim
  |row r args=>
   refine Rows.mono h fun u w' he=>?_;exact⟨⟨u,c.defers,rfl⟩,by rw[show c.put o.dst u=({c with defers:=c.defers}:Act).put o.dst u from rfl,hp];exact he⟩
  |_=>exact h.elim
 |halt e w=>
  cases e with
  |panic v=>exact h.elim
  |_=>exact h.elim
theorem D9{o:Oper}{c:Act}{K:Act->World->Prop}{Q:Exit->Act->World->Prop}(res:Result Next)(h:o.upon P c K (bF Q) res):o.upon P c K Q res:=by
 cases res with
 |ok r w=>
  cases r with
  |enter f args=>
   refine Calls.mono h fun e w' he=>?_;cases e with
   |returned u=>exact he
   |panicked ch=>exact he.elim
   |outgrown=>obtain⟨_,_,he⟩:=he;exact he.elim
  |row r args=>exact h
  |_=>exact h
 |halt e w=>
  cases e with
  |panic v=>exact h.elim
  |_=>exact h.elim
theorem oV{Q:Exit->Act->World->Prop}(h:LetsOut (bF Q)):False:=by
 obtain⟨_,_,h⟩:=h;exact h
def J1(ops:Array Oper)(m x:Nat):Prop:=
 m<ops.size/\(∀j,j<m->j≠x->∃k p,j<k/\k<=m/\k≠x/\ops[k]?=some p/\∃e∈p.after,Region.binds .any e=true/\e.on=j)/\
 (∀k,m<=k->k+1<ops.size->∃p,ops[k+1]?=some p/\∃e∈p.after,Region.binds .any e=true/\e.on=k)/\
 (∀k o,m<=k->ops[k]?=some o->o.guard=none/\∀cs b,o.op≠.select cs b)/\
 (x<m->∃o d,ops[x]?=some o/\o.guard=none/\o.dst=some d/\((∃s,o.op=.move s)\/∃s i,o.op=.extract s i))
theorem pL{listed:Array Bool}{k i:Nat}(hT:∀k,m<=k->k+1<ops.size->∃p,ops[k+1]?=some p/\∃e∈p.after,Region.binds .any e=true/\e.on=k)(hmk:m<=k)(hu:∀j,k<=j->j<ops.size->listed.getD j true=false)(hi:i∈Region.ready .any ops listed)(hki:k<=i):i=k:=by
 obtain⟨_,o,ho,hdep⟩:=mem_ready.1 hi;rcases Nat.lt_or_ge k i with h|h
 ·exfalso;have his:=aN ho;obtain⟨p,hp,e,he,hb,hon⟩:=hT (i-1) (by omega) (by omega);rw[show i-1+1=i by omega,ho] at hp;cases hp;have:=hdep e he hb;rw[hon] at this;exact cD this (hu (i-1) (by omega) (by omega))
 ·omega
theorem yS{Q:Exit->Act->World->Prop}(hF:iH ops n)(hT:∀k,m<=k->k+1<ops.size->∃p,ops[k+1]?=some p/\∃e∈p.after,Region.binds .any e=true/\e.on=k):
 ∀(fuel k:Nat) (listed:Array Bool) (c:Act) (w:World),listed.size=ops.size->m<=k->k<=ops.size->(∀j,j<k->listed.getD j false=true)->(∀j,k<=j->j<ops.size->listed.getD j true=false)->listed.toList.count false<=fuel->wpList P ops (bF Q) (ops.toList.drop k) c w->wpAny P .any ops Q fuel listed c w:=by
 have hend:∀(k:Nat) (listed:Array Bool),listed.size=ops.size->k=ops.size->(∀j,j<k->listed.getD j false=true)->Region.ready .any ops listed=[]:=fun k listed hs hk hl=>by
  cases hr:Region.ready .any ops listed with
  |nil=>rfl
  |cons i l=>
   exfalso;have hi:i∈Region.ready .any ops listed:=by rw[hr];exact List.mem_cons_self
   obtain⟨hun,o,ho,_⟩:=mem_ready.1 hi;exact cD (hl i (by have:=aN ho;omega)) hun
 have hnil:∀k c w,k=ops.size->wpList P ops (bF Q) (ops.toList.drop k) c w->Q .normal c w:=fun k c w hk h=>by
  rw[List.drop_of_length_le (by rw[Array.length_toList];omega)] at h;exact h
 intro fuel
 induction fuel with
 |zero=>
  intro k listed c w hs hmk hk hl hu hc h;have hke:k=ops.size:=by
   rcases Nat.lt_or_ge k ops.size with h1|h1
   ·have:=cQ (l:=listed) (i:=k) (by omega) (hu k (aF _) h1);omega
   ·omega
  exact⟨hend k listed hs hke hl,hnil k c w hke h⟩
 |succ fuel ih=>
  intro k listed c w hs hmk hk hl hu hc h;refine⟨fun h0=>?_,fun i hi=>?_⟩
  ·refine hnil k c w ?_ h;rcases Nat.lt_or_ge k ops.size with h1|h1
   ·exact(cD (eQ hF hs h0 k h1) (hu k (aF _) h1)).elim
   ·omega
  ·obtain⟨hun,o,ho,_⟩:=mem_ready.1 hi;have his:=aN ho;have hki:k<=i:=by
    rcases Nat.lt_or_ge i k with h1|h1
    ·exact(cD (hl i h1) hun).elim
    ·exact h1
   obtain rfl:=pL hT hmk hu hi hki;have hcnt:=cQ (l:=listed) (i:=i) (by omega) hun;rw[List.drop_eq_getElem_cons (by rw[Array.length_toList];exact his)] at h;have hoi:ops.toList[i]'(by rw[Array.length_toList];exact his)=o:=by
    rw[Array.getElem_toList];exact az ((Array.getElem?_eq_getElem his).symm.trans ho)
   rw[hoi] at h;have h2:wpOp P ops Q i (wpList P ops (bF Q) (ops.toList.drop (i+1))) c w:=by
    unfold wpOp;rw[ho];unfold wpList at h;simp only[];split at h
    ·rename_i hw;rw[if_pos hw];rcases h with h|h
     ·exact .inl (D9 _ h)
     ·exact(oV h.2).elim
    ·rename_i hw;rw[if_neg hw];exact h
   refine wpOp_mono (fun a w' ha=>?_) h2;refine ih (i+1) _ a w' (by rw[Array.size_setIfInBounds];exact hs) (by omega) (by omega) (fun j hj=>?_) (fun j hj hjs=>?_) (by omega) ha
   ·by_cases e:j=i
    ·subst e;exact cU (by omega)
    ·exact getD_set_true (hl j (by omega))
   ·rw[getD_set_ne true (by omega)];exact hu j (by omega) hjs
theorem Gc{Q:Exit->Act->World->Prop}{ox:Oper}{dx:Tmp}{v:Value}(hF:iH ops n)(hT:∀k,m<=k->k+1<ops.size->∃p,ops[k+1]?=some p/\∃e∈p.after,Region.binds .any e=true/\e.on=k)
 (hg:∀k o,m<=k->ops[k]?=some o->o.guard=none/\∀cs b,o.op≠.select cs b) (hxm:x<m) (hox:ops[x]?=some ox) (hgx:ox.guard=none) (af:ox.dst=some dx) (hnx:∀cs b,ox.op≠.select cs b):
 ∀(fuel k:Nat) (listed:Array Bool) (c:Act) (w:World),listed.size=ops.size->m<=k->k<=ops.size->(∀j,j<k->j≠x->listed.getD j false=true)->listed.getD x true=false->(∀j,k<=j->j<ops.size->listed.getD j true=false)->listed.toList.count false<=fuel->
  (∀W,(execOp c.eval ox).run P W=.ok (.value v) W)->wpList P ops (bF Q) (ops.toList.drop k) (c.put (some dx) v) w->wpAny P .any ops Q fuel listed c w:=by
 intro fuel
 induction fuel with
 |zero=>
  intro k listed c w hs hmk hk hl hxu hu hc hv h;exfalso;have:=cQ (l:=listed) (i:=x) (by have:=aN hox;omega) hxu;omega
 |succ fuel ih=>
  intro k listed c w hs hmk hk hl hxu hu hc hv h;have hxs:=aN hox;refine⟨fun h0=>(cD (eQ hF hs h0 x hxs) hxu).elim,fun i hi=>?_⟩;obtain⟨hun,o,ho,hdep⟩:=mem_ready.1 hi;have his:=aN ho;have hcnt:=cQ (l:=listed) (i:=i) (by omega) hun;by_cases hix:i=x
  ·subst hix;rw[hox] at ho;cases ho;unfold wpOp;rw[hox];have hw:Region.wanted ox (yielded ops c.tmps)=true:=by simp[Region.wanted,hgx]
   simp only[];rw[if_pos hw];refine .inl ?_;unfold Oper.wp;rw[hv w];show wpAny P .any ops Q fuel _ (c.put ox.dst v) w;rw[af];refine yS hF hT fuel k _ _ w (by rw[Array.size_setIfInBounds];exact hs) hmk hk (fun j hj=>?_) (fun j hj hjs=>?_) (by omega) h
   ·by_cases e:j=i
    ·subst e;exact cU (by omega)
    ·exact getD_set_true (hl j hj e)
   ·rw[getD_set_ne true (by omega)];exact hu j hj hjs
  ·have hki:k<=i:=by
    rcases Nat.lt_or_ge i k with h1|h1
    ·exact(cD (hl i h1 hix) hun).elim
    ·exact h1
   obtain rfl:=pL hT hmk hu hi hki;obtain⟨hgo,hns⟩:=hg i o hmk ho;obtain⟨_,_,hFo⟩:=hF i o ho;obtain⟨hdd,hlook⟩:=hFo x ox dx hox (fun e=>hix e.symm) af;have hnl:dx∉o.looksAt ops:=fun hm=>by
    rcases hlook hm with⟨_,e,he,hb,hon⟩|⟨h1,_⟩
    ·have:=hdep e he hb;rw[hon] at this;exact cD this hxu
    ·omega
   have hpure:∀t,o.dst=some t->t∉ox.looksAt ops:=fun t ht hm=>by
    rcases((hF x ox hox).2.2 i o t ho hix ht).2 hm with⟨h1,_⟩|⟨_,e,he,hb,hon⟩
    ·omega
    ·have:=hdep e he hb;rw[hon] at this;exact cD this hxu
   rw[List.drop_eq_getElem_cons (by rw[Array.length_toList];exact his)] at h;have hoi:ops.toList[i]'(by rw[Array.length_toList];exact his)=o:=by
    rw[Array.getElem_toList];exact az ((Array.getElem?_eq_getElem his).symm.trans ho)
   rw[hoi] at h;unfold wpList at h;have hw:∀T,Region.wanted o (yielded ops T)=true:=fun T=>by simp[Region.wanted,hgo]
   rw[if_pos (hw _)] at h;have h1:o.wp P (c.put (some dx) v) w (wpList P ops (bF Q) (ops.toList.drop (i+1))) (bF Q):=by
    rcases h with h|h
    ·exact h
    ·exact(oV h.2).elim
   unfold Oper.wp at h1;rw[bO (ops:=ops) (a:=c) hns (fun t ht=>eF (c:=c) (x:=v) (u:=dx) fun e=>hnl (by rw[e];exact ht))] at h1;have h2:=A7 hdd _ h1;unfold wpOp;rw[ho];simp only[];rw[if_pos (hw _)];refine .inl (Oper.wp_mono (fun c1 w1 hc1=>?_) h2);obtain⟨⟨u,ds,rfl⟩,hlist⟩:=hc1;refine ih (i+1) _ _ w1 (by rw[Array.size_setIfInBounds];exact hs) (by omega) (by omega) (fun j hj hjx=>?_) (by rw[getD_set_ne true hix];exact hxu) (fun j hj hjs=>?_) (by omega) (fun W=>?_) hlist
   ·by_cases e:j=i
    ·subst e;exact cU (by omega)
    ·exact getD_set_true (hl j (by omega) hjx)
   ·rw[getD_set_ne true (by omega)];exact hu j (by omega) hjs
   ·rw[bO (ops:=ops) (a:=c) hnx (fun t ht=>?_)]
    ·exact hv W
    ·cases hd:o.dst with
     |none=>rfl
     |some d=>exact eF (c:={c with defers:=ds}) (x:=u) (u:=d) fun e=>hpure d hd (by rw[e];exact ht)
theorem GD{ox:Oper}{c:Act}{w:World}{K:Act->World->Prop}(ho:(∃s,ox.op=.move s)\/∃s i,ox.op=.extract s i)(h:ox.wp P c w K (fun _ _ _=>False)):∃v,(∀W,(execOp c.eval ox).run P W=.ok (.value v) W)/\K (c.put ox.dst v) w:=by
 unfold Oper.wp at h;rcases ho with⟨s,hs⟩|⟨s,i,hs⟩
 ·have he:∀W,(execOp c.eval ox).run P W=.ok (.value (c.eval s)) W:=fun W=>by
   unfold execOp;rw[hs];rfl
  rw[he] at h;exact⟨_,he,h⟩
 ·have he:(∃v,∀W,(execOp c.eval ox).run P W=.ok (.value v) W)\/∀W,∃e,(execOp c.eval ox).run P W=.halt e W/\∀v,e≠.panic v:=by
   have key:execOp c.eval ox=(do let a <-Instr.extract (c.eval s) i;pure (Next.value a)):=by unfold execOp;rw[hs]
   rw[key];cases c.eval s with
   |tuple vs=>
    cases hi:vs[i]? with
    |some u=>exact .inl ⟨u,fun W=>by simp[Instr.extract,hi]⟩
    |none=>exact .inr fun W=>⟨_,by simp only[Instr.extract,hi];rfl,fun v e=>by cases e⟩
   |_=>exact .inr fun W=>⟨_,rfl,fun v e=>by cases e⟩
  rcases he with⟨v,hv⟩|he
  ·rw[hv] at h;exact⟨v,hv,h⟩
  ·obtain⟨e,he,hne⟩:=he w;rw[he] at h;cases e with
   |panic v=>exact(hne v rfl).elim
   |_=>exact h.elim
variable {R:World->World->Prop} {r:Nat->bn} {w0:World} {a:Act}
theorem Hg(hl:∀j,j<m->j≠x->∃k p,j<k/\k<=m/\k≠x/\ops[k]?=some p/\∃e∈p.after,Region.binds .any e=true/\e.on=j){listed:Array Bool}{c:Act}{w:World}(h:gW R ops r w0 a listed c w)
 (hm:m∈Region.ready .any ops listed):∀d j,j+d+1=m->j≠x->listed.getD j false=true:=by
 intro d
 induction d using Nat.strongRecOn with
 |_ d ih=>
  intro j hj hjx;obtain⟨k,p,hjk,hkm,hkx,hp,e,he,hb,rfl⟩:=hl j (by omega) hjx;by_cases hkm:k=m
  ·subst hkm;obtain⟨_,o,ho,hall⟩:=mem_ready.1 hm;rw[hp] at ho;cases ho;exact hall e he hb
  ·exact h.deps k p hp (ih (m-1-k) (by omega) k (by omega) hkx) e he hb
theorem AY[bE R](hF:iH ops n)(hn:a.tmps.size=n)(hk:∀k,(r k).keeps R)(hD:J1 ops m x)
 (hS:∀i o,i<m->ops[i]?=some o->gj R P ops w0 o (aD ops r (fun t x _=>x=a.eval (.tmp t)) i) (r i)) {Q:Exit->Act->World->Prop}
 (hQ:∀c w,R w0 w->c.tmps.size=a.tmps.size->c.defers=a.defers->(∀t,aD ops r (fun t x _=>x=a.eval (.tmp t)) m t (c.eval (.tmp t)) w)->wpList P ops (bF Q) (ops.toList.drop m) c w):
 ∀(fuel:Nat) (listed:Array Bool) (c:Act) (w:World),listed.toList.count false<=fuel->gW R ops r w0 a listed c w->(∀k,m<=k->k<ops.size->listed.getD k true=false)->wpAny P .any ops Q fuel listed c w:=by
 obtain⟨hms,hl,hT,hg,hx⟩:=hD
 have hslots:∀(listed:Array Bool) (c:Act) (w:World),gW R ops r w0 a listed c w->(∀k,m<=k->k<ops.size->listed.getD k true=false)->∀t,(∀j p,j<m->ops[j]?=some p->p.dst=some t->listed.getD j false=true)->aD ops r (fun t x _=>x=a.eval (.tmp t)) m t (c.eval (.tmp t)) w:=fun listed c w h hu t hall=>by
  by_cases hex:∃(j:Nat) (p:Oper),j<m/\ops[j]?=some p/\p.dst=some t
  ·obtain⟨j,p,hji,hp,hd⟩:=hex;rw[fy hF hji hp hd];exact h.done j p t hp (hall j p hji hp hd) hd
  ·rw[eH fun j hj hd=>hex ⟨j,by
    cases hp:ops[j]? with
    |none=>rw[hp] at hd;cases hd
    |some p=>rw[hp] at hd;exact⟨p,hj,rfl,hd⟩⟩]
   refine h.rest t fun j p hp hj hd=>?_;rcases Nat.lt_or_ge j m with h1|h1
   ·exact hex ⟨j,p,h1,hp,hd⟩
   ·exact cD hj (hu j h1 (aN hp))
 intro fuel
 induction fuel with
 |zero=>
  intro listed c w hc h hu;exfalso;have:=cQ (l:=listed) (i:=m) (by rw[h.size];omega) (hu m (aF _) hms);omega
 |succ fuel ih=>
  intro listed c w hc h hu;by_cases hall:∀j,j<m->j≠x->listed.getD j false=true
  ·by_cases hxl:∀j,j<m->listed.getD j false=true
   ·exact yS hF hT _ m listed c w h.size (aF _) (Nat.le_of_lt hms) hxl hu hc (hQ c w h.below h.frame h.defers fun t=>hslots listed c w h hu t fun j p hj _ _=>hxl j hj)
   ·have hxm:x<m:=by
     rcases Nat.lt_or_ge x m with h1|h1
     ·exact h1
     ·exact(hxl fun j hj=>hall j hj (by omega)).elim
    have hxu:listed.getD x true=false:=by
     cases hh:listed.getD x true with
     |false=>rfl
     |true=>
      exfalso;have hxs:x<listed.size:=by rw[h.size];omega
      exact hxl fun j hj=>by
       by_cases e:j=x
       ·subst e;simp[hxs] at hh⊢;exact hh
       ·exact hall j hj e
    obtain⟨ox,dx,hox,hgx,af,hop⟩:=hx hxm;have hnx:∀cs b,ox.op≠.select cs b:=fun cs b e=>by rcases hop with⟨s,hs⟩|⟨s,i,hs⟩<;>(rw[hs] at e;cases e)
    have hxr:x∈Region.ready .any ops listed:=mem_ready.2 ⟨hxu,ox,hox,fun e he hb=>hall _ (by have:=(hF x ox hox).1 e he hb;omega) (by have:=(hF x ox hox).1 e he hb;omega)⟩;have hw:Region.wanted ox (yielded ops c.tmps)=true:=by simp[Region.wanted,hgx]
    have hsv:ox.wp P c w (fun c' w'=>∃v,c'=c.put ox.dst v/\w'=w'/\r x v w'/\R w w') (fun _ _ _=>False):=by
     rcases hS x ox hxm hox c w h.below (h.looks hF hox hxr) with⟨h1,_⟩|⟨_,h2⟩
     ·rw[hw] at h1;cases h1
     ·exact h2 _ _ fun v w' hR hr=>⟨v,rfl,rfl,hr,hR⟩
    obtain⟨v,hv,v',hvv,_,hrv,_⟩:=GD hop hsv;have hdn:dx<c.tmps.size:=by rw[h.frame,hn];exact(hF x ox hox).2.1 dx af
    obtain rfl:v=v':=by
     rw[af] at hvv;have:=congrArg (fun z:Act=>z.eval (.tmp dx)) hvv;simpa only[fc hdn] using this
    rw[af] at hvv;refine Gc hF hT hg hxm hox hgx af hnx _ m listed c w h.size (aF _) (Nat.le_of_lt hms) hall hxu hu hc hv (hQ (c.put (some dx) v) w h.below (tu.trans h.frame) (mi.trans h.defers) fun t=>?_);by_cases ht:t=dx
    ·subst ht;rw[fy hF hxm hox af,fc hdn];exact hrv
    ·rw[eF fun e=>ht e.symm];exact hslots listed c w h hu t fun j p hj hp hd=>hall j hj fun e=>by
      subst e;rw[hox] at hp;cases hp;rw[af] at hd;exact ht (az hd).symm
  ·refine⟨fun h0=>(cD (eQ hF h.size h0 m hms) (hu m (aF _) hms)).elim,fun i hi=>?_⟩;obtain⟨hun,o,ho,_⟩:=mem_ready.1 hi;have hil:i<listed.size:=by rw[h.size];exact aN ho
   have hcnt:=cQ hil hun;have him:i<m:=by
    rcases Nat.lt_or_ge i m with h1|h1
    ·exact h1
    ·exfalso;obtain rfl:=pL hT (aF m) hu hi h1;exact hall fun j hj hjx=>Hg hl h hi (i-1-j) j (by omega) hjx
   unfold wpOp;rw[ho];simp only[];have hu':∀k,m<=k->k<ops.size->(listed.setIfInBounds i true).getD k true=false:=fun k h1 h2=>by rw[getD_set_ne true (by omega)];exact hu k h1 h2
   rcases hS i o him ho c w h.below (h.looks hF ho hi) with⟨h1,h2⟩|⟨h1,h2⟩
   ·rw[h1];exact ih _ _ _ (by omega) (h.step hF hn hk ho hi (bE.refl w) h2) hu'
   ·rw[h1];exact .inl (h2 _ _ fun x w' hb hr=>ih _ _ _ (by omega) (h.step hF hn hk ho hi hb hr) hu')
end
def Bh(ops:Array Oper)(m x:Nat):Bool:=
 decide (m<ops.size)&&((List.range m).all fun j=>decide (j=x)||(List.range (m+1)).any fun k=>decide (j<k)&&(decide (k≠x)&&match ops[k]? with
  |none=>false
  |some p=>p.after.toList.any fun e=>Region.binds .any e&&decide (e.on=j)))&&((List.range ops.size).all fun k=>decide (k<m)||((match ops[k]? with
  |none=>false
  |some o=>o.guard.isNone&&match o.op with
   |.select _ _=>false
   |_=>true)&&(decide (ops.size<=k+1)||match ops[k+1]? with
  |none=>false
  |some p=>p.after.toList.any fun e=>Region.binds .any e&&decide (e.on=k))))&&(decide (m<=x)||match ops[x]? with
  |none=>false
  |some o=>o.guard.isNone&&(o.dst.isSome&&match o.op with
   |.move _=>true
   |.extract _ _=>true
   |_=>false))
theorem DJ{p:Oper}{j:Nat}(h:(p.after.toList.any fun e=>Region.binds .any e&&decide (e.on=j))=true):∃e∈p.after,Region.binds .any e=true/\e.on=j:=by
 simp only[List.any_eq_true,Bool.and_eq_true,decide_eq_true_eq] at h;obtain⟨e,he,hb⟩:=h;exact⟨e,Array.mem_toList_iff.1 he,hb.1,hb.2⟩
theorem Jg{ops:Array Oper}{m x:Nat}(h:Bh ops m x=true):J1 ops m x:=by
 unfold Bh at h;simp only[Bool.and_eq_true,decide_eq_true_eq,List.all_eq_true,Bool.or_eq_true] at h;obtain⟨⟨⟨h0,h1⟩,h2⟩,h3⟩:=h;refine⟨h0,fun j hj hjx=>?_,fun k hk hks=>?_,fun k o hk ho=>?_,fun hxm=>?_⟩
 ·rcases h1 j (List.mem_range.2 hj) with e|e
  ·exact(hjx e).elim
  ·rw[List.any_eq_true] at e;obtain⟨k,hk,hb⟩:=e;simp only[Bool.and_eq_true,decide_eq_true_eq] at hb;obtain⟨b1,b2,b3⟩:=hb;cases hp:ops[k]? with
   |none=>rw[hp] at b3;cases b3
   |some p=>
    rw[hp] at b3;exact⟨k,p,b1,by have:=List.mem_range.1 hk;omega,b2,hp,DJ b3⟩
 ·rcases h2 k (List.mem_range.2 (by omega)) with e|e
  ·omega
  ·rcases e.2 with e|e
   ·omega
   ·cases hp:ops[k+1]? with
    |none=>rw[hp] at e;cases e
    |some p=>rw[hp] at e;exact⟨p,rfl,DJ e⟩
 ·rcases h2 k (List.mem_range.2 (aN ho)) with e|e
  ·omega
  ·have e:=e.1;rw[ho] at e;simp only[Bool.and_eq_true,Option.isNone_iff_eq_none] at e;exact⟨e.1,fun cs b hs=>by rw[hs] at e;cases e.2⟩
 ·rcases h3 with e|e
  ·omega
  ·cases hp:ops[x]? with
   |none=>rw[hp] at e;cases e
   |some o=>
    rw[hp] at e;simp only[Bool.and_eq_true,Option.isNone_iff_eq_none] at e;obtain⟨e1,e2,e3⟩:=e;obtain⟨d,hd⟩:=Option.isSome_iff_exists.1 e2;refine⟨o,d,rfl,e1,hd,?_⟩;cases hop:o.op with
    |move s=>exact .inl ⟨s,rfl⟩
    |extract s i=>exact .inr ⟨s,i,rfl⟩
    |_=>rw[hop] at e3;cases e3
theorem cB{R:World->World->Prop}[bE R]{P:Program}{id:Nat}{Q:Exit->Act->World->Prop}{a:Act}{w:World}{l:List Oper}(m x:Nat)(hm:P.follows .mixedOrders=true)(hB:fo l.toArray a.tmps.size=true)
 (hD:Bh l.toArray m x=true) (h:bQ R P l.toArray w a.tmps.size a.defers (fun c w'=>wpList P l.toArray (bF Q) (l.drop m) c w') (l.take m) [] a):(Code.region id l.toArray true).wp P Q a w:=by
 have hF:=gU hB
 have hT:=Jg hD
 have hml:m<l.length:=by simpa using hT.1
 have key:∀(rest:List Oper) (k:Nat) (r:Nat->bn),k+rest.length=m->(∀j,j<rest.length->rest[j]?=l.toArray[k+j]?)->
  (∀j,j<k->(r j).keeps R)->(∀j o,j<k->l.toArray[j]?=some o->gj R P l.toArray w o (aD l.toArray r (fun t x _=>x=a.eval (.tmp t)) j) (r j))->
  ov R P l.toArray w (fun s=>∀c w',R w w'->c.tmps.size=a.tmps.size->c.defers=a.defers->(∀t,s t (c.eval (.tmp t)) w')->wpList P l.toArray (bF Q) (l.drop m) c w') rest (aD l.toArray r (fun t x _=>x=a.eval (.tmp t)) k)->
  ∃r':Nat->bn,(∀j,(r' j).keeps R)/\(∀j o,j<m->l.toArray[j]?=some o->gj R P l.toArray w o (aD l.toArray r' (fun t x _=>x=a.eval (.tmp t)) j) (r' j))/\
   ∀c w',R w w'->c.tmps.size=a.tmps.size->c.defers=a.defers->(∀t,aD l.toArray r' (fun t x _=>x=a.eval (.tmp t)) m t (c.eval (.tmp t)) w')->wpList P l.toArray (bF Q) (l.drop m) c w':=by
  intro rest
  induction rest with
  |nil=>
   intro k r hk _ h1 h2 h3;have hk':k=m:=by simpa using hk
   have hs:∀q,q<=k->aD l.toArray (fun j=>if j<k then r j else fun _ _=>True) (fun t x _=>x=a.eval (.tmp t)) q=aD l.toArray r (fun t x _=>x=a.eval (.tmp t)) q:=by
    intro q;induction q with
    |zero=>intro _;rfl
    |succ q ih=>
     intro hq
     funext t;unfold aD;rw[ih (by omega),if_pos (show q<k by omega)]
   refine⟨fun j=>if j<k then r j else fun _ _=>True,fun j=>?_,fun j o hj ho=>?_,?_⟩
   ·by_cases hj:j<k
    ·simp only[hj,if_true];exact h1 j hj
    ·simp only[hj,if_false];exact fun _ _ _ _ _=>trivial
   ·have hj':j<k:=by omega
    simp only[hj',if_true];rw[hs j (by omega)];exact h2 j o hj' ho
   ·rw[<-hk',hs k (aF _)];rw[<-hk'] at h3;exact h3
  |cons o rest ih=>
   intro k r hk hl' h1 h2 h3;obtain⟨q,hq,hsv,hrest⟩:=h3;have ho:l.toArray[k]?=some o:=by simpa using(hl' 0 (by simp)).symm
   have hs:∀m,m<=k->aD l.toArray (fun j=>if j=k then q else r j) (fun t x _=>x=a.eval (.tmp t)) m=aD l.toArray r (fun t x _=>x=a.eval (.tmp t)) m:=by
    intro m;induction m with
    |zero=>intro _;rfl
    |succ m ih=>
     intro hm
     funext t;unfold aD;rw[ih (by omega),if_neg (show m≠k by omega)]
   refine ih (k+1) (fun j=>if j=k then q else r j) (by simp at hk;omega) (fun j hj=>?_) (fun j hj=>?_) (fun j p hj hp=>?_) ?_
   ·have:=hl' (j+1) (by simp;omega);rw[show k+1+j=k+(j+1) by omega,<-this];simp
   ·by_cases hjk:j=k
    ·simp only[hjk,if_true];exact hq
    ·simp only[hjk,if_false];exact h1 j (by omega)
   ·rw[hs j (by omega)];by_cases hjk:j=k
    ·subst hjk;simp only[if_true];rw[hp] at ho;cases ho;exact hsv
    ·simp only[hjk,if_false];exact h2 j p (by omega) hp
   ·have:aD l.toArray (fun j=>if j=k then q else r j) (fun t x _=>x=a.eval (.tmp t)) (k+1)=fun t=>if o.dst=some t then q else aD l.toArray r (fun t x _=>x=a.eval (.tmp t)) k t:=by
     funext t;show (if (l.toArray[k]?).bind (·.dst)=some t then _ else _)=_;rw[hs k (aF _),ho];simp
    rw[this];exact hrest
 obtain⟨r,h1,h2,h3⟩:=key (l.take m) 0 (fun _ _ _=>True) (by simp;omega) (fun j hj=>by rw[Nat.zero_add,List.getElem?_take_of_lt (by simp at hj;omega)];simp) (fun j hj=>by omega) (fun j _ hj=>by omega) h
 refine wp_region_any hm ?_
 refine AY hF rfl h1 hT h2 (fun c w' hb hs hd ht=>h3 c w' hb hs hd ht) _ _ _ _ ?_ ⟨by simp,fun j p hp hj=>?_,fun j p t hp hj=>?_,fun _ _=>rfl,rfl,rfl,bE.drew w⟩ fun k _ hk=>?_
 ·rw[Array.toList_replicate];exact aK List.count_le_length (by simp)
 ·rw[bC] at hj;cases hj
 ·rw[bC] at hj;cases hj
 ·rw[Array.getD_eq_getD_getElem?,Array.getElem?_replicate,if_pos hk];rfl
section
variable {R:World->World->Prop} {P:Program} {ops:Array Oper} {w0:World} {n:Nat} {ds:List Deferred} {F:Act->World->Prop} {rest:List Oper} {H:List (Tmp×bn)} {a:Act} {o:Oper}
theorem Dv[bE R](d:Tmp){r:bn}(v:Value)(i:Nat)(hop:o.op=.extract (.tmp d) i)(hgd:o.guard=none)(hh:cw H d=some r)(hd:br H a o.dst=true)
 (hr:∀x w,r x w->∃vs,x=.tuple vs/\vs[i]?=some v) (h:bQ R P ops w0 n ds F rest H (a.put o.dst v)):bQ R P ops w0 n ds F (o::rest) H a:=by
 refine⟨fun x _=>x=v,fun _ _ _ h _=>h,fun c w hR hf=>.inr ⟨?_,fun K Q' hK=>?_⟩,by rw[eV hd];exact h⟩
 ·unfold Region.wanted;rw[hgd]
 ·have h1:=hf d (by simp[Oper.looksAt,hop,hgd,Op.operands]);unfold em at h1;rw[hh] at h1;obtain⟨vs,e1,e2⟩:=hr _ _ h1;unfold Oper.wp execOp;rw[hop];simp only[e1,Sem.run_bind,Instr.extract,e2,Sem.run_pure,Result.andThen_ok];exact hK _ _ (bE.refl w) rfl
theorem He[bE R](d e:Tmp){r s:bn}(i:Nat)(hop:o.op=.extract (.tmp d) i)(hgd:o.guard=none)(hh:cw H d=some r)(hk:s.keeps R)(hd:o.dst=some e)
 (hr:∀x w,r x w->∃vs v,x=.tuple vs/\vs[i]?=some v/\s v w) (h:bQ R P ops w0 n ds F rest ((e,s)::H) a):bQ R P ops w0 n ds F (o::rest) H a:=by
 refine oU hk (fun c w hR hf=>.inr ⟨?_,fun K Q' hK=>?_⟩) hd h
 ·unfold Region.wanted;rw[hgd]
 ·have h1:=hf d (by simp[Oper.looksAt,hop,hgd,Op.operands]);unfold em at h1;rw[hh] at h1;obtain⟨vs,v,e1,e2,e3⟩:=hr _ _ h1;unfold Oper.wp execOp;rw[hop];simp only[e1,Sem.run_bind,Instr.extract,e2,Sem.run_pure,Result.andThen_ok];exact hK _ _ (bE.refl w) e3
end
def DU(k:Nat)(olds:List Value):bn:=fun x W=>∃p,x=.slice (some ⟨p,0,none⟩) k k/\∀j u,olds[j]?=some u->W.cell? ((⟨p,0,none⟩:Addr).add j)=some u
theorem kj(p j:Nat):(⟨p,0,none⟩:Addr).add j=⟨p,j,none⟩:=by unfold Addr.add;split<;>simp_all
section
variable {P:Program} {ops:Array Oper} {w0:World} {n:Nat} {ds:List Deferred} {F:Act->World->Prop} {rest:List Oper} {H:List (Tmp×bn)} {a:Act} {o:Oper}
end
end
section
open Go.RowKit Go.Maps Go.WideMaps
structure ak(w w':World)(S:Nat->Prop):Prop where
 os:w'.os=w.os
 tape:w'.tape=w.tape
 output:w'.output=w.output
 size:w.heap.size<=w'.heap.size
 block:∀k,k<w.heap.size->¬S k->w'.heap[k]?=w.heap[k]?
theorem ak.of_grown{w w':World}{row:Option Nat}{S:Nat->Prop}(h:w.grownBy w' row)(hS:∀k,row=some k->S k):ak w w' S:=
 ⟨h.os,h.tape,h.output,h.size,fun k hk hn=>h.block k hk fun e=>hn (hS k e.symm)⟩
theorem ak.trans{a b c:World}{S:Nat->Prop}(h:ak a b S)(k:ak b c S):ak a c S:=
 ⟨k.os.trans h.os,k.tape.trans h.tape,k.output.trans h.output,aK h.size k.size,fun i hi hn=>(k.block i (dQ hi h.size) hn).trans (h.block i hi hn)⟩
theorem aw{w w':World}{base:Nat}{e:TypeId}{size n:Nat}{v:Value}{xs:List Value}{S:Nat->Prop}(h:w.ownsRow base e size v n xs)(k:ak w w' S)(hS:∀b,v.ownBlock=some b->¬S b):w'.ownsRow base e size v n xs:=by
 refine⟨h.1,?_⟩;rcases h.2 with h2|⟨g,cap,cur,rfl,h3,h4,h5⟩
 ·exact .inl h2
 ·refine .inr ⟨g,cap,cur,rfl,h3,?_,h5⟩;have hlt:g<w.heap.size:=by
   rcases Nat.lt_or_ge g w.heap.size with hlt|hge
   ·exact hlt
   ·rw[Array.getElem?_eq_none hge] at h4;cases h4
  rw[k.block g hlt (hS g rfl)];exact h4
theorem ak.refl(w:World)(S:Nat->Prop):ak w w S:=⟨rfl,rfl,rfl,aF _,fun _ _ _=>rfl⟩
theorem ak.weaken{a b:World}{S T:Nat->Prop}(h:ak a b S)(hs:∀k,S k->T k):ak a b T:=⟨h.os,h.tape,h.output,h.size,fun k hk hn=>h.block k hk fun e=>hn (hs k e)⟩
theorem ak.of_below{a b:World}{S:Nat->Prop}(h:Below a.heap.size a b):ak a b S:=⟨h.os,h.tape,h.output,h.size,fun k hk _=>h.block k hk⟩
theorem ak.alloc(w:World)(o:Obj)(S:Nat->Prop):ak w (w.alloc o) S:=ak.of_below ((Below.refl _ w).alloc (aF _) o)
theorem ak.below{a b:World}{S:Nat->Prop}{B:Nat}(h:ak a b S)(hB:B<=a.heap.size)(hs:∀k,S k->B<=k):Below B a b:=
 ⟨h.os,h.tape,h.output,h.size,fun k hk=>h.block k (dQ hk hB) fun e=>absurd (hs k e) (by omega)⟩
structure dE(w w':World)(F F':Nat->Prop):Prop where
 kept:ak w w' F
 grow:∀k,F' k->F k\/w.heap.size<=k
theorem dE.trans{a b c:World}{F G H:Nat->Prop}(h:dE a b F G)(k:dE b c G H):dE a c F H:=
 ⟨⟨k.kept.os.trans h.kept.os,k.kept.tape.trans h.kept.tape,k.kept.output.trans h.kept.output,aK h.kept.size k.kept.size,fun i hi hn=>
   (k.kept.block i (dQ hi h.kept.size) fun e=>(h.grow i e).elim hn (by omega)).trans (h.kept.block i hi hn)⟩,
  fun i hi=>(k.grow i hi).elim (h.grow i) fun e=>.inr (aK h.kept.size e)⟩
theorem dE.of_kept{a b:World}{F:Nat->Prop}(h:ak a b F):dE a b F F:=⟨h,fun _ h=>.inl h⟩
theorem dE.of_below{a b:World}{F:Nat->Prop}(h:Below a.heap.size a b):dE a b F F:=dE.of_kept (ak.of_below h)
def Ge:Obj->Option TypeId
 |.cells _ t _=>some t
 |_=>none
def ng (w:World)(k:Nat):Option (Option TypeId):=(w.heap[k]?).map Ge
theorem aP{w:World}{g:Nat}{t:TypeId}{cs:Array Value}(h:ag w g t cs):ng w g=some (some t):=by
 unfold ag at h;unfold ng;rw[h];rfl
theorem bg{w:World}{base:Nat}{e:TypeId}{size n:Nat}{v:Value}{xs:List Value}(h:w.ownsRow base e size v n xs){k:Nat}(hk:v.ownBlock=some k):ng w k=some (some e):=by
 rcases h.2 with⟨rfl,_⟩|⟨g,cap,cur,rfl,_,hg,_⟩
 ·cases hk
 ·obtain rfl:g=k:=az hk;unfold ng;rw[hg];rfl
theorem Kv{w:World}{k:Nat}{x:Option TypeId}(h:ng w k=some x):k<w.heap.size:=by
 rcases Nat.lt_or_ge k w.heap.size with hlt|hge
 ·exact hlt
 ·unfold ng at h;rw[Array.getElem?_eq_none hge] at h;cases h
theorem ag.keptK{w w':World}{g:Nat}{t:TypeId}{cs:Array Value}{S:Nat->Prop}(h:ag w g t cs)(k:ak w w' S)(hS:¬S g):ag w' g t cs:=(k.block g h.lt hS).trans h
theorem ak.cell{a b:World}{S:Nat->Prop}(h:ak a b S){p:Addr}{v:Value}(hp:a.cell? p=some v)(hS:¬S p.block):b.cell? p=some v:=
 (World.cell?_of_block (h.block p.block (World.block_lt_of_cell? _ _ hp) hS)).trans hp
theorem eK{H:Type}{P:Program}{k:TypeId}{R:Value->Option (DataW H×List MemPlace)}{w w':World}{b n:Nat}{D:DataW H}{S:Nat->Prop}(h:w.ownsMap P k R b n D)(hk:ak w w' S)(hS:¬S b):w'.ownsMap P k R b n D:=by
 have hlt:=World.ownsMap.lt h;obtain⟨es,clock,hb,F,hs,hD⟩:=h;exact⟨es,clock,(hk.block b hlt hS).trans hb,F,hs,hD⟩
theorem jI{H:Type}{P:Program}{k:TypeId}{R:Value->Option (DataW H×List MemPlace)}{w:World}{b n:Nat}{D:DataW H}(h:w.ownsMap P k R b n D):ng w b=some none:=by
 obtain⟨es,clock,hb,_⟩:=h;unfold ng;rw[hb];rfl
end
section
open Go Go.RowKit
variable {F:Fence} {n:Nat} {P:Program}
def DZ{β:Type}(C:Nat->Prop)(B:Nat)(J:β->World->Prop):Prop:=
 ∀s W W' row,J s W->W.grownBy W' row->(∀r,row=some r->C r\/(B<=r/\∃o:Obj,W.heap[r]?=some o/\o.isWalk=true))->J s W'
def JU {α:Type}(C:Nat->Prop)(F:Fence)(n:Nat)(P:Program)(g:Nat)(lb:Array Value)(encs:α->Array Value)(Kp:World->World->Prop)(xs:List α)(w:World):Prop:=
 ∀(l:Nat) (J:List α->World->Prop) (W:World),Below w.heap.size w W->DZ C W.heap.size J->
  (∀pre x rest W1,xs=pre++x::rest->J pre W1->YieldAt F (n-1) P l (encs x) W1 fun e W'=>e=.returned (.bool true)/\J (pre++[x]) W'/\Kp W1 W')->
  J [] W->
  CallsIn F n P g (#[.func (.yield l) #[] #[]]++lb) W fun e W'=>(∃v,e=.returned v)/\J xs W'
def FQ {β:Type}(C:Nat->Prop)(B:Nat)(I:β->World->Prop):Prop:=
 ∀s W W' row,I s W->W.grownBy W' row->(∀r,row=some r->C r\/(B<=r/\∃o:Obj,W.heap[r]?=some o/\o.isCells=false))->I s W'
theorem FQ.putObj{β:Type}{C:Nat->Prop}{B:Nat}{I:β->World->Prop}(h:FQ C B I){s:β}{W:World}{l:Nat}{o:Obj}(o':Obj)(hs:I s W)(hB:B<=l)(hl:W.heap[l]?=some o)(ho:o.isCells=false):I s (W.putObj l o'):=
 h s W _ (some l) hs (grownBy_putObj' W l o') (fun r e=>by cases e;exact .inr ⟨hB,o,hl,ho⟩)
theorem FQ.alloc{β:Type}{C:Nat->Prop}{B:Nat}{I:β->World->Prop}(h:FQ C B I){s:β}{W:World}(o:Obj)(hs:I s W):I s (W.alloc o):=
 h s W _ none hs (World.grownBy_alloc W o none) (fun r e=>by cases e)
def zA{β:Type}(B:Nat)(Kp:World->World->Prop)(I:β->World->Prop)(s':β)(W0:World):Exit->Act->World->Prop
 |.normal,_,W=>KeepsFrom B W0 W/\Kp W0 W/\I s' W
 |_,_,_=>False
theorem pF{α:Type}{g:Operand}{ps:Array Tmp}{assign body:Code}{Q:Exit->Act->World->Prop}{a:Act}{w:World}(C:Nat->Prop)(hC:∀k,C k->k<w.heap.size)
 (hro:F.round=none) (h1:1<=n) {gf:Nat} {lb:Array Value} (hg:a.eval g=.func (.func gf) #[] lb) (hFg:F.fn gf) (eg:∀args w,(callFunc gf args).run P w=.ok (.enter gf args) w)
 {encs:α->Array Value} {Kp:World->World->Prop} {xs:List α} {w0:World} (hseq:JU C F (n-1) P gf lb encs Kp xs w0)
 (hKt:∀{A B D:World},Kp A B->Kp B D->Kp A D) (hKb:∀(W:World) (l:Nat) (o o':Obj),w.heap.size<=l->W.heap[l]?=some o->o.isCells=false->o.isWalk=false->Kp W (W.putObj l o')) (hb0:Below w0.heap.size w0 w) (hps:∀x,(encs x).size=ps.size)
 (I:List α->World->Prop) (hI:FQ C w.heap.size I) (h0:I [] w)
 (a₁:α->Act) (hassign:∀(l:Nat) (x:α) (W:World) (K:Act->World->Prop),K (a₁ x) W->
  assign.wpIn (F.inRound l) (n-1-1) P (Exit.then K (fun _ _ _=>False)) {tmps:=(ps.zip (encs x)).foldl (fun t (p,v)=>t.setIfInBounds p v) a.tmps,defers:=[]} W)
 (hbody:∀(l:Nat) (pre:List α) (x:α) (rest:List α) (W:World),xs=pre++x::rest->w.heap.size<=l->I pre W->body.wpIn (F.inRound l) (n-1-1) P (zA w.heap.size Kp I (pre++[x]) W) (a₁ x) W)
 (hdone:∀(D:Nat) (W:World),w.heap.size<=D->I xs W->W.heap[D]?=some (.deferred (some []))->Q .normal {a with defers:={target:=.collected D,args:=#[]}::a.defers} W):
 (Code.rangeFunc g ps assign body).wpIn F n P Q a w:=by
 refine wpIn_rangeFunc ?_
 intro fn hfn
 rw[hro]
 obtain⟨rec,hrec⟩:∃rec:LoopState->Option Code->Loop,rec=fun st pe=>{state:=st,pending:=pe,fn,tmps:=a.tmps,params:=ps,assign,body,defers:=w.heap.size}:=⟨_,rfl⟩
 obtain⟨W1,hW1⟩:∃W1,(w.alloc (.deferred (some []))).alloc (.loop (rec .ready none))=W1:=⟨_,rfl⟩
 have hL1:W1.heap[w.heap.size+1]?=some (.loop (rec .ready none)):=by
  rw[<-hW1];have:=World.alloc_heap_new (w.alloc (.deferred (some []))) (.loop (rec .ready none));rwa[aW] at this
 have hK1:W1.heap[w.heap.size]?=some (.deferred (some [])):=by
  rw[<-hW1];exact(Below.heap_alloc _ _ _ (by simp)).trans (World.alloc_heap_new w _)
 have hI1:I [] W1:=by rw[<-hW1];exact hI.alloc _ (hI.alloc _ h0)
 have hb1:Below w0.heap.size w0 W1:=by
  rw[<-hW1];exact hb0.trans ((((Below.refl _ w).alloc (aF _) _).alloc (by simp) _).mono hb0.size)
 refine⟨w.heap.size+1,[{target:=.collected w.heap.size,args:=#[]}],W1,{target:=.fn (.func gf) lb,args:=#[.func (.yield (w.heap.size+1)) #[] #[]]},W1,gf,
  #[.func (.yield (w.heap.size+1)) #[] #[]]++lb,W1,?_,?_,?_,?_,fun _=>h1,?_⟩
 ·rw[<-hW1,hrec];exact run_enterLoop_outer _ _ _ _ _
 ·simp only[resolve,hg];simp[go_sem]
 ·intro f' hf';simp[Target.leads] at hf';subst hf';exact hFg
 ·simp[invoke,go_sem,eg]
 ·have hnw:∀{A:World} {row:Option Nat},(∀r,row=some r->C r\/(W1.heap.size<=r/\∃o:Obj,A.heap[r]?=some o/\o.isWalk=true))->(∀r,row=some r->C r\/(w.heap.size<=r/\∃o:Obj,A.heap[r]?=some o/\o.isCells=false)):=
   fun hr r e=>(hr r e).elim .inl fun h=>by obtain⟨hB,o,ho,hw⟩:=h;exact .inr ⟨by rw[<-hW1] at hB;simp at hB;omega,o,ho,Obj.not_cells_of_walk hw⟩
  have keep:∀{A B:World} {row:Option Nat} {k:Nat} {o:Obj},A.grownBy B row->(∀r,row=some r->C r\/(W1.heap.size<=r/\∃o:Obj,A.heap[r]?=some o/\o.isWalk=true))->w.heap.size<=k->k<W1.heap.size->A.heap[k]?=some o->B.heap[k]?=some o:=fun {A B row k o} hg' hr hk hk2 ho=>
   (hg'.block k (Array.getElem?_eq_some_iff.1 ho).1 (fun e=>(hr k e.symm).elim (fun h=>by have:=hC k h;omega) (fun h=>by have:=h.1;omega))).trans ho
  have hs1:W1.heap.size=w.heap.size+2:=by rw[<-hW1];simp
  refine(hseq (w.heap.size+1)
   (fun pre W=>I pre W/\W.heap[w.heap.size+1]?=some (.loop (rec .ready none))/\W.heap[w.heap.size]?=some (.deferred (some [])))
   W1 hb1
   (fun s A B row hs hg' hr=>⟨hI s A B row hs.1 hg' (hnw hr),keep hg' hr (by omega) (by omega) hs.2.1,keep hg' hr (by omega) (by omega) hs.2.2⟩)
   ?_ ⟨hI1,hL1,hK1⟩).mono ?_
  ·rintro pre x rest W hxs ⟨hi,hl,hk⟩;have hlt:w.heap.size+1<W.heap.size:=(Array.getElem?_eq_some_iff.1 hl).1;have hy:=run_yield (P:=P) (args:=encs x) hl (by rw[hrec];exact hps x);rw[hrec] at hy;refine⟨fn,_,assign,body,hy,roundIn_of_wpIn hfn (hassign _ x W _ ?_)⟩;clear hy;refine⟨_,run_beginRound hl (by rw[hrec]),?_⟩;have hl2:(W.putObj (w.heap.size+1) (.loop {rec .ready none with state:=.busy})).heap[w.heap.size+1]?=some (.loop {rec .ready none with state:=.busy}):=World.putObj_heap_same hlt;have hk2:(W.putObj (w.heap.size+1) (.loop {rec .ready none with state:=.busy})).heap[w.heap.size]?=some (.deferred (some [])):=(World.putObj_heap_other (by omega)).trans hk;have hw2:Kp W (W.putObj (w.heap.size+1) (.loop {rec .ready none with state:=.busy})):=hKb _ _ _ _ (by omega) hl rfl rfl;refine wpIn_mono (hbody _ pre x rest _ hxs (by omega) (hI.putObj _ hi (by omega) hl rfl)) ?_;rintro e a3 W3 hp;cases e with
   |normal=>
    obtain⟨hk3,hkp3,hi3⟩:=hp;have hl3:=hk3.same _ _ (by omega) hl2 rfl;have hr:=run_endRound (P:=P) none hl3;rw[hrec] at hr hl3;refine⟨_,_,hr,rfl,⟨hI.putObj _ hi3 (by omega) hl3 rfl,?_,(World.putObj_heap_other (by omega)).trans (hk3.same _ _ (aF _) hk2 rfl)⟩,hKt (hKt hw2 hkp3) (hKb _ _ _ _ (by omega) hl3 rfl rfl)⟩;rw[hrec];exact World.putObj_heap_same (Array.getElem?_eq_some_iff.1 hl3).1
   |ret=>exact hp.elim
   |exit id=>exact hp.elim
   |goto t=>exact hp.elim
   |panic ch=>exact hp.elim
   |outgrown=>exact hp.elim
  ·rintro e W2 ⟨⟨v,rfl⟩,hi,hl,hk⟩;exact⟨none,_,by have:=run_endLoop (P:=P) hl (by rw[hrec];simp);rw[hrec] at this;exact this,hdone _ _ (aF _) (hI.putObj _ hi (by omega) hl rfl) ((World.putObj_heap_other (by omega)).trans hk)⟩
theorem jH{α:Type}(d0 d1:Tmp){g:Operand}{p0 p1:Tmp}{assign body:Code}{Q:Exit->Act->World->Prop}{a:Act}{w:World}(C:Nat->Prop)(hC:∀k,C k->k<w.heap.size)
 (hro:F.round=none) (h1:1<=n) {gf:Nat} {lb:Array Value} (hg:a.eval g=.func (.func gf) #[] lb) (hFg:F.fn gf) (eg:∀args w,(callFunc gf args).run P w=.ok (.enter gf args) w)
 {e0 e1:α->Value} {Kp:World->World->Prop} {xs:List α} {w0:World} (hseq:JU C F (n-1) P gf lb (fun x=>#[e0 x,e1 x]) Kp xs w0)
 (hKt:∀{A B D:World},Kp A B->Kp B D->Kp A D) (hKb:∀(W:World) (l:Nat) (o o':Obj),w.heap.size<=l->W.heap[l]?=some o->o.isCells=false->o.isWalk=false->Kp W (W.putObj l o')) (hb0:Below w0.heap.size w0 w)
 (I:List α->World->Prop) (hI:FQ C w.heap.size I) (h0:I [] w)
 (hassign:∀(l:Nat) (x:α) (W:World) (K:Act->World->Prop),K {tmps:=(((a.tmps.setIfInBounds p0 (e0 x)).setIfInBounds p1 (e1 x)).setIfInBounds d0 (e0 x)).setIfInBounds d1 (e1 x),defers:=[]} W->
  assign.wpIn (F.inRound l) (n-1-1) P (Exit.then K (fun _ _ _=>False)) {tmps:=(a.tmps.setIfInBounds p0 (e0 x)).setIfInBounds p1 (e1 x),defers:=[]} W)
 (hbody:∀(l:Nat) (pre:List α) (x:α) (rest:List α) (W:World),xs=pre++x::rest->w.heap.size<=l->I pre W->body.wpIn (F.inRound l) (n-1-1) P (zA w.heap.size Kp I (pre++[x]) W) {tmps:=(((a.tmps.setIfInBounds p0 (e0 x)).setIfInBounds p1 (e1 x)).setIfInBounds d0 (e0 x)).setIfInBounds d1 (e1 x),defers:=[]} W)
 (hdone:∀(D:Nat) (W:World),w.heap.size<=D->I xs W->W.heap[D]?=some (.deferred (some []))->Q .normal {a with defers:={target:=.collected D,args:=#[]}::a.defers} W):
 (Code.rangeFunc g #[p0,p1] assign body).wpIn F n P Q a w:=by
 have hz:∀x,((#[p0,p1].zip #[e0 x,e1 x]).foldl (fun t (p,v)=>t.setIfInBounds p v) a.tmps)=(a.tmps.setIfInBounds p0 (e0 x)).setIfInBounds p1 (e1 x):=fun x=>by simp
 refine pF C hC hro h1 hg hFg eg hseq hKt hKb hb0 (fun _=>rfl) I hI h0 (fun x=>{tmps:=(((a.tmps.setIfInBounds p0 (e0 x)).setIfInBounds p1 (e1 x)).setIfInBounds d0 (e0 x)).setIfInBounds d1 (e1 x),defers:=[]}) ?_ hbody hdone
 intro l x W K hK
 rw[hz]
 exact hassign l x W K hK
def jm(ops:Array Oper):Bool:=ops.toList.all fun o=>match o.op with
 |.defer _=>false
 |_=>true
theorem Ej{n:Nat}{P:Program}{row:String}{args:Array Value}{w:World}{R:Value->World->Prop}(l:Nat)(h:Rows P row args w R):RowsIn (Fence.wide.inRound l) n P row args w R:=
 fun c cs _=>let ⟨v,w',r,s⟩:=h c cs;⟨v,w',r,stepsIn_wide.2 s⟩
theorem Ja{P:Program}{o:Oper}{a:Act}{next:Act->World->Prop}{Q:Exit->Act->World->Prop}(l n:Nat):∀(r:Result Next),o.upon P a next Q r->o.uponIn (Fence.wide.inRound l) n P a next Q r
 |.ok (.value v) w',h=>h
 |.ok .skip w',h=>h
 |.ok (.defer d) w',h=>h
 |.ok (.enter f args) w',h=>⟨fun hd=>(by cases hd),CallsIn.inRound l (callsIn_wide.2 h)⟩
 |.ok (.row row args) w',h=>⟨fun hd=>(by cases hd),Ej l h⟩
 |.ok (.round l f tmps assign body) w',h=>h.elim
 |.halt (.panic v) w',h=>h
 |.halt .blocked _,h=>h.elim
 |.halt .waiting _,h=>h.elim
 |.halt (.unsupported _) _,h=>h.elim
theorem Ju{P:Program}{o:Oper}{a:Act}{w:World}{next:Act->World->Prop}{Q:Exit->Act->World->Prop}(l n:Nat)(hd:∀c,o.op≠.defer c)(h:o.wp P a w next Q):o.wpIn (Fence.wide.inRound l) n P a w next Q:=by
 refine⟨fun _ _=>trivial,?_⟩;rw[show o.semAt (Fence.wide.inRound l).round a.eval=execOp a.eval o from Oper.semAt_plain (Fence.wide.inRound l) a.eval o hd];exact Ja l n _ h
theorem GG{ops:Array Oper}(h:jm ops=true){i:Nat}{o:Oper}(ho:ops[i]?=some o):∀c,o.op≠.defer c:=by
 unfold jm at h;rw[List.all_eq_true] at h;have:=h o (by rw[Array.mem_toList_iff];exact Array.mem_of_getElem? ho);intro c e;rw[e] at this;cases this
theorem yy{P:Program}{ops:Array Oper}{Q:Exit->Act->World->Prop}(l n:Nat)(hX:jm ops=true)(hQ:¬LetsOut Q):∀(fuel:Nat) (listed:Array Bool) (a:Act) (w:World),wpAny P .any ops Q fuel listed a w->wpAnyIn (Fence.wide.inRound l) n P .any ops Q fuel listed a w
 |0,_,_,_,h=>h
 |fuel+1,listed,a,w,h=>⟨h.1,fun i hi=>by
  have h2:=h.2 i hi
  unfold wpOp at h2
  unfold wpOpIn
  split
  ·rename_i ho
   rw[ho] at h2
   exact yy l n hX hQ fuel _ a w h2
  ·rename_i o ho
   rw[ho] at h2
   simp only at h2
   split
   ·rename_i hw
    rw[if_pos hw] at h2
    rcases h2 with h2|h2
    ·refine Ju l n (GG hX ho) ?_
     refine Oper.wp_mono ?_ h2
     exact fun b w' hb=>yy l n hX hQ fuel _ b w' hb
    ·exact absurd h2.2 hQ
   ·rename_i hw
    rw[if_neg hw] at h2
    exact⟨fun _ _=>trivial,yy l n hX hQ fuel _ _ w h2⟩⟩
theorem vL{P:Program}{id:Nat}{ops:Array Oper}{Q:Exit->Act->World->Prop}{a:Act}{w:World}{lr nr:Nat}(hX:jm ops=true)(hQ:¬LetsOut Q)(hm:P.follows .mixedOrders=true)
 (h:wpAny P .any ops Q ops.size (Array.replicate ops.size false) a {w with drawn:=w.drawn+1}):(Code.region id ops true).wpIn (Fence.wide.inRound lr) nr P Q a w:=
 wpIn_region_any hm (yy lr nr hX hQ _ _ _ _ h)
theorem rQ{R:World->World->Prop}[bE R]{P:Program}{id:Nat}{Q:Exit->Act->World->Prop}{a:Act}{w:World}{l:List Oper}{lr nr:Nat}(hX:jm l.toArray=true)(hQ:¬LetsOut Q)(hm:P.follows .mixedOrders=true)(hB:fo l.toArray a.tmps.size=true)
 (h:ov R P l.toArray w (fun s=>∀c w',R w w'->c.tmps.size=a.tmps.size->c.defers=a.defers->(∀t,s t (c.eval (.tmp t)) w')->Q .normal c w') l (fun t x _=>x=a.eval (.tmp t))):
 (Code.region id l.toArray true).wpIn (Fence.wide.inRound lr) nr P Q a w:=by
 obtain⟨r,h1,h2,h3⟩:=pD (ops:=l.toArray) l 0 (fun _ _ _=>True) (fun t x _=>x=a.eval (.tmp t)) (fun j=>by simp) (fun j hj=>by omega) (fun j _ hj=>by omega) h
 refine vL hX hQ hm ?_
 have hF:=gU hB
 refine qF hF rfl h1 h2 (fun c w' hb hs hd ht=>h3 c w' hb hs hd (by simpa using ht)) _ _ _ _ ?_ ⟨by simp,fun j p hp hj=>?_,fun j p t hp hj=>?_,fun _ _=>rfl,rfl,rfl,bE.drew w⟩
 ·rw[Array.toList_replicate];exact aK List.count_le_length (by simp)
 ·rw[bC] at hj;cases hj
 ·rw[bC] at hj;cases hj
theorem sF{R:World->World->Prop}[bE R]{P:Program}{id:Nat}{Q:Exit->Act->World->Prop}{a:Act}{w:World}{l:List Oper}{lr nr:Nat}(hX:jm l.toArray=true)(hQ:¬LetsOut Q)(hm:P.follows .mixedOrders=true)(hB:fo l.toArray a.tmps.size=true)
 (h:bQ R P l.toArray w a.tmps.size a.defers (Q .normal) l [] a):(Code.region id l.toArray true).wpIn (Fence.wide.inRound lr) nr P Q a w:=rQ hX hQ hm hB h
theorem lH{R:World->World->Prop}[bE R]{P:Program}{id:Nat}{Q:Exit->Act->World->Prop}{a:Act}{w:World}{l:List Oper}{oL:Oper}{lr nr:Nat}(hX:jm l.toArray=true)(hQ:¬LetsOut Q)(hm:P.follows .mixedOrders=true)(hB:fo l.toArray a.tmps.size=true)
 (hL:l.getLast?=some oL) (hD:E4 l.toArray (l.length-1)=true) (h:bQ R P l.toArray w a.tmps.size a.defers (fun c w'=>wpList P l.toArray Q [oL] c w') l.dropLast [] a):(Code.region id l.toArray true).wpIn (Fence.wide.inRound lr) nr P Q a w:=by
 have hF:=gU hB
 obtain⟨hsz,hl⟩:=Ca hD
 have hlen:l.length=(l.length-1)+1:=by simpa using hsz
 have hget:∀j,j<l.length-1->l.dropLast[j]?=l.toArray[j]?:=fun j hj=>by
  rw[List.getElem?_dropLast];simp[hj]
 have key:∀(rest:List Oper) (k:Nat) (r:Nat->bn),k+rest.length=l.length-1->(∀j,j<rest.length->rest[j]?=l.toArray[k+j]?)->
  (∀j,j<k->(r j).keeps R)->(∀j o,j<k->l.toArray[j]?=some o->gj R P l.toArray w o (aD l.toArray r (fun t x _=>x=a.eval (.tmp t)) j) (r j))->
  ov R P l.toArray w (fun s=>∀c w',R w w'->c.tmps.size=a.tmps.size->c.defers=a.defers->(∀t,s t (c.eval (.tmp t)) w')->wpList P l.toArray Q [oL] c w') rest (aD l.toArray r (fun t x _=>x=a.eval (.tmp t)) k)->
  ∃r':Nat->bn,(∀j,(r' j).keeps R)/\(∀j o,j<l.length-1->l.toArray[j]?=some o->gj R P l.toArray w o (aD l.toArray r' (fun t x _=>x=a.eval (.tmp t)) j) (r' j))/\
   ∀c w',R w w'->c.tmps.size=a.tmps.size->c.defers=a.defers->(∀t,aD l.toArray r' (fun t x _=>x=a.eval (.tmp t)) (l.length-1) t (c.eval (.tmp t)) w')->wpList P l.toArray Q [oL] c w':=by
  intro rest
  induction rest with
  |nil=>
   intro k r hk _ h1 h2 h3;have hk':k=l.length-1:=by simpa using hk
   have hs:∀q,q<=k->aD l.toArray (fun j=>if j<k then r j else fun _ _=>True) (fun t x _=>x=a.eval (.tmp t)) q=aD l.toArray r (fun t x _=>x=a.eval (.tmp t)) q:=by
    intro q;induction q with
    |zero=>intro _;rfl
    |succ q ih=>
     intro hq
     funext t;unfold aD;rw[ih (by omega),if_pos (show q<k by omega)]
   refine⟨fun j=>if j<k then r j else fun _ _=>True,fun j=>?_,fun j o hj ho=>?_,?_⟩
   ·by_cases hj:j<k
    ·simp only[hj,if_true];exact h1 j hj
    ·simp only[hj,if_false];exact fun _ _ _ _ _=>trivial
   ·have hj':j<k:=by omega
    simp only[hj',if_true];rw[hs j (by omega)];exact h2 j o hj' ho
   ·rw[<-hk',hs k (aF _)];exact h3
  |cons o rest ih=>
   intro k r hk hl' h1 h2 h3;obtain⟨q,hq,hsv,hrest⟩:=h3;have ho:l.toArray[k]?=some o:=by simpa using(hl' 0 (by simp)).symm
   have hs:∀m,m<=k->aD l.toArray (fun j=>if j=k then q else r j) (fun t x _=>x=a.eval (.tmp t)) m=aD l.toArray r (fun t x _=>x=a.eval (.tmp t)) m:=by
    intro m;induction m with
    |zero=>intro _;rfl
    |succ m ih=>
     intro hm
     funext t;unfold aD;rw[ih (by omega),if_neg (show m≠k by omega)]
   refine ih (k+1) (fun j=>if j=k then q else r j) (by simp at hk;omega) (fun j hj=>?_) (fun j hj=>?_) (fun j p hj hp=>?_) ?_
   ·have:=hl' (j+1) (by simp;omega);rw[show k+1+j=k+(j+1) by omega,<-this];simp
   ·by_cases hjk:j=k
    ·simp only[hjk,if_true];exact hq
    ·simp only[hjk,if_false];exact h1 j (by omega)
   ·rw[hs j (by omega)];by_cases hjk:j=k
    ·subst hjk;simp only[if_true];rw[hp] at ho;cases ho;exact hsv
    ·simp only[hjk,if_false];exact h2 j p (by omega) hp
   ·have:aD l.toArray (fun j=>if j=k then q else r j) (fun t x _=>x=a.eval (.tmp t)) (k+1)=fun t=>if o.dst=some t then q else aD l.toArray r (fun t x _=>x=a.eval (.tmp t)) k t:=by
     funext t;show (if (l.toArray[k]?).bind (·.dst)=some t then _ else _)=_;rw[hs k (aF _),ho];simp
    rw[this];exact hrest
 obtain⟨r,h1,h2,h3⟩:=key l.dropLast 0 (fun _ _ _=>True) (by simp) (fun j hj=>by rw[Nat.zero_add];exact hget j (by simpa using hj)) (fun j hj=>by omega) (fun j _ hj=>by omega) h
 refine vL hX hQ hm ?_
 have hlast:l.toArray[l.length-1]?=some oL:=by rw[<-hL,List.getLast?_eq_getElem?];simp
 refine vB hF rfl h1 hsz hl h2 (fun c w' hb hs hd ht=>?_) _ _ _ _ ?_ ⟨by simp,fun j p hp hj=>?_,fun j p t hp hj=>?_,fun _ _=>rfl,rfl,rfl,bE.drew w⟩ ?_
 ·have:=h3 c w' hb hs hd ht;unfold wpOp;rw[hlast];exact this
 ·rw[Array.toList_replicate];exact aK List.count_le_length (by simp)
 ·rw[bC] at hj;cases hj
 ·rw[bC] at hj;cases hj
 ·rw[Array.getD_eq_getD_getElem?,Array.getElem?_replicate,if_pos (by rw[List.size_toArray];omega)];rfl
theorem Bn{n:Nat}{P:Program}{row:String}{args:Array Value}{w:World}{R:Value->World->Prop}(h:Rows P row args w R):RowsIn Fence.wide n P row args w R:=
 fun c cs _=>let ⟨v,w',r,s⟩:=h c cs;⟨v,w',r,stepsIn_wide.2 s⟩
theorem D7{P:Program}{o:Oper}{a:Act}{next:Act->World->Prop}{Q Q':Exit->Act->World->Prop}(hQ:∀e a w,¬Q e a w)(n:Nat):∀(r:Result Next),o.upon P a next Q r->o.uponIn Fence.wide n P a next Q' r
 |.ok (.value v) w',h=>h
 |.ok .skip w',h=>h
 |.ok (.defer d) w',h=>h
 |.ok (.enter f args) w',h=>⟨fun hd=>(by cases hd),(callsIn_wide.2 h).mono fun e w'' he=>by
  cases e with
  |returned v=>exact he
  |panicked ch=>exact(hQ _ _ _ he).elim
  |outgrown=>obtain⟨_,_,h⟩:=he;exact(hQ _ _ _ h).elim⟩
 |.ok (.row row args) w',h=>⟨fun hd=>(by cases hd),Bn h⟩
 |.ok (.round l f tmps assign body) w',h=>h.elim
 |.halt (.panic v) w',h=>(hQ _ _ _ h).elim
 |.halt .blocked _,h=>h.elim
 |.halt .waiting _,h=>h.elim
 |.halt (.unsupported _) _,h=>h.elim
theorem EB{P:Program}{o:Oper}{a:Act}{w:World}{next:Act->World->Prop}{Q:Exit->Act->World->Prop}{n:Nat}(h:o.wp P a w next (fun _ _ _=>False)):o.wpIn Fence.wide n P a w next Q:=by
 refine⟨fun _ _=>trivial,?_⟩;rw[show o.semAt Fence.wide.round a.eval=execOp a.eval o from Oper.semAt_none _ _];exact D7 (fun _ _ _ h=>h) n _ h
section
variable {R:World->World->Prop} {P:Program} {ops:Array Oper} {n m:Nat} {r:Nat->bn} {w0:World} {a:Act}
theorem wT(nr:Nat)[bE R](hF:iH ops n)(hn:a.tmps.size=n)(hk:∀k,(r k).keeps R)(hsz:ops.size=m+2)(hl:∀j,j<m->∃k p,j<k/\k<=m/\ops[k]?=some p/\∃e∈p.after,Region.binds .any e=true/\e.on=j)
 (hS:∀i o,i<m->ops[i]?=some o->gj R P ops w0 o (aD ops r (fun t x _=>x=a.eval (.tmp t)) i) (r i)) {Q:Exit->Act->World->Prop}
 (hQ:∀c w,R w0 w->c.tmps.size=a.tmps.size->c.defers=a.defers->(∀t,aD ops r (fun t x _=>x=a.eval (.tmp t)) m t (c.eval (.tmp t)) w)->wpOpIn Fence.wide nr P ops Q m (fun c w=>wpOpIn Fence.wide nr P ops Q (m+1) (Q .normal) c w) c w) (hlast:∃p,ops[m+1]?=some p/\∃e∈p.after,Region.binds .any e=true/\e.on=m):
 ∀(fuel:Nat) (listed:Array Bool) (c:Act) (w:World),listed.toList.count false<=fuel->gW R ops r w0 a listed c w->listed.getD m true=false->wpAnyIn Fence.wide nr P .any ops Q fuel listed c w:=by
 have hnot:∀(listed:Array Bool) (c:Act) (w:World),gW R ops r w0 a listed c w->listed.getD m true=false->Region.ready .any ops listed≠[]:=fun listed c w h hm h0=>by
  have:=eQ hF h.size h0 m (by omega);have hlt:=ly this;simp[hlt] at this hm;rw[hm] at this;cases this
 intro fuel
 induction fuel with
 |zero=>
  intro listed c w hc h hm;exfalso;have hml:m<listed.size:=by rw[h.size];omega
  have:=cQ hml hm;omega
 |succ fuel ih=>
  intro listed c w hc h hm;refine⟨fun h0=>absurd h0 (hnot _ _ _ h hm),fun i hi=>?_⟩;obtain⟨hun,o,ho,_⟩:=mem_ready.1 hi;have hil:i<listed.size:=by rw[h.size];exact aN ho
  have hcnt:=cQ hil hun;by_cases him:i=m
  ·subst him;have hall:=Hh hl h hi;have hfit:∀t,aD ops r (fun t x _=>x=a.eval (.tmp t)) i t (c.eval (.tmp t)) w:=fun t=>by
    by_cases hex:∃(j:Nat) (p:Oper),j<i/\ops[j]?=some p/\p.dst=some t
    ·obtain⟨j,p,hji,hp,hd⟩:=hex;rw[fy hF hji hp hd];exact h.done j p t hp (hall (i-1-j) j (by omega)) hd
    ·rw[eH fun j hj hd=>hex ⟨j,by
      cases hp:ops[j]? with
      |none=>rw[hp] at hd;cases hd
      |some p=>rw[hp] at hd;exact⟨p,hj,rfl,hd⟩⟩]
     refine h.rest t fun j p hp hj hd=>hex ⟨j,p,?_,hp,hd⟩;have hjs:=aN hp;have hne:j≠i:=fun e=>by
      subst e;simp[hil] at hun hj;rw[hun] at hj;cases hj
     have hne2:j≠i+1:=fun e=>by
      obtain⟨p2,hp2,e2,he2,hb2,hon⟩:=hlast;have:=h.deps (i+1) p2 hp2 (e▸hj) e2 he2 hb2;rw[hon] at this;simp[hil] at hun this;rw[hun] at this;cases this
     omega
   refine wpOpIn_mono (fun c' w' hq=>?_) (hQ c w h.below h.frame h.defers hfit);obtain⟨p2,hp2,e2,he2,hb2,hon⟩:=hlast;have h2l:listed.getD (i+1) true=false:=by
    cases hc2:listed.getD (i+1) true with
    |false=>rfl
    |true=>
     exfalso;have hlt2:i+1<listed.size:=by rw[h.size];omega
     have hd2:=h.deps (i+1) p2 hp2 (by simp[hlt2] at hc2⊢;exact hc2) e2 he2 hb2;rw[hon] at hd2;simp[hil] at hun hd2;rw[hun] at hd2;cases hd2
   have h2l':(listed.setIfInBounds i true).getD (i+1) true=false:=by rw[getD_set_ne true (by omega)];exact h2l
   have h2s:i+1<(listed.setIfInBounds i true).size:=by rw[Array.size_setIfInBounds,h.size];omega
   have hcnt2:=cQ h2s h2l';have honly:∀k,k∈Region.ready .any ops (listed.setIfInBounds i true)->k=i+1:=fun k hk'=>by
    obtain⟨hku,p,hp,_⟩:=mem_ready.1 hk';have hks:=aN hp;rcases(show k=i+1\/k=i\/k<i by omega) with e|hki
    ·exact e
    exfalso;have hkl:(listed.setIfInBounds i true).getD k false=true:=by
     rcases hki with e|e
     ·subst e;exact cU hil
     ·exact getD_set_true (hall (i-1-k) k (by omega))
    have hlt:=ly hkl;rw[Array.size_setIfInBounds] at hlt;simp[hlt] at hku hkl;rw[hku] at hkl;cases hkl
   cases fuel with
   |zero=>exfalso;omega
   |succ fuel=>
    refine⟨fun h0=>?_,fun k hk=>?_⟩
    ·exfalso;have:=eQ hF (by rw[Array.size_setIfInBounds,h.size]) h0 (i+1) (by omega);rw[Array.getD_eq_getD_getElem?,Array.getElem?_eq_getElem h2s,Option.getD_some] at this h2l';rw[this] at h2l';cases h2l'
    ·obtain rfl:=honly k hk;refine wpOpIn_mono (fun c'' w'' hq2=>?_) hq;have hempty:Region.ready .any ops ((listed.setIfInBounds i true).setIfInBounds (i+1) true)=[]:=by
      cases hr:Region.ready .any ops ((listed.setIfInBounds i true).setIfInBounds (i+1) true) with
      |nil=>rfl
      |cons k l=>
       exfalso;have hk':k∈Region.ready .any ops ((listed.setIfInBounds i true).setIfInBounds (i+1) true):=by rw[hr];exact List.mem_cons_self
       obtain⟨hku,p,hp,_⟩:=mem_ready.1 hk';have hks:=aN hp;have hkl:((listed.setIfInBounds i true).setIfInBounds (i+1) true).getD k false=true:=by
        by_cases hki2:k=i+1
        ·subst hki2;exact cU h2s
        by_cases hki:k=i
        ·subst hki;exact getD_set_true (cU hil)
        ·exact getD_set_true (getD_set_true (hall (i-1-k) k (by omega)))
       have hlt:=ly hkl;rw[Array.getD_eq_getD_getElem?,Array.getElem?_eq_getElem hlt,Option.getD_some] at hku hkl;rw[hku] at hkl;cases hkl
     cases fuel with
     |zero=>exact⟨hempty,hq2⟩
     |succ fuel=>exact⟨fun _=>hq2,fun k hk=>by rw[hempty] at hk;cases hk⟩
  ·have hne2:i≠m+1:=fun e=>by
    subst e;obtain⟨p2,hp2,e2,he2,hb2,hon⟩:=hlast;obtain⟨_,o',ho',hall⟩:=mem_ready.1 hi;rw[hp2] at ho';cases ho';have:=hall e2 he2 hb2;rw[hon] at this;have hlt:=ly this;simp[hlt] at this hm;rw[this] at hm;cases hm
   have hlt:i<m:=by have:=aN ho;omega
   have hm':(listed.setIfInBounds i true).getD m true=false:=by rw[getD_set_ne true him];exact hm
   unfold wpOpIn;rw[ho];simp only[];rcases hS i o hlt ho c w h.below (h.looks hF ho hi) with⟨h1,h2⟩|⟨h1,h2⟩
   ·rw[h1];exact⟨fun _ _=>trivial,ih _ _ _ (by omega) (h.step hF hn hk ho hi (bE.refl w) h2) hm'⟩
   ·rw[h1];exact EB (h2 _ (fun _ _ _=>False) fun x w' hb hr=>ih _ _ _ (by omega) (h.step hF hn hk ho hi hb hr) hm')
end
theorem pE{R:World->World->Prop}[bE R]{P:Program}{id:Nat}{Q:Exit->Act->World->Prop}{a:Act}{w:World}{l:List Oper}{oC oM:Oper}{nr:Nat}(hm:P.follows .mixedOrders=true)(hB:fo l.toArray a.tmps.size=true)
 (hL:l.dropLast.getLast?=some oC) (hM:l.getLast?=some oM) (hD:Hi l.toArray (l.length-2)=true) (h:bQ R P l.toArray w a.tmps.size a.defers (fun c w'=>wpListIn Fence.wide nr P l.toArray Q [oC,oM] c w') l.dropLast.dropLast [] a):(Code.region id l.toArray true).wpIn Fence.wide nr P Q a w:=by
 have hF:=gU hB
 obtain⟨hsz,hl,hbl⟩:=JB hD
 have hlen:l.length=(l.length-2)+2:=by simpa using hsz
 have hget:∀j,j<l.length-2->l.dropLast.dropLast[j]?=l.toArray[j]?:=fun j hj=>by
  rw[List.getElem?_dropLast,List.getElem?_dropLast,List.length_dropLast,if_pos (by omega),if_pos (by omega)];simp
 have key:∀(rest:List Oper) (k:Nat) (r:Nat->bn),k+rest.length=l.length-2->(∀j,j<rest.length->rest[j]?=l.toArray[k+j]?)->
  (∀j,j<k->(r j).keeps R)->(∀j o,j<k->l.toArray[j]?=some o->gj R P l.toArray w o (aD l.toArray r (fun t x _=>x=a.eval (.tmp t)) j) (r j))->
  ov R P l.toArray w (fun s=>∀c w',R w w'->c.tmps.size=a.tmps.size->c.defers=a.defers->(∀t,s t (c.eval (.tmp t)) w')->wpListIn Fence.wide nr P l.toArray Q [oC,oM] c w') rest (aD l.toArray r (fun t x _=>x=a.eval (.tmp t)) k)->
  ∃r':Nat->bn,(∀j,(r' j).keeps R)/\(∀j o,j<l.length-2->l.toArray[j]?=some o->gj R P l.toArray w o (aD l.toArray r' (fun t x _=>x=a.eval (.tmp t)) j) (r' j))/\
   ∀c w',R w w'->c.tmps.size=a.tmps.size->c.defers=a.defers->(∀t,aD l.toArray r' (fun t x _=>x=a.eval (.tmp t)) (l.length-2) t (c.eval (.tmp t)) w')->wpListIn Fence.wide nr P l.toArray Q [oC,oM] c w':=by
  intro rest
  induction rest with
  |nil=>
   intro k r hk _ h1 h2 h3;have hk':k=l.length-2:=by simpa using hk
   have hs:∀q,q<=k->aD l.toArray (fun j=>if j<k then r j else fun _ _=>True) (fun t x _=>x=a.eval (.tmp t)) q=aD l.toArray r (fun t x _=>x=a.eval (.tmp t)) q:=by
    intro q;induction q with
    |zero=>intro _;rfl
    |succ q ih=>
     intro hq
     funext t;unfold aD;rw[ih (by omega),if_pos (show q<k by omega)]
   refine⟨fun j=>if j<k then r j else fun _ _=>True,fun j=>?_,fun j o hj ho=>?_,?_⟩
   ·by_cases hj:j<k
    ·simp only[hj,if_true];exact h1 j hj
    ·simp only[hj,if_false];exact fun _ _ _ _ _=>trivial
   ·have hj':j<k:=by omega
    simp only[hj',if_true];rw[hs j (by omega)];exact h2 j o hj' ho
   ·rw[<-hk',hs k (aF _)];exact h3
  |cons o rest ih=>
   intro k r hk hl' h1 h2 h3;obtain⟨q,hq,hsv,hrest⟩:=h3;have ho:l.toArray[k]?=some o:=by simpa using(hl' 0 (by simp)).symm
   have hs:∀m,m<=k->aD l.toArray (fun j=>if j=k then q else r j) (fun t x _=>x=a.eval (.tmp t)) m=aD l.toArray r (fun t x _=>x=a.eval (.tmp t)) m:=by
    intro m;induction m with
    |zero=>intro _;rfl
    |succ m ih=>
     intro hm
     funext t;unfold aD;rw[ih (by omega),if_neg (show m≠k by omega)]
   refine ih (k+1) (fun j=>if j=k then q else r j) (by simp at hk;omega) (fun j hj=>?_) (fun j hj=>?_) (fun j p hj hp=>?_) ?_
   ·have:=hl' (j+1) (by simp;omega);rw[show k+1+j=k+(j+1) by omega,<-this];simp
   ·by_cases hjk:j=k
    ·simp only[hjk,if_true];exact hq
    ·simp only[hjk,if_false];exact h1 j (by omega)
   ·rw[hs j (by omega)];by_cases hjk:j=k
    ·subst hjk;simp only[if_true];rw[hp] at ho;cases ho;exact hsv
    ·simp only[hjk,if_false];exact h2 j p (by omega) hp
   ·have:aD l.toArray (fun j=>if j=k then q else r j) (fun t x _=>x=a.eval (.tmp t)) (k+1)=fun t=>if o.dst=some t then q else aD l.toArray r (fun t x _=>x=a.eval (.tmp t)) k t:=by
     funext t;show (if (l.toArray[k]?).bind (·.dst)=some t then _ else _)=_;rw[hs k (aF _),ho];simp
    rw[this];exact hrest
 obtain⟨r,h1,h2,h3⟩:=key l.dropLast.dropLast 0 (fun _ _ _=>True) (by simp;omega) (fun j hj=>by rw[Nat.zero_add];exact hget j (by simp at hj;omega)) (fun j hj=>by omega) (fun j _ hj=>by omega) h
 refine wpIn_region_any hm ?_
 have hlastC:l.toArray[l.length-2]?=some oC:=by
  rw[<-hL,List.getLast?_eq_getElem?,List.getElem?_dropLast,List.length_dropLast,if_pos (by omega)];simp[Nat.sub_sub]
 have hlastM:l.toArray[l.length-2+1]?=some oM:=by
  rw[<-hM,List.getLast?_eq_getElem?,show l.length-2+1=l.length-1 by omega];simp
 refine wT nr hF rfl h1 hsz hl h2 (fun c w' hb hs hd ht=>?_) hbl _ _ _ _ ?_ ⟨by simp,fun j p hp hj=>?_,fun j p t hp hj=>?_,fun _ _=>rfl,rfl,rfl,bE.drew w⟩ ?_
 ·have:=h3 c w' hb hs hd ht;have e:(fun c w=>wpOpIn Fence.wide nr P l.toArray Q (l.length-2+1) (Q .normal) c w)=(fun c w=>wpListIn Fence.wide nr P l.toArray Q [oM] c w):=by
   funext c w;unfold wpOpIn;rw[hlastM];rfl
  rw[e];unfold wpOpIn;rw[hlastC];exact this
 ·rw[Array.toList_replicate];exact aK List.count_le_length (by simp)
 ·rw[bC] at hj;cases hj
 ·rw[bC] at hj;cases hj
 ·rw[Array.getD_eq_getD_getElem?,Array.getElem?_replicate,if_pos (by rw[List.size_toArray];omega)];rfl
end
section
def bH(v:Nat):Nat->List Bool
 |0=>[]
 |n+1=>v.testBit n::bH v n
def jF:List Bool->Nat
 |[]=>0
 |b::l=>b.toNat*2^l.length+jF l
theorem bN(v:Nat):∀n,(bH v n).length=n
 |0=>rfl
 |n+1=>by rw[bH,cY,bN v n]
theorem sr:∀l:List Bool,jF l<2^l.length
 |[]=>by simp[jF]
 |b::l=>by
  have:=sr l;rw[jF,cY,Nat.pow_succ];cases b<;>simp<;>omega
theorem qY:∀l m:List Bool,jF (l++m)=jF l*2^m.length+jF m
 |[],m=>by simp[jF]
 |b::l,m=>by
  rw[List.cons_append,jF,jF,qY l m,aG,Nat.pow_add,Nat.add_mul,Nat.mul_assoc];omega
theorem GP(v n:Nat):v%2^(n+1)=(v.testBit n).toNat*2^n+v%2^n:=by
 have h:v%2^(n+1)=v%2^n+2^n*(v/2^n%2):=by rw[Nat.pow_succ,Nat.mod_mul]
 have h2:(v.testBit n).toNat=v/2^n%2:=by
  rw[Nat.testBit_eq_decide_div_mod_eq];rcases Nat.mod_two_eq_zero_or_one (v/2^n) with h|h<;>simp[h]
 rw[h,h2,Nat.mul_comm];omega
theorem nN(v:Nat):∀n,jF (bH v n)=v%2^n
 |0=>by simp[bH,jF,Nat.mod_one]
 |n+1=>by rw[bH,jF,bN,nN v n,GP]
theorem rI(v b:Nat):∀a,bH v (a+b)=bH (v >>> b) a++bH v b
 |0=>by simp[bH]
 |a+1=>by
  rw[show a+1+b=(a+b)+1 by omega,bH,bH,rI v b a,Nat.testBit_shiftRight,List.cons_append,Nat.add_comm b a]
def fJ(l:List Bool):UInt8:=UInt8.ofNat (jF l*2^(8-l.length))
theorem wI{l:List Bool}(h:l.length<=8):(fJ l).toNat=jF l*2^(8-l.length):=by
 unfold fJ;have h1:=sr l;have h2:jF l*2^(8-l.length)<2^l.length*2^(8-l.length):=Nat.mul_lt_mul_of_pos_right h1 (Nat.two_pow_pos _);rw[<-Nat.pow_add,show l.length+(8-l.length)=8 by omega] at h2;rw[UInt8.toNat_ofNat'];exact Nat.mod_eq_of_lt h2
def Kf(s:List UInt8):List Bool:=s.flatMap fun b=>bH b.toNat 8
def gT(L:List Bool):List UInt8:=(List.range (L.length/8)).map fun i=>fJ ((L.drop (8*i)).take 8)
def cj(L:List Bool):List Bool:=L.drop (8*(L.length/8))
def ed(L:List Bool):List UInt8:=gT L++if L.length%8=0 then[] else[fJ (cj L)]
theorem i4(L:List Bool):(cj L).length=L.length%8:=by unfold cj;rw[List.length_drop];omega
theorem vZ(L:List Bool):(gT L).length=L.length/8:=by unfold gT;rw[List.length_map,List.length_range]
theorem pK(L:List Bool):(ed L).length=(L.length+7)/8:=by
 unfold ed;rw[aG,vZ];split
 ·simp;omega
 ·simp;omega
theorem Cn(L M:List Bool)(h:L.length%8+M.length<8):gT (L++M)=gT L:=by
 unfold gT;have e:(L++M).length/8=L.length/8:=by rw[aG];omega
 rw[e];refine List.map_congr_left fun i hi=>?_;have hi:=List.mem_range.1 hi;rw[List.drop_append_of_le_length (by omega),List.take_append_of_le_length (by rw[List.length_drop];omega)]
theorem Ad(L M:List Bool)(h:L.length%8+M.length=8):gT (L++M)=gT L++[fJ (cj L++M)]:=by
 unfold gT;have e:(L++M).length/8=L.length/8+1:=by rw[aG];omega
 rw[e,List.range_succ,List.map_append,List.map_singleton];congr 1
 ·refine List.map_congr_left fun i hi=>?_;have hi:=List.mem_range.1 hi;rw[List.drop_append_of_le_length (by omega),List.take_append_of_le_length (by rw[List.length_drop];omega)]
 ·rw[List.drop_append_of_le_length (by omega)];have h2:=i4 L;unfold cj at h2⊢;rw[List.take_of_length_le (by rw[aG];omega)]
theorem uT(L M:List Bool)(h:L.length%8+M.length<8):cj (L++M)=cj L++M:=by
 unfold cj;have e:(L++M).length/8=L.length/8:=by rw[aG];omega
 rw[e,List.drop_append_of_le_length (by omega)]
theorem Ez(L M:List Bool)(h1:1<=M.length)(h:L.length%8+M.length<=8):ed (L++M)=gT L++[fJ (cj L++M)]:=by
 rcases Nat.lt_or_ge (L.length%8+M.length) 8 with h2|h2
 ·unfold ed;rw[Cn L M h2,uT L M h2,if_neg (by rw[aG];omega)]
 ·unfold ed;rw[Ad L M (by omega),if_pos (by rw[aG];omega),List.append_nil]
theorem BG(L:List Bool)(h:L.length%8=0):ed L=gT L:=by unfold ed;rw[if_pos h,List.append_nil]
theorem BH(L:List Bool)(h:L.length%8≠0):ed L=gT L++[fJ (cj L)]:=by unfold ed;rw[if_neg h]
theorem wZ(L:List Bool)(h:L.length%8=0):cj L=[]:=List.length_eq_zero_iff.1 (by rw[i4,h])
theorem FF:fJ []=0:=rfl
theorem KA(a b k:Nat)(h:b<2^k):a*2^k|||b=a*2^k+b:=by
 rw[Nat.mul_comm,Nat.two_pow_add_eq_or_of_lt h]
theorem Iu(A M:List Bool)(h:A.length+M.length<=8):(fJ (A++M)).toNat=(fJ A).toNat|||(jF M*2^(8-A.length-M.length)):=by
 have h1:=sr M;rw[wI (by rw[aG];exact h),wI (by omega),qY,aG];have e:2^(8-A.length)=2^M.length*2^(8-(A.length+M.length)):=by rw[<-Nat.pow_add];congr 1;omega
 have e2:8-A.length-M.length=8-(A.length+M.length):=by omega
 rw[e,e2,<-Nat.mul_assoc,Nat.add_mul];have e3:∀a b k:Nat,a*2^k|||b*2^k=(a|||b)*2^k:=fun a b k=>by rw[<-Nat.shiftLeft_eq,<-Nat.shiftLeft_eq,<-Nat.shiftLeft_eq,Nat.shiftLeft_or_distrib]
 rw[e3,KA _ _ _ h1,Nat.add_mul]
def xM:Nat->Nat->Nat->List (Nat×Nat)
 |0,_,_=>[]
 |k+1,f,n=>if n=0 then[] else(f%8,min n (8-f%8))::xM k (f+min n (8-f%8)) (n-min n (8-f%8))
def Do (f n:Nat):List (Nat×Nat):=xM n f n
theorem mO(k f:Nat):xM k f 0=[]:=by cases k<;>simp[xM]
theorem vP:∀(k j f n:Nat),n<=k->n<=j->xM k f n=xM j f n
 |0,j,f,n,h1,h2=>by
  obtain rfl:n=0:=by omega
  rw[mO,mO]
 |k+1,0,f,n,h1,h2=>by
  obtain rfl:n=0:=by omega
  rw[mO,mO]
 |k+1,j+1,f,n,h1,h2=>by
  rw[xM,xM];by_cases h:n=0
  ·rw[if_pos h,if_pos h]
  ·rw[if_neg h,if_neg h,vP k j _ _ (by omega) (by omega)]
theorem tD(f:Nat):Do f 0=[]:=rfl
theorem oN(f n:Nat)(h:0<n):Do f n=(f%8,min n (8-f%8))::Do (f+min n (8-f%8)) (n-min n (8-f%8)):=by
 obtain⟨k,rfl⟩:∃k,n=k+1:=⟨n-1,by omega⟩
 unfold Do;rw[xM,if_neg (by omega)];congr 1;exact vP _ _ _ _ (by omega) (aF _)
def fF (l:List (Nat×Nat)):Nat:=(l.map fun x=>x.2).sum
theorem tE:fF []=0:=rfl
theorem Ey(l:List (Nat×Nat))(x:Nat×Nat):fF (l++[x])=fF l+x.2:=by unfold fF;simp
theorem Dn:∀(pre:List (Nat×Nat)) (f n:Nat) (x:Nat×Nat) (rest:List (Nat×Nat)),Do f n=pre++x::rest->
 fF pre<n/\x=((f+fF pre)%8,min (n-fF pre) (8-(f+fF pre)%8))/\rest=Do (f+fF pre+x.2) (n-fF pre-x.2)
 |[],f,n,x,rest,h=>by
  rcases Nat.eq_zero_or_pos n with rfl|hn
  ·rw[tD] at h;cases h
  ·rw[oN f n hn,List.nil_append] at h;obtain⟨rfl,rfl⟩:=List.cons.inj h;exact⟨hn,rfl,rfl⟩
 |y::pre,f,n,x,rest,h=>by
  rcases Nat.eq_zero_or_pos n with rfl|hn
  ·rw[tD] at h;cases h
  ·rw[oN f n hn,List.cons_append] at h;obtain⟨rfl,h2⟩:=List.cons.inj h;obtain⟨h3,h4,h5⟩:=Dn pre _ _ x rest h2;have e:fF ((f%8,min n (8-f%8))::pre)=min n (8-f%8)+fF pre:=by unfold fF;simp
   rw[e];refine⟨by omega,?_,?_⟩
   ·rw[h4,show f+min n (8-f%8)+fF pre=f+(min n (8-f%8)+fF pre) by omega,show n-min n (8-f%8)-fF pre=n-(min n (8-f%8)+fF pre) by omega]
   ·rw[h5,show f+min n (8-f%8)+fF pre=f+(min n (8-f%8)+fF pre) by omega,show n-min n (8-f%8)-fF pre=n-(min n (8-f%8)+fF pre) by omega]
theorem Jt:∀(n f:Nat),fF (Do f n)=n:=fun n=>by
 induction n using Nat.strongRecOn with
 |_ n ih=>
  intro f;rcases Nat.eq_zero_or_pos n with rfl|hn
  ·rfl
  ·rw[oN f n hn];have e:∀(x:Nat×Nat) l,fF (x::l)=x.2+fF l:=fun x l=>by unfold fF;simp
   rw[e,ih _ (by omega)];omega
theorem Ay(v n d t:Nat)(h:d+t<=n):bH (v >>> (n-d)) d++bH (v >>> (n-d-t)) t=bH (v >>> (n-(d+t))) (d+t):=by
 rw[show n-(d+t)=n-d-t by omega,rI,<-Nat.shiftRight_add,show n-d-t+t=n-d by omega]
theorem GB{L M:List Bool}(h1:1<=M.length)(h:L.length%8+M.length<=8):ed (L++M)=gT L++[fJ (cj L++M)]/\(fJ (cj L++M)).toNat=(fJ (cj L)).toNat|||(jF M*2^(8-L.length%8-M.length)):=by
 refine⟨Ez L M h1 h,?_⟩;have:=Iu (cj L) M (by rw[i4];exact h);rwa[i4] at this
end
section
open Go.RowKit
attribute [local go_sem] am aq
theorem mA(b:Nat)(w:World)(h0:w.cell? ⟨b,0,none⟩=some (.pointer (some ⟨b,0,none⟩))):
 Calls Tryz.prog 109 #[.pointer (some ⟨b,0,none⟩)] w fun e w'=>e=.returned (.tuple #[])/\w'=w:=by
 have ⟨j,hj,_⟩:∃j,Tryz.prog.info? 84=some j/\j.size=2:=Option.map_eq_some_iff.1 (show (Tryz.prog.info? 84).map (·.size)=some 2 by kernel_rfl)
 go_enter Tryz.func109,Tryz.ntmps109
 go_wp2
 rw[Lib.run_neq_ptr_same w _ Tryz.underlying81 hj]
 go_wp2
 go_end0
 exact⟨rfl,rfl⟩
theorem lQ(b:Nat)(w:World)(h0:w.cell? ⟨b,0,none⟩=some (.pointer none))(hsh:w.shape? b=some (84,2))(hfz:w.frozen? ⟨b,0,none⟩=false):
 Calls Tryz.prog 109 #[.pointer (some ⟨b,0,none⟩)] w fun e w'=>e=.returned (.tuple #[])/\w'=w.setCell ⟨b,0,none⟩ (.pointer (some ⟨b,0,none⟩)):=by
 have ⟨j,hj,hjs⟩:∃j,Tryz.prog.info? 84=some j/\j.size=2:=Option.map_eq_some_iff.1 (show (Tryz.prog.info? 84).map (·.size)=some 2 by kernel_rfl)
 go_enter Tryz.func109,Tryz.ntmps109
 go_wp2
 rw[Lib.run_to_unsafe w ⟨b,0,none⟩ Tryz.underlying81 Tryz.underlying250 hj (by rw[hjs];decide) hsh (Nat.zero_lt_succ 1)]
 simp only[Result.andThen]
 rw[Oper.upon_value]
 go_wp2
 rw[run_callFunc_extern Tryz.func172 (by kernel_rfl) (by kernel_rfl) (by kernel_rfl) (e:=Extern.AbiNoEscape.same) (by kernel_rfl)]
 rw[Lib.run_noEscape]
 simp only[Result.andThen]
 rw[Oper.upon_value]
 go_wp2
 rw[Lib.run_from_unsafe w ⟨b,0,none⟩ Tryz.underlying250 Tryz.underlying81 hj hsh (by kernel_rfl)]
 simp only[Result.andThen]
 rw[Oper.upon_value]
 go_wp2
 go_end0
 exact⟨rfl,rfl⟩
theorem vw(B b:Nat)(l:List Value)(w:World)(h:Lib.IsBuilderF 84 5 B b l w):
 Calls Tryz.prog 109 #[.pointer (some ⟨b,0,none⟩)] w fun e w'=>e=.returned (.tuple #[])/\(Lib.BuilderAtF 84 5 B b (.pointer (some ⟨b,0,none⟩)) l w'/\Below B w w'):=by
 rcases h with h|h
 ·refine(lQ b w h.cell0 h.shape h.frozen0).mono ?_;rintro e w' ⟨rfl,rfl⟩;exact⟨rfl,h.used _,(Below.refl B w).setCell (p:=⟨b,0,none⟩) h.1 _⟩
 ·refine(mA b w h.cell0).mono ?_;rintro e w' ⟨rfl,rfl⟩;exact⟨rfl,h,Below.refl B _⟩
theorem rO(B b:Nat)(l:List Value)(s:ByteArray)(w:World)(h:Lib.IsBuilderF 84 5 B b l w)(hlen:l.length+s.size<=140737488355328)(hBw:B<=w.heap.size):
 Calls Tryz.prog 37 #[.pointer (some ⟨b,0,none⟩),.string s] w fun e w'=>e=.returned (.tuple #[.int .i64 s.size,.nilIface])/\(Lib.IsBuilderF 84 5 B b (l++Lib.strCells s) w'/\Below B w w'):=by
 have ⟨i0,hi,hz0,hz1,hz2⟩:=info_parts (show (Tryz.prog.info? 5).map (fun i=>(i.zero,i.size,i.bytes))=some (some (.int .u8 0),1,1) by kernel_rfl)
 have q:=af (fun w=>vw B b l w)
 go_enter Tryz.func37,Tryz.ntmps37
 go_wp2_with fail
 refine(q.out _ h).mono ?_
 rintro e w1 ⟨rfl,h1,hb1⟩
 obtain⟨hB,v,hbk,hown,hne⟩:=h1
 have c0:w1.cell? ⟨b,0,none⟩=some (.pointer (some ⟨b,0,none⟩)):=by rw[Lib.cell_of_heap hbk];rfl
 have c1:w1.cell? ⟨b,1,none⟩=some v:=by rw[Lib.cell_of_heap hbk];rfl
 go_wp2_with (at_builtin;refine Lib.wpList_append_own_stringF _ rfl _ _ 82 9 rfl B 5 i0 Tryz.underlying82 Tryz.underlying9 hi hz0 hz1 hz2 _ _ _ rfl hown s rfl ?c3 ?c4 ?c5 ?_)
 case c3=>unfold maxLen;omega
 case c4=>omega
 case c5=>have:=hb1.size;omega
 intro v' w2 hown' hgrow _
 have hlt:b<w1.heap.size:=by
  rcases Nat.lt_or_ge b w1.heap.size with h'|h'
  ·exact h'
  ·simp[Array.getElem?_eq_none h'] at hbk
 have hb2:w2.heap[b]?=some (.cells #[.pointer (some ⟨b,0,none⟩),v] 84 (0,0)):=by
  rw[hgrow.block b hlt (fun e=>hne e.symm)];exact hbk
 have d0:w2.cell? ⟨b,0,none⟩=some (.pointer (some ⟨b,0,none⟩)):=by rw[Lib.cell_of_heap hb2];rfl
 have d1:w2.cell? ⟨b,1,none⟩=some v:=by rw[Lib.cell_of_heap hb2];rfl
 have f1:w2.frozen? ⟨b,1,none⟩=false:=Lib.frozen_of_heap hb2 1
 obtain⟨ao,n',cap,rfl⟩:∃ao n' cap,v'=.slice ao n' cap:=by
  rcases hown'.2 with⟨hv,_⟩|⟨g,cap,cur,fz,hv,_⟩
  ·exact⟨_,_,_,hv⟩
  ·exact⟨_,_,_,hv⟩
 go_wp2
 go_ret2
 refine⟨rfl,Or.inr ?_,?_⟩
 ·exact Lib.BuilderAtF.put (T:=84) (e:=5) hB hb2 (bs':=l++Lib.strCells s) (by simpa[Lib.strCells_length] using hown') (by decide)
 ·exact(hb1.grown hgrow (by have:=hb1.size;omega) (fun k hk=>(hown.lt k hk).1)).setCell (p:=⟨b,1,none⟩) hB _
def bU(B b:Nat)(l:List UInt8)(w:World):Prop:=Lib.IsBuilderF 84 5 B b (Lib.byteCells l) w
theorem bU.fresh(w:World):bU w.heap.size w.heap.size [] (w.alloc (.cells #[.pointer none,.slice none 0 0] 84)):=Lib.IsBuilderF.of (Lib.fresh_isBuilder _ _ w)
theorem mS{w:World}{b:Nat}{o:Obj}(h:w.heap[b]?=some o):b<w.heap.size:=(Array.getElem?_eq_some_iff.1 h).1
theorem lS{B b:Nat}{p:Value}{l:List Value}{w w':World}(h:Lib.BuilderAtF 84 5 B b p l w)(hb:Below w.heap.size w w'):Lib.BuilderAtF 84 5 B b p l w':=by
 obtain⟨h1,v,h2,h3,h4⟩:=h;refine⟨h1,v,(hb.block b (mS h2)).trans h2,⟨h3.1,?_⟩,h4⟩;rcases h3.2 with h|⟨g,cap,cur,fz,e1,e2,e3,e4⟩
 ·exact .inl h
 ·exact .inr ⟨g,cap,cur,fz,e1,e2,(hb.block g (mS e3)).trans e3,e4⟩
theorem bU.below{B b:Nat}{l:List UInt8}{w w':World}(h:bU B b l w)(hb:Below w.heap.size w w'):bU B b l w':=
 h.elim (fun h=>.inl (lS h hb)) (fun h=>.inr (lS h hb))
theorem qK(s:List UInt8):Lib.strCells (bs s)=Lib.byteCells s:=by unfold Lib.strCells Lib.byteCells;rw[io]
theorem D0(B b:Nat)(l s:List UInt8)(w:World)(h:bU B b l w)(hlen:l.length+s.length<=140737488355328)(hBw:B<=w.heap.size):
 Calls Tryz.prog 37 #[.pointer (some ⟨b,0,none⟩),.string (bs s)] w fun e w'=>e=.returned (.tuple #[.int .i64 s.length,.nilIface])/\bU B b (l++s) w'/\Below B w w':=by
 refine(rO B b (Lib.byteCells l) (bs s) w h (by rw[aq];simpa[Lib.byteCells] using hlen) hBw).mono ?_
 rintro e w' ⟨rfl,h1,h2⟩
 refine⟨by rw[aq],?_,h2⟩
 unfold bU
 rw[Lib.byteCells_append,<-qK s]
 exact h1
end
section
open Go.RowKit Go.Maps Go.WideMaps
attribute [local go_sem] am aq
theorem rx(B b:Nat)(l:List Value)(w:World)(h:Lib.IsBuilderF 84 5 B b l w):
 Calls Tryz.prog 109 #[.pointer (some ⟨b,0,none⟩)] w fun e w'=>e=.returned (.tuple #[])/\(Lib.BuilderAtF 84 5 B b (.pointer (some ⟨b,0,none⟩)) l w'/\Below B w w'/\Lib.OthersKept 5 (some b) w w'):=by
 rcases h with h|h
 ·refine(lQ b w h.cell0 h.shape h.frozen0).mono ?_;rintro e w' ⟨rfl,rfl⟩;exact⟨rfl,h.used _,(Below.refl B w).setCell (p:=⟨b,0,none⟩) h.1 _,(Lib.OthersKept.refl _ _ w).setCell ⟨b,0,none⟩ rfl _⟩
 ·refine(mA b w h.cell0).mono ?_;rintro e w' ⟨rfl,rfl⟩;exact⟨rfl,h,Below.refl B _,Lib.OthersKept.refl _ _ _⟩
def BK (B b:Nat)(w w':World):Prop:=Below B w w'/\Lib.OthersKept 5 (some b) w w'
theorem BK.trans{B b:Nat}{x y z:World}(h:BK B b x y)(k:BK B b y z):BK B b x z:=⟨h.1.trans k.1,h.2.trans k.2⟩
theorem BK.of_below{B b:Nat}{w w':World}(h:Below w.heap.size w w')(hB:B<=w.heap.size):BK B b w w':=⟨h.mono hB,fun k _ hk _ _=>(h.block k (Array.getElem?_eq_some_iff.1 hk).1).trans hk⟩
theorem BK.blk{B b g:Nat}{t:TypeId}{cs:Array Value}{w w':World}(h:BK B b w w')(hb:ag w g t cs)(hg:g≠b)(ht:t≠5):ag w' g t cs:=h.2 g _ hb (fun e=>hg (az e)) (fun c fz e=>ht (by cases e;rfl))
theorem BK.map{H:Type}{P:Program}{k:TypeId}{R:Value->Option (DataW H×List MemPlace)}{w w':World}{B b g n:Nat}{D:DataW H}(h:BK B b w w')(hm:w.ownsMap P k R g n D)(hg:g≠b):w'.ownsMap P k R g n D:=by
 obtain⟨es,clock,hb,F,hs,hD⟩:=hm;exact⟨es,clock,h.2 g _ hb (fun e=>hg (az e)) (fun c fz e=>by cases e),F,hs,hD⟩
theorem BK.row{B b base:Nat}{e:TypeId}{size n:Nat}{v:Value}{xs:List Value}{w w':World}(h:BK B b w w')(hr:w.ownsRow base e size v n xs)(hg:v.ownBlock≠some b)(ht:e≠5):w'.ownsRow base e size v n xs:=by
 refine⟨hr.1,?_⟩;rcases hr.2 with h2|⟨g,cap,cur,rfl,h3,h4,h5⟩
 ·exact .inl h2
 ·exact .inr ⟨g,cap,cur,rfl,h3,h.2 g _ h4 (fun e=>hg (by rw[<-e];rfl)) (fun c fz e2=>ht (by cases e2;rfl)),h5⟩
theorem uQ(B b:Nat)(l:List Value)(s:ByteArray)(w:World)(h:Lib.IsBuilderF 84 5 B b l w)(hlen:l.length+s.size<=140737488355328)(hBw:B<=w.heap.size):
 Calls Tryz.prog 37 #[.pointer (some ⟨b,0,none⟩),.string s] w fun e w'=>e=.returned (.tuple #[.int .i64 s.size,.nilIface])/\(Lib.IsBuilderF 84 5 B b (l++Lib.strCells s) w'/\BK B b w w'):=by
 have ⟨i0,hi,hz0,hz1,hz2⟩:=info_parts (show (Tryz.prog.info? 5).map (fun i=>(i.zero,i.size,i.bytes))=some (some (.int .u8 0),1,1) by kernel_rfl)
 have q:=af (fun w=>rx B b l w)
 go_enter Tryz.func37,Tryz.ntmps37
 go_wp2_with fail
 refine(q.out _ h).mono ?_
 rintro e w1 ⟨rfl,h1,hb1,hk1⟩
 obtain⟨hB,v,hbk,hown,hne⟩:=h1
 have c0:w1.cell? ⟨b,0,none⟩=some (.pointer (some ⟨b,0,none⟩)):=by rw[Lib.cell_of_heap hbk];rfl
 have c1:w1.cell? ⟨b,1,none⟩=some v:=by rw[Lib.cell_of_heap hbk];rfl
 go_wp2_with (at_builtin;refine Lib.wpList_append_own_stringF _ rfl _ _ 82 9 rfl B 5 i0 Tryz.underlying82 Tryz.underlying9 hi hz0 hz1 hz2 _ _ _ rfl hown s rfl ?c3 ?c4 ?c5 ?_)
 case c3=>unfold maxLen;omega
 case c4=>omega
 case c5=>have:=hb1.size;omega
 intro v' w2 hown' hgrow _
 have hlt:b<w1.heap.size:=by
  rcases Nat.lt_or_ge b w1.heap.size with h'|h'
  ·exact h'
  ·simp[Array.getElem?_eq_none h'] at hbk
 have hb2:w2.heap[b]?=some (.cells #[.pointer (some ⟨b,0,none⟩),v] 84 (0,0)):=by
  rw[hgrow.block b hlt (fun e=>hne e.symm)];exact hbk
 have d0:w2.cell? ⟨b,0,none⟩=some (.pointer (some ⟨b,0,none⟩)):=by rw[Lib.cell_of_heap hb2];rfl
 have d1:w2.cell? ⟨b,1,none⟩=some v:=by rw[Lib.cell_of_heap hb2];rfl
 have f1:w2.frozen? ⟨b,1,none⟩=false:=Lib.frozen_of_heap hb2 1
 obtain⟨ao,n',cap,rfl⟩:∃ao n' cap,v'=.slice ao n' cap:=by
  rcases hown'.2 with⟨hv,_⟩|⟨g,cap,cur,fz,hv,_⟩
  ·exact⟨_,_,_,hv⟩
  ·exact⟨_,_,_,hv⟩
 go_wp2
 go_ret2
 refine⟨rfl,Or.inr ?_,?_⟩
 ·exact Lib.BuilderAtF.put (T:=84) (e:=5) hB hb2 (bs':=l++Lib.strCells s) (by simpa[Lib.strCells_length] using hown') (by decide)
 ·exact⟨(hb1.grown hgrow (by have:=hb1.size;omega) (fun k hk=>(hown.lt k hk).1)).setCell (p:=⟨b,1,none⟩) hB _,(hk1.grown hgrow (Lib.ownsRowF_kind hown)).setCell ⟨b,1,none⟩ rfl _⟩
theorem rP(B b:Nat)(l:List Value)(c:Int)(w:World)(h:Lib.IsBuilderF 84 5 B b l w)(hlen:l.length+1<=140737488355328)(hBw:B<=w.heap.size):
 Calls Tryz.prog 176 #[.pointer (some ⟨b,0,none⟩),.int .u8 c] w fun e w'=>e=.returned .nilIface/\(Lib.IsBuilderF 84 5 B b (l++[.int .u8 c]) w'/\BK B b w w'):=by
 have ⟨i0,hi,hz0,hz1,hz2⟩:=info_parts (show (Tryz.prog.info? 5).map (fun i=>(i.zero,i.size,i.bytes))=some (some (.int .u8 0),1,1) by kernel_rfl)
 have q:=af (fun w=>rx B b l w)
 go_enter Tryz.func176,Tryz.ntmps176
 go_wp2_with fail
 refine(q.out _ h).mono ?_
 rintro e w1 ⟨rfl,h1,hb1,hk1⟩
 obtain⟨hB,v,hbk,hown,hne⟩:=h1
 have c0:w1.cell? ⟨b,0,none⟩=some (.pointer (some ⟨b,0,none⟩)):=by rw[Lib.cell_of_heap hbk];rfl
 have c1:w1.cell? ⟨b,1,none⟩=some v:=by rw[Lib.cell_of_heap hbk];rfl
 go_wp2_with (at_builtin;refine wpList_append_ownF _ rfl _ _ 82 rfl B 5 i0 (.int .u8 0) 1 1 Tryz.underlying82 hi hz0 hz1 hz2 rfl (by decide) _ _ _ rfl (hown.alloc _) ⟨w1.heap.size,0,none⟩ 1 1 [.int .u8 c] rfl rfl ?c1 ?c2 ?c3 ?c4 ?c5 ?_)
 case c1=>
  intro j u hj;match j,hj with
  |0,hj=>simp at hj;subst hj;simp[Addr.add]
 case c2=>intro u hu;simp at hu;subst hu;rfl
 case c3=>unfold maxLen;omega
 case c4=>omega
 case c5=>have:=hb1.size;simp;omega
 intro v' w2 hown' hgrow _
 have hlt:b<w1.heap.size:=by
  rcases Nat.lt_or_ge b w1.heap.size with h'|h'
  ·exact h'
  ·simp[Array.getElem?_eq_none h'] at hbk
 have hb2:w2.heap[b]?=some (.cells #[.pointer (some ⟨b,0,none⟩),v] 84 (0,0)):=by
  rw[hgrow.block b (by simp;omega) (fun e=>hne e.symm),Lib.alloc_old w1 _ b hlt];exact hbk
 have d0:w2.cell? ⟨b,0,none⟩=some (.pointer (some ⟨b,0,none⟩)):=by rw[Lib.cell_of_heap hb2];rfl
 have d1:w2.cell? ⟨b,1,none⟩=some v:=by rw[Lib.cell_of_heap hb2];rfl
 have f1:w2.frozen? ⟨b,1,none⟩=false:=Lib.frozen_of_heap hb2 1
 obtain⟨ao,n',cap,rfl⟩:∃ao n' cap,v'=.slice ao n' cap:=by
  rcases hown'.2 with⟨hv,_⟩|⟨g,cap,cur,fz,hv,_⟩
  ·exact⟨_,_,_,hv⟩
  ·exact⟨_,_,_,hv⟩
 go_wp2
 go_ret
 refine⟨rfl,Or.inr ?_,?_⟩
 ·exact Lib.BuilderAtF.put (T:=84) (e:=5) hB hb2 (bs':=l++[.int .u8 c]) (by simpa using hown') (by decide)
 ·exact⟨((hb1.alloc (by have:=hb1.size;omega) _).grown hgrow (by have:=hb1.size;simp;omega) (fun k hk=>(hown.lt k hk).1)).setCell (p:=⟨b,1,none⟩) hB _,((hk1.alloc _).grown hgrow (Lib.ownsRowF_kind (hown.alloc _))).setCell ⟨b,1,none⟩ rfl _⟩
theorem yG(B b:Nat)(l:List UInt8)(c:UInt8)(x:Int)(hx:x=(c.toNat:Int))(w:World)(h:bU B b l w)(hlen:l.length+1<=140737488355328)(hBw:B<=w.heap.size):
 Calls Tryz.prog 176 #[.pointer (some ⟨b,0,none⟩),.int .u8 x] w fun e w'=>e=.returned .nilIface/\bU B b (l++[c]) w'/\BK B b w w':=by
 subst hx
 refine(rP B b (Lib.byteCells l) (c.toNat:Int) w h (by simpa[Lib.byteCells] using hlen) hBw).mono ?_
 rintro e w' ⟨rfl,h1,h2⟩
 refine⟨rfl,?_,h2⟩
 unfold bU
 rw[Lib.byteCells_append]
 exact h1
theorem cS(B b:Nat)(l s:List UInt8)(w:World)(h:bU B b l w)(hlen:l.length+s.length<=140737488355328)(hBw:B<=w.heap.size):
 Calls Tryz.prog 37 #[.pointer (some ⟨b,0,none⟩),.string (bs s)] w fun e w'=>e=.returned (.tuple #[.int .i64 s.length,.nilIface])/\bU B b (l++s) w'/\BK B b w w':=by
 refine(uQ B b (Lib.byteCells l) (bs s) w h (by rw[aq];simpa[Lib.byteCells] using hlen) hBw).mono ?_
 rintro e w' ⟨rfl,h1,h2⟩
 refine⟨by rw[aq],?_,h2⟩
 unfold bU
 rw[Lib.byteCells_append,<-qK s]
 exact h1
end
section
open Go Go.RowKit Go.Shelf
attribute [local go_sem] Oper.semAt_some
theorem sG(n:Nat)(hn:n<=64)(w:World):Calls Tryz.prog 356 #[.int .i64 (n:Int)] w fun e w'=>e=.returned (.int .i64 (n:Int))/\w=w':=by
 have h1:max (n:Int) 0=n:=by omega
 have h2:min (n:Int) 64=n:=by omega
 go_enter Tryz.func356,Tryz.ntmps356
 go_wp2;go_ret;exact⟨rfl,rfl⟩
theorem BE(f n:Int)(w:World):Calls Tryz.prog 357 #[.int .i64 f,.int .i64 n] w fun e w'=>
 e=.returned (.func (.func 366) #[] #[.pointer (some ⟨w.heap.size+1,0,none⟩),.pointer (some ⟨w.heap.size,0,none⟩)])/\w'=(w.alloc (.cells #[.int .i64 f] 3)).alloc (.cells #[.int .i64 n] 3):=by
 go_enter Tryz.func357,Tryz.ntmps357
 go_wp2;go_ret;exact⟨by simp,rfl⟩
def LS (x:Nat×Nat):Array Value:=#[.int .i64 (x.1:Int),.int .i64 (x.2:Int)]
def Kd(b:Nat)(w:World):Nat:=match w.cell? ⟨b,0,none⟩ with
 |some v=>(intOf v).toNat
 |none=>0
theorem pX{W:World}{B:Nat}{t:TypeId}{v:Value}(u:Value)(h:Boxed W B t v):Boxed (W.setCell ⟨B,0,none⟩ u) B t u:=Boxed.set u h
theorem zz(q fr nb f n:Nat)(w:World)(h1:Boxed w fr 3 (.int .i64 (f:Int)))(h2:Boxed w nb 3 (.int .i64 (n:Int)))(hne:fr≠nb)(hn:n<=64)(hf:f<=1099511627776):
 JU (fun k=>k=fr\/k=nb) Fence.wide q Tryz.prog 366 #[.pointer (some ⟨nb,0,none⟩),.pointer (some ⟨fr,0,none⟩)] LS (fun A B=>∀k,k=fr\/k=nb->B.heap[k]?=A.heap[k]?) (Do f n) w:=by
 intro l J W hW hJ hY h0
 have b1:Boxed W fr 3 (.int .i64 (f:Int)):=(hW.block fr h1.lt).trans h1
 have b2:Boxed W nb 3 (.int .i64 (n:Int)):=(hW.block nb h2.lt).trans h2
 have HJ:=af hJ
 have HY:=af hY
 have qw:=af (fun W=>sG n hn W)
 have x1:=b1.cell
 have x2:=b2.cell
 have y2:=b2.frozen
 have HS:=af (show DZ (fun k=>k=fr\/k=nb) W.heap.size J from hJ)
 have hj1:=af (hJ [] W (W.setCell ⟨nb,0,none⟩ (.int .i64 (n:Int))) (some nb) h0 (grownBy_setCell' W nb _) fun r e=>by cases e;exact .inl (.inr rfl))
 have c1:=af (b1.other hne (.int .i64 (n:Int)))
 have c2:=af (pX (.int .i64 (n:Int)) b2)
 clear hJ hY h0 b1 b2 h1 h2 hW
 refine callsIn_of_wp Tryz.func366 rfl trivial ?_ rfl
 simp only[Tryz.ntmps366,List.size_toArray,cY,List.length_nil,Nat.reduceAdd,Nat.reduceSub,Array.replicate_succ,Array.replicate_zero,List.push_toArray,List.append_toArray,List.nil_append,List.cons_append]
 gi_wp2_with fail
 refine⟨trivial,fun h=>(by cases h),?_⟩
 refine(callsIn_wide.2 (qw.out _)).mono ?_
 rintro e _ ⟨rfl,rfl⟩
 gi_wp2
 gi_loopw [4] (fun _ wr=>∃(pre:List (Nat×Nat)) (f' n':Nat),Hid (Do f n=pre++Do f' n')/\n'<=64/\f'+n'<=1099511627776+64/\Boxed wr fr 3 (.int .i64 (f':Int))/\Boxed wr nb 3 (.int .i64 (n':Int))/\Hid (J pre wr)) (fun _ wr=>Kd nb wr)
 case atStart=>exact⟨[],f,n,af rfl,hn,by omega,c1.out,c2.out,af hj1.out⟩
 case round=>
  clear x1 x2 y2 hj1 c1 c2 qw;obtain⟨pre,f',n',HP,hn',hf',d1,d2,HJs⟩:=hrel;have x1:=d1.cell;have x2:=d2.cell;have y1:=d1.frozen;have y2:=d2.frozen;by_cases h0:n'=0
  ·subst h0;have HP2:=af (show Do f n=pre by rw[HP.out,tD,List.append_nil]);gi_wp2;go_end0
   exact⟨⟨_,rfl⟩,by rw[HP2.out];exact HJs.out⟩
  ·have hpos:decide ((0:Int)<(n':Int))=true:=by simp;omega
   have hst:=oN f' n' (by omega);generalize ht:min n' (8-f'%8)=t at*;obtain⟨fn,tmps,assign,body,hy,hR⟩:=HY.out pre (f'%8,t) (Do (f'+t) (n'-t)) wr (by rw[HP.out,hst]) HJs.out;have HP2:=af (show Do f n=(pre++[(f'%8,t)])++Do (f'+t) (n'-t) by rw[HP.out,hst];simp);unfold LS at hy;dsimp only at hy;have hrem:((f'%8:Nat):Int)=(f':Int)%8:=by omega
   rw[hrem] at hy;have hs1:IntKind.i64.wrap (8-(f':Int)%8)=8-(f':Int)%8:=ct _ (by omega);have hmin:min (n':Int) (8-(f':Int)%8)=(t:Int):=by omega
   have htn:t<=n'/\0<t:=by omega
   have hs2:IntKind.i64.wrap ((f':Int)+(t:Int))=(f':Int)+(t:Int):=ct _ (by omega);have hs3:IntKind.i64.wrap ((n':Int)-(t:Int))=(n':Int)-(t:Int):=ct _ (by omega);have HD:=af (show Boxed wr fr 3 (.int .i64 (f':Int))/\Boxed wr nb 3 (.int .i64 (n':Int)) from⟨d1,d2⟩);have hR2:=hR.mono (fun e W' h=>(show e=.returned (.bool true)/\Hid (J (pre++[(f'%8,t)]) W'/\∀k,k=fr\/k=nb->W'.heap[k]?=wr.heap[k]?) from⟨h.1,af h.2⟩));have HT:=af ht;clear hR hrem hst ht d1 d2;gi_wp2_with fail
   all_goals
    first
     |rw[show (8-(f':Int)%8)=(t:Int) by omega]
     |rw[show (n':Int)=(t:Int) by omega]
    rw[hy,Oper.uponIn_round]
    refine⟨fun h=>(by cases h),?_⟩
    refine hR2.mono ?_
    rintro e w3 ⟨rfl,hh⟩
    have e1:Boxed w3 fr 3 (.int .i64 (f':Int)):=(hh.out.2 fr (.inl rfl)).trans HD.out.1
    have e2:Boxed w3 nb 3 (.int .i64 (n':Int)):=(hh.out.2 nb (.inr rfl)).trans HD.out.2
    have HJ3:=af hh.out.1
    have HX2:=af x2
    clear hh x1 x2 y1 y2 hR2 hy
    have z1:=e1.cell
    have z1':=e1.frozen
    have E1:=pX (.int .i64 ((f':Int)+(t:Int))) e1
    have E2:=e2.other (fun e=>hne e.symm) (.int .i64 ((f':Int)+(t:Int)))
    have z2:=E2.cell
    have z2':=E2.frozen
    have HE1:=af (E1.other hne (.int .i64 ((n':Int)-(t:Int))))
    have HE2:=af (pX (.int .i64 ((n':Int)-(t:Int))) E2)
    have HJ4:=af (HS.out _ _ _ (some nb) (HS.out _ _ (w3.setCell ⟨fr,0,none⟩ (.int .i64 ((f':Int)+(t:Int)))) (some fr) HJ3.out (grownBy_setCell' w3 fr _) fun r e=>by cases e;exact .inl (.inl rfl)) (grownBy_setCell' _ nb (.int .i64 ((n':Int)-(t:Int)))) fun r e=>by cases e;exact .inl (.inr rfl))
    clear e1 e2 E1 E2 HD HJ3
    gi_wp2
    go_roundw
    case rel=>exact⟨pre++[(f'%8,t)],f'+t,n'-t,HP2,by omega,by omega,by have:=HE1.out;rwa[show ((f'+t:Nat):Int)=(f':Int)+(t:Int) by omega],by have:=HE2.out;rwa[show ((n'-t:Nat):Int)=(n':Int)-(t:Int) by omega],HJ4⟩
    case measure=>
     have g2:=HE2.out.cell;simp only[Kd,g2,HX2.out,intOf];omega
end
end Go.Proofs.YtcdgfajdlaeodaaGreatDoor
