/- Part 0 of the proof: contracts of functions, and plain laws. -/
import Derived.Deep.AppendLies
import Derived.WalkLawsBesides
import Derived.WalkSpells
import Derived.Lib.Hide
set_option maxRecDepth 100000
set_option maxHeartbeats 4000000
namespace Go.Proofs.YtcdgfajdlaeodaaGreatDoor
section
open Go.RowKit
section
variable {w:World} {base:Nat} {e:TypeId} {size:Nat} {v:Value} {n:Nat} {xs:List Value}
end
theorem iW(P:Program)(g o:Nat)(t:TypeId)(fz:Nat×Nat):∀(vs:List Value) (i:Nat) (cur:Array Value) (w:World),w.heap[g]?=some (.cells cur t fz)->(fz.2<=fz.1\/cur.size<=fz.1)->o+i+vs.length<=cur.size->(∀v∈vs,v.oneCell'=true)->
 (storeCells ⟨g,o,none⟩ vs i).run P w=.ok () (w.setRow g (cur.toList.take (o+i)++vs++cur.toList.drop (o+i+vs.length)).toArray)
 |[],i,cur,w,hg,_,_,_=>by
  simp only[storeCells,List.append_nil,List.length_nil,Nat.add_zero,List.take_append_drop,Array.toArray_toList];rw[setRow_self w g cur t fz hg];rfl
 |v::rest,i,cur,w,hg,hfz,hl,h1=>by
  have hi:o+i<cur.size:=by simp at hl;omega
  have hadd:(⟨g,o,none⟩:Addr).add i=⟨g,o+i,none⟩:=by unfold Addr.add;split<;>simp_all
  have hcell:w.cell? ⟨g,o+i,none⟩=some cur[o+i]:=by simp[World.cell?,hg,hi]
  have hfro:w.frozen? ⟨g,o+i,none⟩=false:=by
   obtain⟨lo,hi'⟩:=fz;simp only at hfz;simp only[World.frozen?,hg,Bool.and_eq_false_iff,decide_eq_false_iff_not];omega
  have hst:(store ((⟨g,o,none⟩:Addr).add i) v).run P w=.ok () (w.setRow g (cur.setIfInBounds (o+i) v)):=by
   rw[hadd,run_store P w _ v _ (h1 v (by simp)),hcell];simp[hfro,setCell_eq_setRow w g (o+i) cur t fz v hg]
  have ih:=iW P g o t fz rest (i+1) (cur.setIfInBounds (o+i) v) (w.setRow g (cur.setIfInBounds (o+i) v)) (setRow_heap w g cur _ t _ hg) (by simpa using hfz) (by simp at hl⊢;omega) (fun x hx=>h1 x (by simp[hx]));simp only[storeCells,Sem.run_bind,hst,Result.andThen_ok,ih,setRow_setRow];congr 3;have e:=list_seg_step cur.toList (o+i) v rest (by simp at hl⊢;omega);simpa[Array.toList_setIfInBounds,Nat.add_assoc] using e
section
variable {P:Program} (w:World)
end
def bs (l:List UInt8):ByteArray:=⟨l.toArray⟩
theorem aq(l:List UInt8):(bs l).size=l.length:=by simp[bs,ByteArray.size]
theorem am(l:List UInt8):(bs l).toList=l:=by simp[bs]
theorem io(l:List UInt8):(bs l).data.toList=l:=by simp[bs]
theorem wJ(a b:List UInt8):bs a++bs b=bs (a++b):=ByteArray.mk_append_mk a b
theorem Ls(s:ByteArray):bs s.data.toList=s:=by cases s;simp[bs]
theorem Ke(s:ByteArray):∃l,s=bs l:=⟨s.data.toList,(Ls s).symm⟩
theorem yq{a b:List UInt8}(h:bs a=bs b):a=b:=by rw[<-io a,h,io]
theorem bZ(l:List UInt8)(i j:Nat):(bs l).extract i j=bs ((l.drop i).take (j-i)):=ByteArray.extract_mk l i j
theorem CJ(l:List UInt8)(i:Nat)(h:i<(bs l).size):(bs l)[i]=l[i]'(by rw[aq] at h;exact h):=by simp[bs,ByteArray.getElem_eq_getElem_data]
theorem aJ{P:Program}(a b:List UInt8)(h:a.length+b.length<=9223372036854775807)(W:World):(Op.stringOp .add (bs a) (bs b)).run P W=.ok (.string (bs (a++b))) W:=by
 rw[run_string_add_sum W (bs a) (bs b) (by rw[aq,aq];exact h),wJ]
def kg (n:Nat)(E:List UInt8):Array Value:=(E.map (fun b:UInt8=>Value.int .u8 b.toNat)++List.replicate (n-E.length) (Value.int .u8 0)).toArray
theorem JQ(n:Nat)(E:List UInt8)(i:Nat)(h:i<E.length):(kg n E)[i]?=some (.int .u8 (E[i].toNat:Int)):=by
 unfold kg;rw[List.getElem?_toArray,List.getElem?_append_left (by simpa using h),List.getElem?_map,List.getElem?_eq_getElem h];rfl
theorem mX(n:Nat)(E:List UInt8)(h:E.length<n):(kg n E)[E.length]?=some (.int .u8 0):=by
 unfold kg;rw[List.getElem?_toArray,List.getElem?_append_right (by simp),List.getElem?_replicate];simp;omega
theorem po(n:Nat)(E:List UInt8)(h:E.length<n)(b:UInt8):(kg n E).setIfInBounds E.length (.int .u8 (b.toNat:Int))=kg n (E++[b]):=by
 obtain⟨m,hm⟩:∃m,n-E.length=m+1:=⟨n-E.length-1,by omega⟩
 have hm':n-(E++[b]).length=m:=by simp;omega
 unfold kg;rw[hm,hm',List.replicate_succ,List.setIfInBounds_toArray];congr 1;rw[List.set_append_right _ _ (by simp)];simp
theorem uX{P:Program}(t e:TypeId)(n s:Nat)(hu:P.underlying t=some (.array n e))(hi:(P.info? e).map (·.size)=some s)(g h:Nat)(k:IntKind)(hh:h<=n)(w:World):
 (Instr.sliceAt t (.pointer (some ⟨g,0,none⟩)) none (some (.int k (h:Int))) none).run P w=.ok (.slice (some ⟨g,0,none⟩) h n) w:=by
 have ha:P.arrayLen t=n:=by simp[Program.arrayLen,hu]
 have he:P.elem t=e:=by simp[Program.elem,hu]
 have hu':P.underlying t=some (.array (P.arrayLen t) (P.elem t)):=by rw[ha,he];exact hu
 rw[run_sliceAt_array_h w t ⟨g,0,none⟩ hu' k h (by omega) (by omega),ha,he]
 cases hq:P.info? e with
 |none=>simp[hq] at hi
 |some i=>simp[sizeOf,typeInfo,hq,slicedAt,Result.andThen,Addr.add]
theorem lJ{P:Program}(t e:TypeId)(n s:Nat)(hu:P.underlying t=some (.array n e))(hi:(P.info? e).map (·.size)=some s)(g:Nat)(w:World):
 (Instr.sliceAt t (.pointer (some ⟨g,0,none⟩)) none none none).run P w=.ok (.slice (some ⟨g,0,none⟩) n n) w:=by
 have ha:P.arrayLen t=n:=by simp[Program.arrayLen,hu]
 have he:P.elem t=e:=by simp[Program.elem,hu]
 have hu':P.underlying t=some (.array (P.arrayLen t) (P.elem t)):=by rw[ha,he];exact hu
 rw[run_sliceAt_array_all w t ⟨g,0,none⟩ hu',ha,he]
 cases hq:P.info? e with
 |none=>simp[hq] at hi
 |some i=>simp[sizeOf,typeInfo,hq,slicedAt,Result.andThen,Addr.add]
theorem fD{P:Program}(src dst e:TypeId)(hs:P.underlying src=some (.slice e))(he:P.underlying e=some (.int .u8))(hd:P.underlying dst=some .string)
 (g off cap:Nat) (E:List UInt8) (w:World) (hc:∀i (h:i<E.length),w.cell? ⟨g,off+i,none⟩=some (.int .u8 (E[i].toNat:Int))):
 (convert src dst (.slice (some ⟨g,off,none⟩) E.length cap)).run P w=.ok (.string (bs E)) w:=by
 have h:=run_convert_bytes_arg (P:=P) w src e hs he g off E.length cap (E.map fun b=>(b.toNat:Int)) (by simp) (fun i hi=>by
  rw[hc i hi];simp[List.getD,hi]) dst hd
 rw[h]
 congr 2
 unfold strOfNums bs
 rw[List.map_map]
 congr 2
 conv=>rhs;rw[<-List.map_id E]
 apply List.map_congr_left
 intro b _
 simp
theorem xE{P:Program}(src dst e:TypeId)(hs:P.underlying src=some (.slice e))(he:P.underlying e=some (.int .u8))(hd:P.underlying dst=some .string)
 (g c:Nat) (x:Int) (b:UInt8) (hx:x=(b.toNat:Int)) (W:World) (hc:W.cell? ⟨g,0,none⟩=some (.int .u8 x)):
 (convert src dst (.slice (some ⟨g,0,none⟩) 1 c)).run P W=.ok (.string (bs [b])) W:=
 fD src dst e hs he hd g 0 c [b] W fun i h=>by
  obtain rfl:i=0:=by simpa using h
  simpa[hx] using hc
theorem oS(w:World)(o:Obj):w.heap.size<(w.alloc o).heap.size:=by simp
theorem lD(w:World)(cs:Array Value)(t:TypeId)(i:Nat):(w.alloc (.cells cs t)).cell? ⟨w.heap.size,i,none⟩=cs[i]?:=World.cell?_alloc_new w cs t i
theorem lj{P:Program}(src dst e:TypeId)(hs:P.underlying src=some (.slice e))(he:P.underlying e=some (.int .u8))(hd:P.underlying dst=some .string)
 (n cap:Nat) (E:List UInt8) (t:TypeId) (w:World):
 (convert src dst (.slice (some ⟨w.heap.size,0,none⟩) E.length cap)).run P (w.alloc (.cells (kg n E) t))=.ok (.string (bs E)) (w.alloc (.cells (kg n E) t)):=
 fD src dst e hs he hd w.heap.size 0 cap E _ fun i h=>by
  rw[lD,Nat.zero_add];exact JQ n E i h
def ag (w:World)(g:Nat)(t:TypeId)(cs:Array Value):Prop:=w.heap[g]?=some (.cells cs t (0,0))
section
variable {w w':World} {g:Nat} {t:TypeId} {cs:Array Value}
theorem ag.lt(h:ag w g t cs):g<w.heap.size:=by
 rcases Nat.lt_or_ge g w.heap.size with hlt|hge
 ·exact hlt
 ·unfold ag at h;rw[Array.getElem?_eq_none hge] at h;cases h
theorem ag.cell(h:ag w g t cs)(i:Nat):w.cell? ⟨g,i,none⟩=cs[i]?:=cell_of_row w g i cs t (0,0) h
theorem ag.frozen(h:ag w g t cs)(i:Nat):w.frozen? ⟨g,i,none⟩=false:=by
 unfold ag at h;simp[World.frozen?,h]
theorem ag.new(w:World)(t:TypeId)(cs:Array Value):ag (w.alloc (.cells cs t)) w.heap.size t cs:=heap_alloc_new w _
theorem ag.alloc(h:ag w g t cs)(o:Obj):ag (w.alloc o) g t cs:=(Below.heap_alloc w o g h.lt).trans h
theorem ag.set_(h:ag w g t cs)(i:Nat)(u:Value):ag (w.setCell ⟨g,i,none⟩ u) g t (cs.setIfInBounds i u):=by
 unfold ag at h⊢;simp[World.setCell,Array.getElem?_modify,h]
theorem ag.far(h:ag w g t cs){p:Addr}(hp:g≠p.block)(u:Value):ag (w.setCell p u) g t cs:=(Below.heap_setCell w p u g hp).trans h
theorem ag.below{B:Nat}(h:ag w g t cs)(hb:Below B w w')(hg:g<B):ag w' g t cs:=(hb.block g hg).trans h
theorem ag.grown{row:Option Nat}(h:ag w g t cs)(hb:w.grownBy w' row)(hg:some g≠row):ag w' g t cs:=(hb.block g h.lt hg).trans h
end
theorem af{p:Prop}(h:p):Hid p:=Lib.hid h
theorem aG{α:Type _}{a b:List α}:(a++b).length=a.length+b.length:=List.length_append
theorem aV{α:Type _}{l:List α}{i:Nat}(h:i<l.length):l[i]?=some l[i]:=List.getElem?_eq_getElem h
theorem az{α:Type _}{a b:α}(h:some a=some b):a=b:=Option.some.inj h
theorem aK{a b c:Nat}(h:a<=b)(k:b<=c):a<=c:=Nat.le_trans h k
theorem aF(a:Nat):a<=a:=Nat.le_refl a
theorem dQ{a b c:Nat}(h:a<b)(k:b<=c):a<c:=Nat.lt_of_lt_of_le h k
theorem aW(w:World)(o:Obj):(w.alloc o).heap.size=w.heap.size+1:=World.size_alloc w o
theorem dK{α:Type _}{l:List α}{i:Nat}(h:i<l.length):l[i]∈l:=List.getElem_mem h
theorem eM{α:Type _}{l:List α}{i:Nat}(h:i<l.length):l.take (i+1)=l.take i++[l[i]]:=List.take_succ_eq_append_getElem h
theorem cY{α:Type _}{a:α}{l:List α}:(a::l).length=l.length+1:=List.length_cons
theorem dp{α:Type _}{i:Nat}{l:List α}:(l.take i).length=min i l.length:=List.length_take
theorem bR{n:Nat}{w:World}:Below n w w:=Below.refl n w
theorem eE{w:World}{n:Nat}{e:TypeId}{s:Nat}:w.ownsRow n e s (.slice none 0 0) 0 []:=World.ownsRow_nil _ _ _ _
theorem ct(x:Int)(h: -9223372036854775808<=x/\x<=9223372036854775807):IntKind.i64.wrap x=x:=IntWalk.i64_in x h
theorem ax{w:World}{g:Nat}{t:TypeId}{cs:Array Value}(h:ag w g t cs)(i:Nat)(v:Value)(e:cs[i]?=some v):w.cell? ⟨g,i,none⟩=some v:=(ag.cell h i).trans e
theorem cu{w w':World}{p:Addr}{v:Value}(h:Below w.heap.size w w')(k:w.cell? p=some v):w'.cell? p=some v:=(Below.cell h (World.block_lt_of_cell? _ _ k)).trans k
end
end Go.Proofs.YtcdgfajdlaeodaaGreatDoor
