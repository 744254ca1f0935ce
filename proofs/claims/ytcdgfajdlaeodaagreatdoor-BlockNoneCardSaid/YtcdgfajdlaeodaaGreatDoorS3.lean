/- Part 3 of the proof: contracts of functions, and plain laws. -/
import Derived.Test.YtcdgfajdlaeodaaGreatDoorS1
import Derived.Test.YtcdgfajdlaeodaaGreatDoorS2
import Derived.Shelf.Strings.Trim
import Derived.Shelf.Small.Bits
import Derived.Shelf.Unicode.Decode
import Derived.Shelf.Strings.Runes
import Derived.Shelf.Strings.AsciiSet
import Derived.Shelf.Strings.Repeat
import Derived.Shelf.Unicode.DecodeLast
import Derived.Shelf.Strings.BuilderCap
import Derived.Shelf.Slices.Cells
import Derived.Laws.CopyOwn
set_option maxRecDepth 100000
set_option maxHeartbeats 4000000
namespace Go.Proofs.YtcdgfajdlaeodaaGreatDoor
end Go.Proofs.YtcdgfajdlaeodaaGreatDoor
namespace Go.Proofs
open Go.Shelf
def Tryz.lays169_ren:Go.Shelf.Ren:=⟨fun|169=>41|n=>n,fun|70=>81|9=>9|0=>0|72=>84|37=>82|127=>183|3=>3|5=>5|n=>n,fun|n=>n⟩
theorem Tryz.lays169:Go.Proofs.Lays.n169 Tryz.prog Tryz.lays169_ren:={
 mixed:=by kernel_rfl
 f169:=Tryz.func41.trans (congrArg some (by kernel_rfl))
 t0:=Tryz.underlying0
 a0:=Tryz.isAgg0
 z0:=Tryz.sizeOf0
 v0:=Tryz.zeroValue0
 t3:=Tryz.underlying3
 a3:=Tryz.isAgg3
 z3:=Tryz.sizeOf3
 v3:=Tryz.zeroValue3
 t9:=Tryz.underlying9
 a9:=Tryz.isAgg9
 z9:=Tryz.sizeOf9
 v9:=Tryz.zeroValue9
 t37:=Tryz.underlying82
 a37:=Tryz.isAgg82
 z37:=Tryz.sizeOf82
 v37:=Tryz.zeroValue82
 t70:=Tryz.underlying81
 a70:=Tryz.isAgg81
 z70:=Tryz.sizeOf81
 v70:=Tryz.zeroValue81
 t72:=Tryz.underlying84
 a72:=Tryz.isAgg84
 z72:=Tryz.sizeOf84
 v72:=Tryz.zeroValue84
 t127:=Tryz.underlying183
 a127:=Tryz.isAgg183
 z127:=Tryz.sizeOf183
 v127:=Tryz.zeroValue183}
theorem Tryz.Builder_Extra_169:Builder.Extra Tryz.prog Tryz.lays169_ren:={
 sizeBuilder:=by kernel_rfl
 liesBuilder:=by kernel_rfl
 t5:=Tryz.underlying5
 a5:=Tryz.isAgg5
 z5:=Tryz.sizeOf5
 v5:=Tryz.zeroValue5
 infoByte:=by kernel_rfl
 cellsByte:=by kernel_rfl
 sizeByte:=by kernel_rfl
 neB5:=by decide}
def Tryz.lays160_ren:Go.Shelf.Ren:=⟨fun|160=>325|232=>350|231=>349|227=>351|234=>353|233=>352|236=>355|235=>354|228=>362|271=>365|151=>364|197=>363|120=>371|152=>370|260=>369|137=>372|119=>373|224=>374|225=>375|217=>376|266=>377|n=>n,fun|9=>9|4=>4|3=>3|5=>5|117=>422|116=>421|0=>0|124=>425|21=>21|105=>433|46=>161|119=>269|139=>441|138=>440|n=>n,fun|3=>2|4=>3|n=>n⟩
theorem Tryz.lays160:Go.Proofs.Lays.n160 Tryz.prog Tryz.lays160_ren:={
 mixed:=by kernel_rfl
 f119:=Tryz.func373.trans (congrArg some (by kernel_rfl))
 f120:=Tryz.func371.trans (congrArg some (by kernel_rfl))
 f137:=Tryz.func372.trans (congrArg some (by kernel_rfl))
 f151:=Tryz.func364.trans (congrArg some (by kernel_rfl))
 f152:=Tryz.func370.trans (congrArg some (by kernel_rfl))
 f160:=Tryz.func325.trans (congrArg some (by kernel_rfl))
 f197:=Tryz.func363.trans (congrArg some (by kernel_rfl))
 f217:=Tryz.func376.trans (congrArg some (by kernel_rfl))
 f224:=Tryz.func374.trans (congrArg some (by kernel_rfl))
 f225:=Tryz.func375.trans (congrArg some (by kernel_rfl))
 f227:=Tryz.func351.trans (congrArg some (by kernel_rfl))
 f228:=Tryz.func362.trans (congrArg some (by kernel_rfl))
 f231:=Tryz.func349.trans (congrArg some (by kernel_rfl))
 f232:=Tryz.func350.trans (congrArg some (by kernel_rfl))
 f233:=Tryz.func352.trans (congrArg some (by kernel_rfl))
 f234:=Tryz.func353.trans (congrArg some (by kernel_rfl))
 f235:=Tryz.func354.trans (congrArg some (by kernel_rfl))
 f236:=Tryz.func355.trans (congrArg some (by kernel_rfl))
 f260:=Tryz.func369.trans (congrArg some (by kernel_rfl))
 f266:=Tryz.func377.trans (congrArg some (by kernel_rfl))
 f271:=Tryz.func365.trans (congrArg some (by kernel_rfl))
 t0:=Tryz.underlying0
 a0:=Tryz.isAgg0
 z0:=Tryz.sizeOf0
 v0:=Tryz.zeroValue0
 t3:=Tryz.underlying3
 a3:=Tryz.isAgg3
 z3:=Tryz.sizeOf3
 v3:=Tryz.zeroValue3
 t4:=Tryz.underlying4
 a4:=Tryz.isAgg4
 z4:=Tryz.sizeOf4
 v4:=Tryz.zeroValue4
 t5:=Tryz.underlying5
 a5:=Tryz.isAgg5
 z5:=Tryz.sizeOf5
 v5:=Tryz.zeroValue5
 t9:=Tryz.underlying9
 a9:=Tryz.isAgg9
 z9:=Tryz.sizeOf9
 v9:=Tryz.zeroValue9
 t21:=Tryz.underlying21
 a21:=Tryz.isAgg21
 z21:=Tryz.sizeOf21
 v21:=Tryz.zeroValue21
 t46:=Tryz.underlying161
 a46:=Tryz.isAgg161
 z46:=Tryz.sizeOf161
 v46:=Tryz.zeroValue161
 t105:=Tryz.underlying433
 a105:=Tryz.isAgg433
 z105:=Tryz.sizeOf433
 v105:=Tryz.zeroValue433
 t116:=Tryz.underlying421
 a116:=Tryz.isAgg421
 z116:=Tryz.sizeOf421
 t117:=Tryz.underlying422
 a117:=Tryz.isAgg422
 z117:=Tryz.sizeOf422
 v117:=Tryz.zeroValue422
 t119:=Tryz.underlying269
 a119:=Tryz.isAgg269
 z119:=Tryz.sizeOf269
 t124:=Tryz.underlying425
 a124:=Tryz.isAgg425
 z124:=Tryz.sizeOf425
 v124:=Tryz.zeroValue425
 t138:=Tryz.underlying440
 a138:=Tryz.isAgg440
 z138:=Tryz.sizeOf440
 v138:=Tryz.zeroValue440
 t139:=Tryz.underlying441
 a139:=Tryz.isAgg441
 z139:=Tryz.sizeOf441
 v139:=Tryz.zeroValue441
 g3:=by kernel_rfl
 g4:=by kernel_rfl}
open Go.RowKit in
theorem Tryz.strings_Trim_one(s:ByteArray)(c:UInt8)(hc:c.toNat<128)(w:World)(hs:s.size<=9223372036854775807):
 Calls Tryz.prog 325 #[.string s,.string ⟨#[c]⟩] w fun e w'=>e=.returned (.string ⟨(Lib.trimB s.data.toList c).toArray⟩)/\(w'=w\/w'=w.drew):=Any.strings_Trim_one Tryz.lays160 s c hc w hs
def Tryz.lays134_ren:Go.Shelf.Ren:=⟨fun|134=>367|129=>314|n=>n,fun|53=>67|3=>3|4=>4|46=>161|5=>5|9=>9|n=>n,fun|n=>n⟩
theorem Tryz.lays134:Go.Proofs.Lays.n134 Tryz.prog Tryz.lays134_ren:={
 mixed:=by kernel_rfl
 f129:=Tryz.func314.trans (congrArg some (by kernel_rfl))
 f134:=Tryz.func367.trans (congrArg some (by kernel_rfl))
 t3:=Tryz.underlying3
 a3:=Tryz.isAgg3
 z3:=Tryz.sizeOf3
 v3:=Tryz.zeroValue3
 t4:=Tryz.underlying4
 a4:=Tryz.isAgg4
 z4:=Tryz.sizeOf4
 v4:=Tryz.zeroValue4
 t5:=Tryz.underlying5
 a5:=Tryz.isAgg5
 z5:=Tryz.sizeOf5
 v5:=Tryz.zeroValue5
 t9:=Tryz.underlying9
 a9:=Tryz.isAgg9
 z9:=Tryz.sizeOf9
 v9:=Tryz.zeroValue9
 t46:=Tryz.underlying161
 a46:=Tryz.isAgg161
 z46:=Tryz.sizeOf161
 v46:=Tryz.zeroValue161
 t53:=Tryz.underlying67
 a53:=Tryz.isAgg67
 z53:=Tryz.sizeOf67
 v53:=Tryz.zeroValue67}
theorem Tryz.bits_LeadingZeros64(x:Int)(w:World)(h0:0<=x)(h1:x<=18446744073709551615):
 Calls Tryz.prog 367 #[.int .u64 x] w fun e w'=>e=.returned (.int .i64 (64-(Lib.bitLen x.toNat:Int)))/\w'=w:=Any.bits_LeadingZeros64 Tryz.lays134 x w h0 h1
open Go.RowKit in
theorem Tryz.Builder_String_any_f(B b:Nat)(l:List UInt8)(w:World)(h:Lib.IsBuilderF 84 5 B b (Lib.byteCells l) w)(hBw:B<=w.heap.size):
 Calls Tryz.prog 41 #[.pointer (some ⟨b,0,none⟩)] w fun e w'=>e=.returned (.string ⟨l.toArray⟩)/\(Lib.IsBuilderF 84 5 B b (Lib.byteCells l) w'/\Below B w w'):=Any.Builder_String_any_f Tryz.lays169 Tryz.Builder_Extra_169 B b l w h hBw
open Go.RowKit in
theorem Tryz.Builder_String_any_k(B b:Nat)(l:List UInt8)(w:World)(h:Lib.IsBuilderF 84 5 B b (Lib.byteCells l) w)(hBw:B<=w.heap.size):
 Calls Tryz.prog 41 #[.pointer (some ⟨b,0,none⟩)] w fun e w'=>e=.returned (.string ⟨l.toArray⟩)/\(Lib.IsBuilderF 84 5 B b (Lib.byteCells l) w'/\Below B w w'/\Lib.OthersKept 5 (some b) w w'):=Any.Builder_String_any_k Tryz.lays169 Tryz.Builder_Extra_169 B b l w h hBw
def Tryz.lays105_ren:Go.Shelf.Ren:=⟨fun|105=>226|212=>273|99=>260|165=>274|166=>37|170=>36|169=>41|263=>301|264=>302|206=>290|240=>109|241=>303|276=>172|277=>339|n=>n,fun|9=>9|3=>3|4=>4|20=>20|0=>0|46=>161|109=>341|5=>5|72=>84|76=>95|51=>247|146=>370|53=>67|148=>372|70=>81|37=>82|75=>94|127=>183|164=>250|80=>100|n=>n,fun|n=>n⟩
theorem Tryz.lays105:Go.Proofs.Lays.n105 Tryz.prog Tryz.lays105_ren:={
 mixed:=by kernel_rfl
 f99:=Tryz.func260.trans (congrArg some (by kernel_rfl))
 f105:=Tryz.func226.trans (congrArg some (by kernel_rfl))
 f165:=Tryz.func274.trans (congrArg some (by kernel_rfl))
 f166:=Tryz.func37.trans (congrArg some (by kernel_rfl))
 f169:=Tryz.func41.trans (congrArg some (by kernel_rfl))
 f170:=Tryz.func36.trans (congrArg some (by kernel_rfl))
 f206:=Tryz.func290.trans (congrArg some (by kernel_rfl))
 f212:=Tryz.func273.trans (congrArg some (by kernel_rfl))
 f240:=Tryz.func109.trans (congrArg some (by kernel_rfl))
 f241:=Tryz.func303.trans (congrArg some (by kernel_rfl))
 f263:=Tryz.func301.trans (congrArg some (by kernel_rfl))
 f264:=Tryz.func302.trans (congrArg some (by kernel_rfl))
 f276:=Tryz.func172.trans (congrArg some (by kernel_rfl))
 f277:=Tryz.func339.trans (congrArg some (by kernel_rfl))
 t0:=Tryz.underlying0
 a0:=Tryz.isAgg0
 z0:=Tryz.sizeOf0
 v0:=Tryz.zeroValue0
 t3:=Tryz.underlying3
 a3:=Tryz.isAgg3
 z3:=Tryz.sizeOf3
 v3:=Tryz.zeroValue3
 t4:=Tryz.underlying4
 a4:=Tryz.isAgg4
 z4:=Tryz.sizeOf4
 v4:=Tryz.zeroValue4
 t5:=Tryz.underlying5
 a5:=Tryz.isAgg5
 z5:=Tryz.sizeOf5
 v5:=Tryz.zeroValue5
 t9:=Tryz.underlying9
 a9:=Tryz.isAgg9
 z9:=Tryz.sizeOf9
 v9:=Tryz.zeroValue9
 t20:=Tryz.underlying20
 a20:=Tryz.isAgg20
 z20:=Tryz.sizeOf20
 v20:=Tryz.zeroValue20
 t37:=Tryz.underlying82
 a37:=Tryz.isAgg82
 z37:=Tryz.sizeOf82
 v37:=Tryz.zeroValue82
 t46:=Tryz.underlying161
 a46:=Tryz.isAgg161
 z46:=Tryz.sizeOf161
 v46:=Tryz.zeroValue161
 t51:=Tryz.underlying247
 a51:=Tryz.isAgg247
 z51:=Tryz.sizeOf247
 v51:=Tryz.zeroValue247
 t53:=Tryz.underlying67
 a53:=Tryz.isAgg67
 z53:=Tryz.sizeOf67
 v53:=Tryz.zeroValue67
 t70:=Tryz.underlying81
 a70:=Tryz.isAgg81
 z70:=Tryz.sizeOf81
 v70:=Tryz.zeroValue81
 t72:=Tryz.underlying84
 a72:=Tryz.isAgg84
 z72:=Tryz.sizeOf84
 v72:=Tryz.zeroValue84
 t75:=Tryz.underlying94
 a75:=Tryz.isAgg94
 z75:=Tryz.sizeOf94
 v75:=Tryz.zeroValue94
 t76:=Tryz.underlying95
 a76:=Tryz.isAgg95
 z76:=Tryz.sizeOf95
 v76:=Tryz.zeroValue95
 t109:=Tryz.underlying341
 a109:=Tryz.isAgg341
 z109:=Tryz.sizeOf341
 v109:=Tryz.zeroValue341
 t127:=Tryz.underlying183
 a127:=Tryz.isAgg183
 z127:=Tryz.sizeOf183
 v127:=Tryz.zeroValue183
 t146:=Tryz.underlying370
 a146:=Tryz.isAgg370
 z146:=Tryz.sizeOf370
 v146:=Tryz.zeroValue370
 t148:=Tryz.underlying372
 a148:=Tryz.isAgg372
 z148:=Tryz.sizeOf372
 v148:=Tryz.zeroValue372
 t164:=Tryz.underlying250
 a164:=Tryz.isAgg250
 z164:=Tryz.sizeOf250
 v164:=Tryz.zeroValue250}
theorem Tryz.Builder_Extra_105:Builder.Extra Tryz.prog Tryz.lays105_ren:={
 sizeBuilder:=by kernel_rfl
 liesBuilder:=by kernel_rfl
 t5:=Tryz.underlying5
 a5:=Tryz.isAgg5
 z5:=Tryz.sizeOf5
 v5:=Tryz.zeroValue5
 infoByte:=by kernel_rfl
 cellsByte:=by kernel_rfl
 sizeByte:=by kernel_rfl
 neB5:=by decide}
open Go.RowKit Go.Lib in
theorem Tryz.strings_Repeat(s:ByteArray)(c:Nat)(w:World)(hc:c<=9223372036854775807)(hlen:s.size*c<=140737488355328):
 Calls Tryz.prog 226 #[.string s,.int .i64 c] w fun e w'=>e=.returned (.string ⟨(Lib.repeatL s.data.toList c).toArray⟩)/\Below w.heap.size w w':=Any.strings_Repeat Tryz.lays105 Tryz.Builder_Extra_105 s c w hc hlen
end Go.Proofs
namespace Go.Proofs.YtcdgfajdlaeodaaGreatDoor
section
open Go.RowKit
theorem Jn(c:Nat):Lib.repeatL [0] c=List.replicate c 0:=by
 induction c with
 |zero=>rfl
 |succ c ih=>simp[Lib.repeatL,ih,List.replicate_succ]
theorem Gw(c:Nat)(hc:c<=255)(w:World):
 Calls Tryz.prog 226 #[.string ⟨#[0]⟩,.int .i64 (c:Int)] w fun e w'=>e=.returned (.string (bs (List.replicate c 0)))/\Below w.heap.size w w':=
 (Tryz.strings_Repeat ⟨#[0]⟩ c w (by omega) (by show 1*c<=_;omega)).mono fun e w' ⟨h1,h2⟩=>⟨by rw[h1];show _=Ending.returned (Value.string (bs (List.replicate c 0)));rw[<-Jn];rfl,h2⟩
theorem iJ(t:List UInt8)(k:Int)(w:World)(h1:t.length<=1099511627776)(hk1: -9223372036854775808<=k)(hk2:k<=9223372036854775807):
 Calls Tryz.prog 177 #[.string (bs t),.int .i64 k] w fun e w'=>e=.returned (.string (bs (Num.fixed t k)))/\Below w.heap.size w w':=by
 have hz:=aq t
 obtain⟨K,hK⟩:∃K:Nat,Num.szI k=K:=⟨Num.szN k,by unfold Num.szN Num.szI;omega⟩
 have hK2:K<=255:=by have:=Num.szN_le k;unfold Num.szN at this;omega
 go_enter Tryz.func177,Tryz.ntmps177
 go_wp2_with (go_at_call 225;refine(oR _ _ hk1 hk2).mono ?_;rw[hK];rintro e w' ⟨rfl,rfl⟩)
 have hext:(bs t).extract 0 (min (t.length:Int) (K:Int)).toNat=bs (t.take K):=by
  rw[bZ];congr 1;rcases Nat.le_total t.length K with h|h
  ·rw[show (min (t.length:Int) (K:Int)).toNat-0=t.length from by omega,List.take_of_length_le h];simp
  ·rw[show (min (t.length:Int) (K:Int)).toNat-0=K from by omega];simp
 rw[hext]
 obtain⟨q,hq⟩:∃q,t.take K=q:=⟨_,rfl⟩
 rw[hq]
 have hql:q.length<=K:=by rw[<-hq];simp;omega
 have Hq:=af hq
 have HK:=af hK
 have hs:=aq q
 have hwr:IntKind.i64.wrap ((K:Int)-(q.length:Int))=((K-q.length:Nat):Int):=by rw[IntKind.wrap_i64];omega
 clear hq hK hext hz h1
 have hrep:=fun W=>Gw (K-q.length) (by omega) W
 have hrl:(List.replicate (K-q.length) (0:UInt8)).length=K-q.length:=by simp
 generalize hr:List.replicate (K-q.length) (0:UInt8)=r at hrl hrep
 have Hr:=af hr
 have ha1:=fun W=>aJ (P:=Tryz.prog) q r (by omega) W
 have ha2:=fun W=>aJ (P:=Tryz.prog) (q++r) [UInt8.ofNat q.length] (by simp;omega) W
 have hcv:=fun g W hc=>xE (P:=Tryz.prog) 82 9 5 Tryz.underlying82 Tryz.underlying5 Tryz.underlying9 g 1 (IntKind.u8.wrap (q.length:Int)) (UInt8.ofNat q.length)
  (by rw[Num.ofNat_toNat _ (by omega),IntKind.wrap_u8'];omega) W hc
 clear hr hrl
 go_region_with (go_at_call 226;refine(hrep _).mono ?_;rintro e w' ⟨rfl,hb⟩;first|(have hcell:=hb.cell (p:=⟨w.heap.size,0,none⟩) (oS w _))|skip)
 all_goals go_wp2
 all_goals go_ret
 all_goals refine⟨?_,?_⟩
 all_goals first
  |(show Ending.returned (Value.string (bs (q++(r++[UInt8.ofNat q.length]))))=_
    rw[<-Hr.out,<-Hq.out]
    unfold Num.fixed
    rw[show Num.szN k=K from by have:=HK.out;unfold Num.szN;omega]
    simp[List.append_assoc])
  |exact(((Below.refl _ w).drew.trans hb).alloc hb.size _)
  |exact((((Below.refl _ w).alloc (aF _) _).drew).trans (hb.mono (Nat.le_succ _)))
  |exact((((Below.refl _ w).alloc (aF _) _).drew).trans (hb.mono (by simp)))
def oZ:Option (Nat×Nat)->Int|none=>0|some (n,_)=>n
def ug {α:Type}:Option (α×Nat)->Int|none=> -1|some (_,k)=>k
theorem cE{P:Program}(t:TypeId)(h:P.underlying t=some .string)(l:List UInt8)(i:Nat)(b:UInt8)(hb:l[i]?=some b)(k:IntKind)(W:World):
 (Instr.index t (.string (bs l)) (.int k (i:Int))).run P W=.ok (.int .u8 (b.toNat:Int)) W:=by
 obtain⟨hi,hb⟩:=List.getElem?_eq_some_iff.1 hb
 rw[run_index_string W t (bs l) k i h,dif_pos ⟨by omega,by rw[aq];omega⟩]
 congr 3
 rw[CJ]
 simp only[Int.toNat_natCast]
 rw[hb]
def Kj(l:List UInt8)(vn vi:Value):Prop:=
 ∃(i acc:Nat),vi=.int .i64 (i:Int)/\vn=.int .u64 (acc:Int)/\i<=l.length/\i<=10/\acc<128^i/\acc<18446744073709551616/\Num.getSmall l=Num.gsF (10-i) i acc (l.drop i)
theorem KH(i b:Nat)(hi:i<10)(h:i=9->b%128<=1):b%128*128^i<18446744073709551616:=by
 rcases Nat.lt_or_ge i 9 with h9|h9
 ·have h1:128^(i+1)<=128^9:=Nat.pow_le_pow_right (by omega) (by omega);have h2:b%128<=127:=by omega
  have h3:=Nat.mul_le_mul_right (128^i) h2;rw[Num.p128] at h1;omega
 ·obtain rfl:i=9:=by omega
  have:=h rfl;have h3:=Nat.mul_le_mul_right (128^9) this;omega
theorem L7(i acc b:Nat)(hb:b<256)(ha:acc<128^i)(hd:b%128*128^i<18446744073709551616)(ha2:acc<18446744073709551616):
 bits BinOp.or IntKind.u64 (acc:Int) (IntKind.u64.wrap (IntKind.u64.wrap (bits BinOp.andNot IntKind.u8 (b:Int) 128)*2^(7*i)))=((acc+b%128*128^i:Nat):Int):=by
 have w (x:Int):IntKind.u64.wrap x=x%18446744073709551616:=by simp[IntKind.wrap,IntKind.bits,IntKind.signed]
 have e1:bits BinOp.andNot IntKind.u8 (b:Int) 128=((b%128:Nat):Int):=by
  rw[u8_andNot _ _ (by omega) (by omega) (by omega) (by omega)];simp only[Int.toNat_natCast];rw[show 255-(128:Int).toNat=127 from rfl,nat_mask7]
 have e2:(2:Int)^(7*i)=((128^i:Nat):Int):=by
  rw[show (128:Nat)^i=2^(7*i) from by rw[Nat.pow_mul]];simp
 have e3:IntKind.u64.wrap (((b%128:Nat):Int))=((b%128:Nat):Int):=by rw[w];omega
 have e4:IntKind.u64.wrap (((b%128:Nat):Int)*((128^i:Nat):Int))=((b%128*128^i:Nat):Int):=by
  rw[w,<-Int.natCast_mul];omega
 rw[e1,e3,e2,e4,u64_or_nat _ _ ha2 hd,Nat.or_comm,nat_join (7*i) (b%128*128^i) acc]
 ·rw[Nat.add_comm]
 ·rw[Nat.pow_mul,show (2:Nat)^7=128 from rfl];exact Nat.mul_mod_left _ _
 ·rw[Nat.pow_mul];exact ha
theorem vg(l:List UInt8)(w:World)(hl:l.length<=1099511627776):
 Calls Tryz.prog 202 #[.string (bs l)] w fun e w'=>e=.returned (.tuple #[.int .u64 (oZ (Num.getSmall l)),.int .i64 (ug (Num.getSmall l))])/\w=w':=by
 have hz:=aq l
 go_enter Tryz.func202,Tryz.ntmps202
 go_wp2
 go_loop [4,10] (fun vn vi=>Kj l vn vi) (fun _ vi=>10-(intOf vi).toNat)
 case atStart=>exact⟨0,0,rfl,rfl,by omega,by omega,by omega,by omega,rfl⟩
 case round=>
  obtain⟨i,acc,rfl,rfl,hi,hi10,hacc,hacc2,hg⟩:=hrel;have hm0:(min (l.length:Int) 10)=((min l.length 10:Nat):Int):=by omega
  by_cases hlt:i<min l.length 10
  ·obtain⟨b,hb⟩:∃b,l[i]?=some b:=⟨l[i]'(by omega),aV (by omega)⟩
   have hix:=fun k W=>cE (P:=Tryz.prog) 9 Tryz.underlying9 l i b hb k W;have hdrop:l.drop i=b::l.drop (i+1):=by
    rw[List.drop_eq_getElem_cons (by omega)];rw[aV (by omega)] at hb;simp at hb;rw[hb]
   have hbl:b.toNat<256:=UInt8.toNat_lt b;have e10:10-i=(9-i)+1:=by omega
   rw[hdrop,e10,Num.gsF] at hg;have hltI:(i:Int)<min (l.length:Int) 10:=by omega
   clear hb hdrop hm0 hz;by_cases hbad:(i=9/\1<b.toNat)\/(0<i/\b.toNat=0)
   ·rw[if_pos hbad] at hg;have HG:=af hg;have hcase:(((i:Int)==9)=true/\(1:Int)<(b.toNat:Int))\/(((i:Int)==9)=true/\¬(1:Int)<(b.toNat:Int)/\(0:Int)<(i:Int)/\((b.toNat:Int)==0)=true)\/(((i:Int)==9)=false/\(0:Int)<(i:Int)/\((b.toNat:Int)==0)=true):=by
     simp only[beq_eq_false_iff_ne,beq_iff_eq,ne_eq];omega
    clear hg hbad e10;rcases hcase with⟨c1,c2⟩|⟨c1,c2,c3,c4⟩|⟨c1,c2,c3⟩
    all_goals go_wp2
    all_goals go_ret2
    all_goals exact⟨by rw[HG.out];rfl,rfl⟩
   ·rw[if_neg hbad] at hg;have HG:=af hg;clear hg e10;have hcase:(((i:Int)==9)=false/\¬(0:Int)<(i:Int))\/(((i:Int)==9)=false/\(0:Int)<(i:Int)/\((b.toNat:Int)==0)=false)\/(((i:Int)==9)=true/\¬(1:Int)<(b.toNat:Int)/\(0:Int)<(i:Int)/\((b.toNat:Int)==0)=false):=by
     simp only[beq_eq_false_iff_ne,beq_iff_eq,ne_eq];omega
    have hd9:b.toNat%128*128^i<18446744073709551616:=KH i b.toNat (by omega) (by omega);have hor:=af (L7 i acc b.toNat hbl hacc hd9 hacc2);have h9:i=9->b.toNat<=1:=by omega
    clear hbad;by_cases h128:b.toNat<128
    ·have hfin:Hid (Num.getSmall l=some (acc+b.toNat%128*128^i,i+1)):=by
      show _=_;rw[HG.out,if_pos h128,Nat.mod_eq_of_lt h128]
     clear hd9 HG h9;rcases hcase with⟨c1,c2⟩|⟨c1,c2,c3⟩|⟨c1,c2,c3,c4⟩
     all_goals go_wp2
     all_goals go_ret2
     all_goals exact⟨by rw[hfin.out,oZ,ug,<-hor.out];rfl,rfl⟩
    ·have hi8:i+1<=9:=by omega
     have hfin:Hid (Num.getSmall l=Num.gsF (10-(i+1)) (i+1) (acc+b.toNat%128*128^i) (l.drop (i+1))):=by
      show _=_;rw[HG.out,if_neg h128,show b.toNat%128=b.toNat-128 from by omega,show 10-(i+1)=9-i from by omega]
     have hacc':acc+b.toNat%128*128^i<128^(i+1):=by
      have:b.toNat%128<=127:=by omega
      have:=Nat.mul_le_mul_right (128^i) this;rw[Num.p128];omega
     have hacc2':acc+b.toNat%128*128^i<18446744073709551616:=by
      have:128^(i+1)<=128^9:=Nat.pow_le_pow_right (by omega) hi8;omega
     have HR:=af (show Kj l (.int .u64 ((acc+b.toNat%128*128^i:Nat):Int)) (.int .i64 ((i:Int)+1)) from
      ⟨i+1,_,rfl,rfl,by omega,by omega,hacc',hacc2',hfin.out⟩)
     clear hd9 HG hfin hacc' hacc2' h9;rcases hcase with⟨c1,c2⟩|⟨c1,c2,c3⟩|⟨c1,c2,c3,c4⟩
     all_goals go_wp2
     all_goals go_round
     all_goals first|(rw[hor.out];exact HR.out)|(simp[intOf];omega)
  ·have hnone:Hid (Num.getSmall l=none):=by
    show _=_;rw[hg];rcases Nat.lt_or_ge i 10 with h|h
    ·rw[List.drop_of_length_le (by omega),show 10-i=(9-i)+1 from by omega];rfl
    ·rw[show 10-i=0 from by omega];rfl
   have hge:min (l.length:Int) 10<=(i:Int):=by omega
   clear hg hm0;go_wp2;go_ret2;exact⟨by rw[hnone.out];rfl,rfl⟩
end
section
open Go.RowKit
attribute [local go_sem] am aq
def iQ(c:Nat):Nat:=if c%2=1 then(c/2)^^^2197175160 else c/2
def ny:Nat->Nat->Nat
 |0,c=>c
 |k+1,c=>iQ (ny k c)
def pR (i:Nat):Nat:=ny 4 i
theorem zX{c:Nat}(h:c<4294967296):iQ c<4294967296:=by
 unfold iQ;split
 ·exact Nat.xor_lt_two_pow (n:=32) (by omega) (by omega)
 ·omega
theorem tY{c:Nat}(h:c<4294967296):∀k,ny k c<4294967296
 |0=>h
 |k+1=>zX (tY h k)
def iq(k:Nat):Array Value:=((List.range 16).map fun i=>Value.int .u32 ((if i<k then pR i else 0:Nat):Int)).toArray
theorem AF(k i:Nat)(h:i<16):(iq k)[i]?=some (.int .u32 ((if i<k then pR i else 0:Nat):Int)):=by
 unfold iq;rw[List.getElem?_toArray,List.getElem?_map,List.getElem?_range h];rfl
theorem FH(k:Nat)(h:k<16):(iq k).setIfInBounds k (.int .u32 (pR k:Int))=iq (k+1):=by
 unfold iq;rw[List.setIfInBounds_toArray];congr 1;apply List.ext_getElem?;intro i;rw[List.getElem?_set];by_cases e:k=i
 ·subst e;simp[h]
 ·rw[if_neg e];simp only[List.getElem?_map];by_cases hi:i<16
  ·rw[List.getElem?_range hi];have:(i<k+1)=(i<k):=by
    apply propext;omega
   simp[this]
  ·rw[List.getElem?_eq_none (by simpa using hi)];rfl
theorem Cg(w:World):Calls Tryz.prog 272 #[] w fun e w'=>e=.returned (.agg (iq 16))/\Below w.heap.size w w':=by
 have h1:∀c:Nat,c<4294967296->bits BinOp.and IntKind.u32 (c:Int) 1=((c%2:Nat):Int):=fun c h=>by
  have:=u32_and_nat c 1 h (by omega);rw[nat_mask1] at this;exact this
 have h2:∀c:Nat,c<4294967296->bits BinOp.xor IntKind.u32 ((c:Int)/2) 2197175160=(((c/2)^^^2197175160:Nat):Int):=fun c h=>u32_xor_nat (c/2) 2197175160 (by omega) (by omega);have H1:=af h1;have H2:=af h2;clear h1 h2;go_enter Tryz.func272,Tryz.ntmps272
 go_wp2;go_loopw [5] (fun vi wr=>∃k:Nat,vi=.int .i64 (k:Nat)/\k<=16/\wr=(w.alloc (.cells (iq 0) 339)).alloc (.cells (iq k) 339)) (fun vi _=>20-(intOf vi).toNat)
 case atStart=>exact⟨0,rfl,by omega,rfl⟩
 obtain⟨k,rfl,hk,rfl⟩:=hrel;by_cases hlt:k<16
 ·have HS:=af (FH k hlt);have ha:=AF k k hlt;go_wp2_with fail
  go_loopw [3,10] (fun vc vi wr=>∃j:Nat,vi=.int .i64 (j:Nat)/\j<=4/\vc=.int .u32 (ny j k:Int)/\wr=(w.alloc (.cells (iq 0) 339)).alloc (.cells (iq k) 339)) (fun _ vi _=>20-(intOf vi).toNat)
  case atStart=>exact⟨0,rfl,by omega,by simp[ny],rfl⟩
  obtain⟨j,rfl,hj,rfl,rfl⟩:=hrel;have hlt2:=tY (c:=k) (by omega) j;have HN:=af (show ny (j+1) k=iQ (ny j k) from rfl);have HF:=af (show pR k=ny 4 k from rfl);rcases(show j<4\/j=4 by omega) with hj4|rfl
  ·generalize ny j k=c at*;have e1:=H1.out c hlt2;have e2:=H2.out c hlt2;by_cases hc:c%2=1
   ·have hs:iQ c=(c/2)^^^2197175160:=by
     unfold iQ;rw[if_pos hc]
    rw[hs] at HN;go_wp2_with fail
    go_roundw
    case rel=>exact⟨j+1,by go_num,by omega,by rw[HN.out],trivial⟩
    case measure=>simp[intOf];omega
   ·have hs:iQ c=c/2:=by
     unfold iQ;rw[if_neg hc]
    rw[hs] at HN;go_wp2_with fail
    go_roundw
    case rel=>exact⟨j+1,by go_num,by omega,by rw[HN.out];simp,trivial⟩
    case measure=>simp[intOf];omega
  ·generalize ny 4 k=c at*;go_wp2_with fail
   go_roundw
   case rel=>exact⟨k+1,by go_num,by omega,by rw[<-HS.out,HF.out]⟩
   case measure=>simp[intOf];omega
 ·obtain rfl:k=16:=by omega
  go_wp2_with (first|refine wpList_load_row rfl _ _ rfl (w.heap.size+1) rfl 339 (iq 16) (0,0) _ (heap_alloc2_new _ _ _) Tryz.underlying339 rfl (by kernel_rfl) ?_ |refine wpList_store_row rfl _ _ _ rfl w.heap.size (iq 16) rfl rfl 339 (iq 0) (heap_alloc2_old _ _ _) (by kernel_rfl) (by kernel_rfl) (by kernel_rfl) ?_)
  refine bodyPost_ret (results_cell_row rfl _ _ w.heap.size 339 (iq 16) (0,0) _ rfl (setRow_heap _ _ (iq 0) _ _ _ (heap_alloc2_old _ _ _)) Tryz.underlying339 rfl (by kernel_rfl)) rfl ?_;exact⟨rfl,below_setRow (((bR).alloc (aF _) _).alloc (by simp) _) (aF _) _⟩
def jn(c:Nat):Nat:=pR (c%16)^^^(c/16)
def sx(c:Nat)(b:UInt8):Nat:=jn (jn (c^^^b.toNat))
def je(c:Nat)(l:List UInt8):Nat:=l.foldl sx c
def rs(c:Nat)(l:List UInt8):Nat:=4294967295-je (4294967295-c) l
theorem xT{c:Nat}(h:c<4294967296):pR c<4294967296:=tY h 4
theorem mQ{c:Nat}(h:c<4294967296):jn c<4294967296:=Nat.xor_lt_two_pow (n:=32) (xT (by omega)) (by omega)
theorem CB{c:Nat}(h:c<4294967296)(b:UInt8):sx c b<4294967296:=
 mQ (mQ (Nat.xor_lt_two_pow (n:=32) h (by have:=b.toNat_lt;omega)))
theorem uw{c:Nat}(h:c<4294967296):∀l,je c l<4294967296
 |[]=>h
 |b::l=>uw (CB h b) l
theorem yj{c:Nat}{l:List UInt8}{i:Nat}{b:UInt8}(h:l[i]?=some b):je c (l.take (i+1))=sx (je c (l.take i)) b:=by
 obtain⟨hi,rfl⟩:=List.getElem?_eq_some_iff.1 h;unfold je;rw[eM hi,List.foldl_append];rfl
theorem J7(c:Nat)(h:c<4294967296):bits BinOp.xor IntKind.u32 IntKind.u32.max (c:Int)=((4294967295-c:Nat):Int):=by
 have e:(BitVec.ofNat 32 c^^^BitVec.allOnes 32).toNat=(~~~ BitVec.ofNat 32 c).toNat:=by rw[BitVec.xor_allOnes]
 rw[BitVec.toNat_xor,BitVec.toNat_not,BitVec.toNat_allOnes,BitVec.toNat_ofNat,Nat.mod_eq_of_lt (by simpa using h)] at e;have e2:c^^^4294967295=4294967295-c:=by simpa using e
 have:=u32_xor_nat 4294967295 c (by omega) h;rw[Nat.xor_comm,e2] at this;exact this
theorem Kg(c:Nat)(h:c<4294967296):bits BinOp.and IntKind.u32 (c:Int) 15=((c%16:Nat):Int):=by
 have:=u32_and_nat c 15 h (by omega);rw[show c&&& 15=c%16 from Nat.and_two_pow_sub_one_eq_mod c 4] at this;exact this
theorem Dc(a c:Nat)(ha:a<4294967296)(hc:c<4294967296):bits BinOp.xor IntKind.u32 (a:Int) ((c:Int)/16)=((a^^^(c/16):Nat):Int):=u32_xor_nat a (c/16) ha (by omega)
theorem KS(c:Nat)(l:List UInt8)(hc:c<4294967296)(hl:l.length<=1099511627776)(w:World):
 Calls Tryz.prog 223 #[.int .u32 (c:Int),.string (bs l)] w fun e w'=>e=.returned (.int .u32 (rs c l:Int))/\Below w.heap.size w w':=by
 have q:=af (Cg w)
 have hn:=J7 c hc
 go_enter Tryz.func223,Tryz.ntmps223
 go_wp2_with fail
 refine q.out.mono ?_
 rintro e w1 ⟨rfl,hb⟩
 go_wp2_with (refine wpList_store_row rfl _ _ _ rfl w1.heap.size (iq 16) rfl rfl 339 (iq 0) (heap_alloc_new _ _) (by kernel_rfl) (by kernel_rfl) (by kernel_rfl) ?_)
 generalize hg:w1.heap.size=g
 generalize hW:World.setRow _ g (iq 16)=W2
 have HC:=af (fun (i:Nat) (hi:i<16)=>show W2.cell? ⟨g,i,none⟩=some (.int .u32 (pR i:Int)) by
  rw[<-hW,<-hg]
  exact(cell_setRow_same _ _ _ (iq 0) _ _ _ (heap_alloc_new _ _)).trans ((AF 16 i hi).trans (by rw[if_pos hi])))
 have HB:=af (show Below w.heap.size w W2 by
  rw[<-hW,<-hg]
  exact below_setRow (hb.alloc hb.size _) hb.size _)
 clear hW hb hg
 have hc1:4294967295-c<4294967296:=by omega
 go_loop [0,12] (fun vc vi=>∃i:Nat,i<=l.length/\vi=.int .i64 (i:Int)/\vc=.int .u32 (je (4294967295-c) (l.take i):Int)) (fun _ vi=>l.length-(intOf vi).toNat)
 case atStart=>exact⟨0,Nat.zero_le _,rfl,rfl⟩
 obtain⟨i,hi,rfl,rfl⟩:=hrel
 have hlt:=uw hc1 (l.take i)
 rcases(show i<l.length\/i=l.length by omega) with hil|rfl
 ·have hb:=aV hil;have HN:=af (yj (c:=4294967295-c) hb);generalize l[i]=b at*;have hidx:=fun W=>cE (P:=Tryz.prog) 9 Tryz.underlying9 l i b hb .i64 W;generalize je (4294967295-c) (l.take i)=d at*;have hbl:=b.toNat_lt;have e0:bits BinOp.xor IntKind.u32 (d:Int) (b.toNat:Int)=((d^^^b.toNat:Nat):Int):=u32_xor_nat d b.toNat hlt (by omega);have hx:d^^^b.toNat<4294967296:=Nat.xor_lt_two_pow (n:=32) hlt (by omega);have HD:=af (show sx d b=jn (jn (d^^^b.toNat)) from rfl);generalize d^^^b.toNat=x at*;have e1:=Kg x hx;have e2:=HC.out (x%16) (by omega);have e3:=Dc (pR (x%16)) x (xT (by omega)) hx;have hy:jn x<4294967296:=mQ hx;have HY:=af (show jn x=pR (x%16)^^^(x/16) from rfl);rw[<-HY.out] at e3;generalize jn x=y at*;have e4:=Kg y hy;have e5:=HC.out (y%16) (by omega);have e6:=Dc (pR (y%16)) y (xT (by omega)) hy;have HZ:=af (show jn y=pR (y%16)^^^(y/16) from rfl);rw[<-HZ.out] at e6;have hz:jn y<4294967296:=mQ hy;generalize jn y=z at*;generalize pR (x%16)=hx16 at*;generalize pR (y%16)=hy16 at*;go_wp2_with fail
  go_round
  case rel=>exact⟨i+1,by omega,by go_num,by rw[HN.out,HD.out]⟩
  case measure=>simp[intOf];omega
 ·have HO:=af (show rs c l=4294967295-je (4294967295-c) (l.take l.length) by rw[List.take_length];rfl);have e1:=J7 _ hlt;rw[<-HO.out] at e1;generalize je (4294967295-c) (l.take l.length)=d at*;go_wp2;go_ret;exact⟨rfl,HB.out⟩
def dj(l:List UInt8):List UInt8:=Num.wideF 4 (rs 0 l)
theorem dP(l:List UInt8):(dj l).length=4:=Num.wideF_len 4 _
def eB(s:List UInt8):Option (List UInt8):=if s.length<4 then none else if dj (s.take (s.length-4))=s.drop (s.length-4) then some (s.take (s.length-4)) else none
theorem Ch(b:List UInt8):eB (b++dj b)=some b:=by
 unfold eB;have h:(b++dj b).length-4=b.length:=by simp[dP]
 rw[if_neg (by simp[dP]),h,List.take_left' rfl,List.drop_left' rfl,if_pos rfl]
theorem nV{s b:List UInt8}(h:eB s=some b):s=b++dj b:=by
 unfold eB at h;split at h
 ·cases h
 split at h
 ·obtain rfl:=az h;rename_i e;rw[e,List.take_append_drop]
 ·cases h
theorem KT(l:List UInt8)(hl:l.length<=1099511627776)(w:World):
 Calls Tryz.prog 171 #[.string (bs l)] w fun e w'=>e=.returned (.int .u32 (rs 0 l:Int))/\Below w.heap.size w w':=by
 have q:=af (show Calls Tryz.prog 223 #[.int .u32 0,.string (bs l)] w _ from KS 0 l (by omega) hl w)
 go_enter Tryz.func171,Tryz.ntmps171
 go_wp2_with fail
 refine q.out.mono ?_
 rintro e w1 ⟨rfl,hb⟩
 go_wp2
 go_ret
 exact⟨rfl,hb⟩
def DO(n:Int)(w1:World)(vi:Value)(wr:World):Prop:=
 ∃(k:Nat),vi=.int .i64 (k:Nat)/\k<=4/\wr=w1.alloc (.cells (kg 4 (Num.wideF k n.toNat)) 249)
theorem mJ(l:List UInt8)(hl:l.length<=1099511627776)(w:World):
 Calls Tryz.prog 108 #[.string (bs l)] w fun e w'=>e=.returned (.string (bs (dj l)))/\Below w.heap.size w w':=by
 have q:=af (KT l hl w)
 have HT:=af (show dj l=Num.wideF 4 (rs 0 l) from rfl)
 go_enter Tryz.func108,Tryz.ntmps108
 go_wp2_with fail
 refine q.out.mono ?_
 rintro e w1 ⟨rfl,hb⟩
 have h1:(0:Int)<=(rs 0 l:Int):=by omega
 have HT2:=af (show dj l=Num.wideF 4 (rs 0 l:Int).toNat from HT.out)
 generalize hn:((rs 0 l:Nat):Int)=n at*
 go_wp2_with fail
 go_loopw [8] (fun vi wr=>DO n w1 vi wr) (fun vi _=>10-(intOf vi).toNat)
 case atStart=>exact⟨0,rfl,by omega,rfl⟩
 obtain⟨k,rfl,hk8,rfl⟩:=hrel
 by_cases hlt:k<4
 ·have ha:(kg 4 (Num.wideF k n.toNat))[k]?=some (.int .u8 0):=by
   have:=mX 4 (Num.wideF k n.toNat) (by rw[Num.wideF_len];omega);rw[Num.wideF_len] at this;exact this
  have hset:Hid (∀wr,wr=w1.alloc (.cells ((kg 4 (Num.wideF k n.toNat)).setIfInBounds k (.int .u8 (n/2^(8*k)%256))) 249)->DO n w1 (.int .i64 ((k:Int)+1)) wr):=by
   rintro wr rfl;refine⟨k+1,rfl,by omega,?_⟩;have:=po 4 (Num.wideF k n.toNat) (by rw[Num.wideF_len];omega) (UInt8.ofNat (n.toNat/256^k%256));rw[Num.wideF_len] at this;rw[sH,<-this,Num.ofNat_toNat _ (by omega),Ld n h1 k]
  go_wp2_with fail
  go_roundw
  case rel=>exact hset.out _ rfl
  case measure=>simp[intOf];omega
 ·obtain rfl:k=4:=by omega
  have hs:=fun W=>lJ (P:=Tryz.prog) 249 5 4 1 Tryz.underlying249 (by kernel_rfl) w1.heap.size W;have hc:=lj (P:=Tryz.prog) 82 9 5 Tryz.underlying82 Tryz.underlying5 Tryz.underlying9 4 4 (Num.wideF 4 n.toNat) 249 w1;rw[Num.wideF_len] at hc;go_wp2;go_ret;exact⟨by rw[HT2.out];rfl,hb.alloc hb.size _⟩
def gS(s:List UInt8):Value:=match eB s with
 |none=>.tuple #[.string ⟨#[]⟩,.bool false]
 |some b=>.tuple #[.string (bs b),.bool true]
theorem pC(s:List UInt8)(hl:s.length<=1099511627776)(w:World):
 Calls Tryz.prog 136 #[.string (bs s)] w fun e w'=>e=.returned (gS s)/\Below w.heap.size w w':=by
 by_cases h4:s.length<4
 ·have HG:=af (show gS s=.tuple #[.string ⟨#[]⟩,.bool false] by unfold gS eB;rw[if_pos h4]);go_enter Tryz.func136,Tryz.ntmps136
  go_wp2;go_ret2;exact⟨by rw[HG.out];rfl,bR⟩
 ·have hw:IntKind.i64.wrap ((s.length:Int)-4)=((s.length-4:Nat):Int):=by simp[IntKind.wrap,IntKind.bits,IntKind.signed];omega
  have he1:(bs s).extract 0 (s.length-4)=bs (s.take (s.length-4)):=by
   rw[bZ,List.drop_zero,Nat.sub_zero]
  have he2:(bs s).extract (s.length-4) s.length=bs (s.drop (s.length-4)):=by
   rw[bZ,List.take_of_length_le (by simp)]
  have HG1:=af (show dj (s.take (s.length-4))=s.drop (s.length-4)->gS s=.tuple #[.string (bs (s.take (s.length-4))),.bool true] from fun e=>by unfold gS eB;rw[if_neg h4,if_pos e]);have HG0:=af (show dj (s.take (s.length-4))≠s.drop (s.length-4)->gS s=.tuple #[.string ⟨#[]⟩,.bool false] from fun e=>by unfold gS eB;rw[if_neg h4,if_neg e]);have q:=af (fun W=>mJ (s.take (s.length-4)) (by simp;omega) W);have h0':(0:Int)<=((s.length-4:Nat):Int):=by omega
  have h1':((s.length-4:Nat):Int)<=(s.length:Int):=by omega
  generalize s.take (s.length-4)=b at*;generalize s.drop (s.length-4)=t at*;generalize s.length-4=k at*;go_enter Tryz.func136,Tryz.ntmps136
  go_wp2_with fail
  go_quiet (fail)
  go_wp2_with fail
  refine(q.out _).mono ?_;rintro e w1 ⟨rfl,hb1⟩;have hb:Below w.heap.size w w1:=(below_drewN (Below.refl _ w) _).trans hb1;clear hb1;by_cases ht:dj b=t
  ·have hq:(dj b==t)=true:=by simpa using ht
   generalize dj b=tb at*;have HG:=af (HG1.out ht);clear ht;go_wp2;go_ret2;exact⟨by rw[HG.out];rfl,hb⟩
  ·have hq:(dj b==t)=false:=by simpa using ht
   generalize dj b=tb at*;have HG:=af (HG0.out ht);clear ht;go_wp2;go_ret2;exact⟨by rw[HG.out];rfl,hb⟩
end
section
open Go.RowKit
def m8(w:World)(g o:Nat)(t:TypeId)(cs:Array Value)(c':List UInt8×Bool)(v:Value)(e:Ending)(w':World):Prop:=
 e=.returned v/\ag w' g t ((cs.setIfInBounds o (.string (bs c'.1))).setIfInBounds (o+1) (.bool c'.2))/\w.grownBy w' (some g)
theorem iN(cs:Array Value)(i:Nat)(v:Value)(h:cs[i]?=some v):cs.setIfInBounds i v=cs:=by
 apply Array.ext_getElem?;intro j;rw[Array.getElem?_setIfInBounds];split
 ·rename_i hij;subst hij;rw[h];simp;exact(Array.getElem?_eq_some_iff.1 h).1
 ·rfl
theorem rJ{w w':World}(h:Below w.heap.size w w')(row:Option Nat):w.grownBy w' row:=⟨h.os,h.tape,h.output,h.size,fun k hk _=>h.block k hk⟩
theorem bl{a b c:World}{row:Option Nat}(h:a.grownBy b row)(k:b.grownBy c row):a.grownBy c row:=
 ⟨k.os.trans h.os,k.tape.trans h.tape,k.output.trans h.output,aK h.size k.size,fun i hi hne=>(k.block i (dQ hi h.size) hne).trans (h.block i hi hne)⟩
theorem ap(w:World)(g o:Nat)(v:Value):w.grownBy (w.setCell ⟨g,o,none⟩ v) (some g):=
 ⟨rfl,rfl,rfl,by simp[World.setCell],fun k _ hne=>Below.heap_setCell w ⟨g,o,none⟩ v k (fun e=>hne (by simp[e]))⟩
def gR:Option (List UInt8×Nat)->List UInt8|none=>[]|some (t,_)=>t
theorem oy(g o:Nat)(t:TypeId)(cs:Array Value)(s:List UInt8)(bad:Bool)(f:FuncId)(capt:Array Value)(r:Option (Nat×Nat))(w:World)
 (hB:ag w g t cs) (h0:cs[o]?=some (.string (bs s))) (h1:cs[o+1]?=some (.bool bad))
 (hget:bad=false->Calls Tryz.prog f (#[.string (bs s)]++capt) w fun e w'=>e=.returned (.tuple #[.int .u64 (oZ r),.int .i64 (ug r)])/\Below w.heap.size w w')
 (hcf:∀W,(callFunc f (#[.string (bs s)]++capt)).run Tryz.prog W=.ok (.enter f (#[.string (bs s)]++capt)) W)
 (hr:∀v k,r=some (v,k)->k<=s.length):
 Calls Tryz.prog 200 #[.pointer (some ⟨g,o,none⟩),.func (.func f) #[] capt] w (m8 w g o t cs (Num.nxt (s,bad) r) (.int .u64 (if bad then 0 else oZ r))):=by
 have e0:w.cell? ⟨g,o,none⟩=some (.string (bs s)):=(hB.cell o).trans h0
 have e1:w.cell? ⟨g,o+1,none⟩=some (.bool bad):=(hB.cell (o+1)).trans h1
 cases bad with
 |true=>
  go_enter Tryz.func200,Tryz.ntmps200
  go_wp2;go_ret;exact⟨rfl,by simpa[Num.nxt,iN _ _ _ h0,iN _ _ _ h1] using hB,⟨rfl,rfl,rfl,aF _,fun _ _ _=>rfl⟩⟩
 |false=>
  have hg:=af (hget rfl);clear hget;go_enter Tryz.func200,Tryz.ntmps200
  go_wp2_with fail
  refine hg.out.mono ?_;clear hg hcf;rintro e w1 ⟨rfl,hb1⟩;have hB1:=hB.below hb1 hB.lt;have c0:w1.cell? ⟨g,o,none⟩=some (.string (bs s)):=(hB1.cell o).trans h0;have c1:w1.cell? ⟨g,o+1,none⟩=some (.bool false):=(hB1.cell (o+1)).trans h1;have f0:=hB1.frozen o;have f1:=hB1.frozen (o+1);have hG:=rJ hb1 (some g);cases r with
  |none=>
   have hk:ug (none:Option (Nat×Nat))= -1:=rfl;have hv:oZ none=0:=rfl;rw[hk,hv];have hP:=af (hB1.set_ (o+1) (.bool true));clear hB hB1 hr hb1 hk hv;go_wp2;go_ret;exact⟨rfl,by simpa[Num.nxt,iN _ _ _ h0] using hP.out,bl hG (ap _ _ _ _)⟩
  |some x=>
   obtain⟨v,k⟩:=x;have hk:ug (some (v,k))=(k:Int):=rfl;have hks:=hr v k rfl;have hz:=aq s;have hx:(bs s).extract k s.length=bs (s.drop k):=by rw[bZ,List.take_of_length_le (by simp)]
   rw[hk];have hP:=af (hB1.set_ o (.string (bs (s.drop k))));have h1':=af h1;clear hB hB1 hr hb1 hk e0 e1 h0 h1;go_wp2;go_ret;refine⟨rfl,?_,bl hG (ap _ _ _ _)⟩;show ag _ g t ((cs.setIfInBounds o (.string (bs (s.drop k)))).setIfInBounds (o+1) (.bool false));rw[iN _ (o+1) (.bool false) (by rw[Array.getElem?_setIfInBounds,if_neg (by omega)];exact h1'.out)];exact hP.out
theorem oz(g o:Nat)(t:TypeId)(cs:Array Value)(s:List UInt8)(bad:Bool)(f:FuncId)(capt:Array Value)(r:Option (List UInt8×Nat))(w:World)
 (hB:ag w g t cs) (h0:cs[o]?=some (.string (bs s))) (h1:cs[o+1]?=some (.bool bad))
 (hget:bad=false->Calls Tryz.prog f (#[.string (bs s)]++capt) w fun e w'=>e=.returned (.tuple #[.string (bs (gR r)),.int .i64 (ug r)])/\Below w.heap.size w w')
 (hcf:∀W,(callFunc f (#[.string (bs s)]++capt)).run Tryz.prog W=.ok (.enter f (#[.string (bs s)]++capt)) W)
 (hr:∀v k,r=some (v,k)->k<=s.length):
 Calls Tryz.prog 279 #[.pointer (some ⟨g,o,none⟩),.func (.func f) #[] capt] w (m8 w g o t cs (Num.nxt (s,bad) r) (.string (bs (if bad then[] else gR r)))):=by
 have e0:w.cell? ⟨g,o,none⟩=some (.string (bs s)):=(hB.cell o).trans h0
 have e1:w.cell? ⟨g,o+1,none⟩=some (.bool bad):=(hB.cell (o+1)).trans h1
 cases bad with
 |true=>
  go_enter Tryz.func279,Tryz.ntmps279
  go_wp2;go_ret;exact⟨rfl,by simpa[Num.nxt,iN _ _ _ h0,iN _ _ _ h1] using hB,⟨rfl,rfl,rfl,aF _,fun _ _ _=>rfl⟩⟩
 |false=>
  have hg:=af (hget rfl);clear hget;go_enter Tryz.func279,Tryz.ntmps279
  go_wp2_with fail
  refine hg.out.mono ?_;clear hg hcf;rintro e w1 ⟨rfl,hb1⟩;have hB1:=hB.below hb1 hB.lt;have c0:w1.cell? ⟨g,o,none⟩=some (.string (bs s)):=(hB1.cell o).trans h0;have c1:w1.cell? ⟨g,o+1,none⟩=some (.bool false):=(hB1.cell (o+1)).trans h1;have f0:=hB1.frozen o;have f1:=hB1.frozen (o+1);have hG:=rJ hb1 (some g);cases r with
  |none=>
   have hk:ug (none:Option (List UInt8×Nat))= -1:=rfl;have hv:bs (gR none)=⟨#[]⟩:=rfl;rw[hk,hv];have hP:=af (hB1.set_ (o+1) (.bool true));clear hB hB1 hr hb1 hk hv;go_wp2;go_ret;exact⟨rfl,by simpa[Num.nxt,iN _ _ _ h0] using hP.out,bl hG (ap _ _ _ _)⟩
  |some x=>
   obtain⟨v,k⟩:=x;have hk:ug (some (v,k))=(k:Int):=rfl;have hks:=hr v k rfl;have hz:=aq s;have hx:(bs s).extract k s.length=bs (s.drop k):=by rw[bZ,List.take_of_length_le (by simp)]
   have hv:gR (some (v,k))=v:=rfl;rw[hk,hv];have hP:=af (hB1.set_ o (.string (bs (s.drop k))));have h1':=af h1;clear hB hB1 hr hb1 hk e0 e1 h0 h1;go_wp2;go_ret;refine⟨rfl,?_,bl hG (ap _ _ _ _)⟩;show ag _ g t ((cs.setIfInBounds o (.string (bs (s.drop k)))).setIfInBounds (o+1) (.bool false));rw[iN _ (o+1) (.bool false) (by rw[Array.getElem?_setIfInBounds,if_neg (by omega)];exact h1'.out)];exact hP.out
theorem uS(l:List UInt8)(i:Nat)(b:UInt8)(h:l[i]?=some b):Num.unw (l.take (i+1))=Num.unw (l.take i)+b.toNat*256^i:=by
 induction l generalizing i with
 |nil=>simp at h
 |cons c r ih=>
  cases i with
  |zero=>simp at h;simp[Num.unw,h]
  |succ i=>
   have:=ih i (by simpa using h);simp only[List.take_succ_cons,Num.unw] at*;rw[this,Nat.pow_succ,Nat.mul_comm (256^i) 256,<-Nat.mul_assoc,Nat.mul_comm b.toNat 256,Nat.mul_assoc,Nat.mul_add,Nat.add_assoc]
theorem L6(i acc b:Nat)(hb:b<256)(ha:acc<256^i)(hi:i<8):
 bits BinOp.or IntKind.u64 (acc:Int) (IntKind.u64.wrap ((b:Int)*2^(8*i)))=((acc+b*256^i:Nat):Int)/\acc+b*256^i<256^(i+1):=by
 have w (x:Int):IntKind.u64.wrap x=x%18446744073709551616:=by simp[IntKind.wrap,IntKind.bits,IntKind.signed]
 have e2:(2:Int)^(8*i)=((256^i:Nat):Int):=by
  rw[show (256:Nat)^i=2^(8*i) from by rw[Nat.pow_mul]];simp
 have hp:256^(i+1)<=256^8:=Nat.pow_le_pow_right (by omega) (by omega)
 have hb':b<=255:=by omega
 have hm:=Nat.mul_le_mul_right (256^i) hb'
 rw[Nat.pow_succ] at hp
 have e4:IntKind.u64.wrap ((b:Int)*((256^i:Nat):Int))=((b*256^i:Nat):Int):=by
  rw[w,<-Int.natCast_mul];omega
 refine⟨?_,by rw[Nat.pow_succ];omega⟩
 rw[e2,e4,u64_or_nat _ _ (by omega) (by omega),Nat.or_comm,nat_join (8*i) (b*256^i) acc]
 ·rw[Nat.add_comm]
 ·rw[Nat.pow_mul,show (2:Nat)^8=256 from rfl];exact Nat.mul_mod_left _ _
 ·rw[Nat.pow_mul];exact ha
def Kh(l:List UInt8)(vn vi:Value):Prop:=∃i:Nat,vi=.int .i64 (i:Int)/\vn=.int .u64 ((Num.unw (l.take i):Nat):Int)/\i<=8
theorem FM(l:List UInt8)(w:World)(hl:l.length<=1099511627776):
 Calls Tryz.prog 201 #[.string (bs l)] w fun e w'=>e=.returned (.tuple #[.int .u64 (oZ (Num.getWide l)),.int .i64 (ug (Num.getWide l))])/\Below w.heap.size w w':=by
 have hz:=aq l
 by_cases h8:l.length<8
 ·have hn:Hid (Num.getWide l=none):=by show _=_;unfold Num.getWide;rw[if_pos h8]
  go_enter Tryz.func201,Tryz.ntmps201
  go_wp2;go_ret2;exact⟨by rw[hn.out];rfl,bR⟩
 ·have hn:Hid (Num.getWide l=some (Num.unw (l.take 8),8)):=by show _=_;unfold Num.getWide;rw[if_neg h8]
  have h8':8<=l.length:=by omega
  go_enter Tryz.func201,Tryz.ntmps201
  go_wp2;go_loop [4,9] (fun vn vi=>Kh l vn vi) (fun _ vi=>10-(intOf vi).toNat)
  case atStart=>exact⟨0,rfl,rfl,by omega⟩
  case round=>
   obtain⟨i,rfl,hvn,hi8⟩:=hrel;by_cases hlt:i<8
   ·obtain⟨b,hb⟩:∃b,l[i]?=some b:=⟨l[i]'(by omega),aV (by omega)⟩
    have hix:=fun k W=>cE (P:=Tryz.prog) 9 Tryz.underlying9 l i b hb k W;have hbl:b.toNat<256:=UInt8.toNat_lt b;have hu:=uS l i b hb;have hlt':Num.unw (l.take i)<256^i:=by have:=Num.unw_lt (l.take i);rwa[List.length_take_of_le (by omega)] at this
    have ho:=L6 i (Num.unw (l.take i)) b.toNat hbl hlt' hlt;rw[<-hu] at ho;have HR:=af (show Kh l (.int .u64 ((Num.unw (l.take (i+1)):Nat):Int)) (.int .i64 ((i:Int)+1)) from⟨i+1,rfl,rfl,by omega⟩);generalize Num.unw (l.take (i+1))=y at ho HR;generalize Num.unw (l.take i)=x at hvn ho;have hor:=af ho.1;subst hvn;clear hb hu hlt' ho hz;go_wp2;go_round
    case rel=>rw[hor.out];exact HR.out
    case measure=>simp[intOf];omega
   ·obtain rfl:i=8:=by omega
    subst hvn;go_wp2;go_ret2;exact⟨by rw[hn.out];rfl,bR⟩
theorem FP(l:List UInt8)(n:Int)(p:Addr)(w:World)(_hl:l.length<=1099511627776)(hn1: -9223372036854775808<=n)(hn2:n<=9223372036854775807)(hp:w.cell? p=some (.int .i64 n)):
 Calls Tryz.prog 280 #[.string (bs l),.pointer (some p)] w fun e w'=>e=.returned (.tuple #[.string (bs (gR (Num.getTake l n))),.int .i64 (ug (Num.getTake l n))])/\Below w.heap.size w w':=by
 have hz:=aq l
 by_cases h0:n<0
 ·have hn:Hid (Num.getTake l n=none):=by show _=_;unfold Num.getTake;rw[if_pos (.inl h0)]
  go_enter Tryz.func280,Tryz.ntmps280
  go_wp2;go_ret2;exact⟨by rw[hn.out];rfl,bR⟩
 ·by_cases h1:(l.length:Int)<n
  ·have hn:Hid (Num.getTake l n=none):=by show _=_;unfold Num.getTake;rw[if_pos (.inr h1)]
   go_enter Tryz.func280,Tryz.ntmps280
   go_wp2;go_ret2;exact⟨by rw[hn.out];rfl,bR⟩
  ·obtain⟨m,rfl⟩:=Int.eq_ofNat_of_zero_le (show 0<=n by omega);have hn:Hid (Num.getTake l m=some (l.take m,m)):=by show _=_;unfold Num.getTake;rw[if_neg (by omega)];rfl
   have hx:=af (bZ l 0 m);have h0':(0:Int)<=(m:Int):=by omega
   have h1':(m:Int)<=(l.length:Int):=by omega
   go_enter Tryz.func280,Tryz.ntmps280
   go_wp2;go_quiet (fail)
   go_wp2;go_ret2;exact⟨by rw[hn.out,hx.out];rfl,(below_drewN (bR) _)⟩
theorem mw(l:List UInt8)(n k:Nat)(h:Num.getSmall l=some (n,k)):n<18446744073709551616/\k<=l.length/\k<=10/\1<=k:=by
 obtain⟨h1,h2,h3⟩:=Num.getSmall_only l n k h;have:=Num.small_len n;refine⟨h1,?_,by omega,by omega⟩;have:=congrArg List.length h3;simp at this;omega
theorem jR(l:List UInt8):l.dropWhile (·==0)=[]↔l.all (·==0)=true:=by
 induction l with
 |nil=>simp
 |cons b r ih=>
  rw[List.dropWhile_cons];by_cases h:(b==0)=true
  ·rw[if_pos h,ih];simp[h]
  ·rw[if_neg h];simp[h]
theorem vu(l:List UInt8)(h:l.all (·==0)=true):l.dropWhile (·==0)=[]:=(jR l).2 h
theorem J0(l:List UInt8):Lib.trimB l 0=[]↔l.all (·==0)=true:=by
 unfold Lib.trimB Lib.trimLeftB Lib.trimRightB;rw[jR];constructor
 ·intro h;rw[List.all_reverse] at h;rw[<-List.all_reverse,<-List.takeWhile_append_dropWhile (p:=fun x:UInt8=>x==0) (l:=l.reverse),List.all_append,h,List.all_takeWhile];rfl
 ·intro h;rw[List.all_reverse,vu _ (by rw[List.all_reverse];exact h)];rfl
theorem F9(l:List UInt8)(h:l.all (·==0)=true)(hs:l.length<=1099511627776)(w:World):
 Calls Tryz.prog 325 #[.string (bs l),.string ⟨#[0]⟩] w fun e w'=>e=.returned (.string ⟨#[]⟩)/\∃n,w'=w.drewN n:=by
 refine(Tryz.strings_Trim_one (bs l) 0 (by decide) w (by rw[aq];omega)).mono ?_
 rintro e w' ⟨rfl,hw⟩
 rw[io,(J0 l).2 h]
 exact⟨rfl,hw.elim (fun h=>⟨0,h⟩) (fun h=>⟨1,h⟩)⟩
theorem F8(l:List UInt8)(h:l.all (·==0)=false)(hs:l.length<=1099511627776)(w:World):
 Calls Tryz.prog 325 #[.string (bs l),.string ⟨#[0]⟩] w fun e w'=>(∃b r,e=.returned (.string (bs (b::r))))/\∃n,w'=w.drewN n:=by
 refine(Tryz.strings_Trim_one (bs l) 0 (by decide) w (by rw[aq];omega)).mono ?_
 rintro e w' ⟨rfl,hw⟩
 refine⟨?_,hw.elim (fun h=>⟨0,h⟩) (fun h=>⟨1,h⟩)⟩
 rw[io]
 cases hx:Lib.trimB l 0 with
 |nil=>rw[(J0 l).1 hx] at h;cases h
 |cons b r=>exact⟨b,r,rfl⟩
theorem C6(l:List UInt8)(k:Int)(N:Nat)(hk:Num.szN k=N)(p:Addr)(w:World)(_hl:l.length<=1099511627776)(hp:w.cell? p=some (.int .i64 (N:Int))):
 Calls Tryz.prog 324 #[.string (bs l),.pointer (some p)] w fun e w'=>e=.returned (.tuple #[.string (bs (gR (Num.getFixed l k))),.int .i64 (ug (Num.getFixed l k))])/\Below w.heap.size w w':=by
 have hz:=aq l
 have hN:N<=255:=by have:=Num.szN_le k;omega
 by_cases h0:l.length<=N
 ·have hn:Hid (Num.getFixed l k=none):=by show _=_;unfold Num.getFixed;rw[hk,List.getElem?_eq_none h0]
  have hd:decide ((l.length:Int)<=(N:Int))=true:=by simp;omega
  clear hk;go_enter Tryz.func324,Tryz.ntmps324
  go_wp2;go_quiet (fail)
  go_wp2;go_ret2;exact⟨by rw[hn.out];rfl,below_drewN (bR) _⟩
 ·obtain⟨b,hb⟩:∃b,l[N]?=some b:=⟨l[N]'(by omega),aV (by omega)⟩
  have hix:=fun k W=>cE (P:=Tryz.prog) 9 Tryz.underlying9 l N b hb k W;have hbl:b.toNat<256:=UInt8.toNat_lt b;have hd:decide ((l.length:Int)<=(N:Int))=false:=by simp;omega
  have h0':(N:Int)<(l.length:Int):=by omega
  by_cases h1:N<b.toNat
  ·have hn:Hid (Num.getFixed l k=none):=by show _=_;unfold Num.getFixed;rw[hk,hb];simp only[];rw[if_pos (.inl h1)]
   clear hk hb;go_enter Tryz.func324,Tryz.ntmps324
   go_wp2;go_quiet (fail)
   go_wp2;go_ret2;exact⟨by rw[hn.out];rfl,below_drewN (bR) _⟩
  ·have hx3:=bZ l 0 b.toNat;have hx4:=bZ l b.toNat N;rw[show (l.drop b.toNat).take (N-b.toNat)=(l.take N).drop b.toNat from by rw[List.take_drop];congr 2;omega] at hx4;have h1':(b.toNat:Int)<=(N:Int):=by omega
   have hlen:((l.take N).drop b.toNat).length<=1099511627776:=by rw[List.length_drop,dp];omega
   have hTz:(bs ((l.drop 0).take (b.toNat-0))).size=b.toNat:=by rw[aq];simp;omega
   have HT:=af (show (l.drop 0).take (b.toNat-0)=l.take b.toNat from by simp);generalize (l.drop 0).take (b.toNat-0)=T at hx3 hTz HT;cases ha:((l.take N).drop b.toNat).all (·==0) with
   |false=>
    have hn:Hid (Num.getFixed l k=none):=by show _=_;unfold Num.getFixed;rw[hk,hb];simp only[];rw[if_pos (.inr ha)]
    have hc:=af (fun W=>F8 _ ha hlen W);generalize (l.take N).drop b.toNat=M at hc hx4;clear hk hb ha hlen h1;go_enter Tryz.func324,Tryz.ntmps324
    go_wp2;go_quiet (fail)
    go_wp2_with (go_at_call 325;refine(hc.out _).mono ?_;rintro e w' ⟨⟨b',r',rfl⟩,nq',rfl⟩;have hne:(bs (b'::r')).toList=b'::r':=am _)
    go_ret2;exact⟨by rw[hn.out];rfl,below_drewN (bR) _⟩
   |true=>
    have hn:Hid (Num.getFixed l k=some (l.take b.toNat,N+1)):=by show _=_;unfold Num.getFixed;rw[hk,hb];simp only[];rw[if_neg (by rintro(h|h);exact h1 h;rw[ha] at h;cases h)]
    have hc:=af (fun W=>F9 _ ha hlen W);generalize (l.take N).drop b.toNat=M at hc hx4;clear hk hb ha hlen h1;go_enter Tryz.func324,Tryz.ntmps324
    go_wp2;go_quiet (fail)
    go_wp2_with (go_at_call 325;refine(hc.out _).mono ?_;rintro e w' ⟨rfl,nq',rfl⟩)
    go_quiet (fail)
    go_wp2;go_ret2;exact⟨by rw[hn.out,HT.out];rfl,below_drewN (below_drewN (bR) _) _⟩
theorem Iq(a:Array Value)(W:World):(callFunc 202 a).run Tryz.prog W=.ok (.enter 202 a) W:=by kernel_rfl
theorem Ir(a:Array Value)(W:World):(callFunc 201 a).run Tryz.prog W=.ok (.enter 201 a) W:=by kernel_rfl
theorem FC(a:Array Value)(W:World):(callFunc 324 a).run Tryz.prog W=.ok (.enter 324 a) W:=by kernel_rfl
theorem Is(a:Array Value)(W:World):(callFunc 280 a).run Tryz.prog W=.ok (.enter 280 a) W:=by kernel_rfl
theorem z7(l:List UInt8)(v k:Nat)(h:Num.getSmall l=some (v,k)):k<=l.length:=(mw l v k h).2.1
theorem Ci(l:List UInt8)(v k:Nat)(h:Num.getWide l=some (v,k)):k<=l.length:=by
 unfold Num.getWide at h;split at h
 ·cases h
 ·simp only[Option.some.injEq,Prod.mk.injEq] at h;omega
theorem Aa(l:List UInt8)(k0:Int)(v:List UInt8)(k:Nat)(h:Num.getFixed l k0=some (v,k)):k<=l.length:=by
 unfold Num.getFixed at h;cases hg:l[Num.szN k0]? with
 |none=>rw[hg] at h;cases h
 |some b=>
  rw[hg] at h;simp only[] at h;have:=(List.getElem?_eq_some_iff.1 hg).1;split at h
  ·cases h
  ·simp only[Option.some.injEq,Prod.mk.injEq] at h;omega
theorem Ck(l:List UInt8)(n:Int)(v:List UInt8)(k:Nat)(h:Num.getTake l n=some (v,k)):k<=l.length:=by
 unfold Num.getTake at h;split at h
 ·cases h
 ·simp only[Option.some.injEq,Prod.mk.injEq] at h;omega
theorem qE(g o:Nat)(t:TypeId)(cs:Array Value)(s:List UInt8)(bad:Bool)(w:World)
 (hB:ag w g t cs) (h0:cs[o]?=some (.string (bs s))) (h1:cs[o+1]?=some (.bool bad)) (hs:s.length<=1099511627776):
 Calls Tryz.prog 142 #[.pointer (some ⟨g,o,none⟩)] w (m8 w g o t cs (Num.nxt (s,bad) (Num.getSmall s)) (.int .u64 (if bad then 0 else oZ (Num.getSmall s)))):=by
 have hc:=af (oy g o t cs s bad 202 #[] (Num.getSmall s) w hB h0 h1
  (fun _=>(vg s w hs).mono fun e w' ⟨he,hw⟩=>⟨he,hw▸bR⟩) (Iq _) (z7 s))
 clear hB h0 h1
 generalize hv:(if bad then 0 else oZ (Num.getSmall s))=v at hc
 clear hv
 go_enter Tryz.func142,Tryz.ntmps142
 go_wp2_with (go_at_call 200;refine hc.out.mono ?_;rintro e w' ⟨rfl,hp⟩)
 go_ret
 exact⟨rfl,hp⟩
theorem o7(w:World)(ob:Obj)(row:Option Nat):w.grownBy (w.alloc ob) row:=World.grownBy_alloc w ob row
theorem lV(g o:Nat)(t:TypeId)(cs:Array Value)(s:List UInt8)(bad:Bool)(w:World)
 (hB:ag w g t cs) (h0:cs[o]?=some (.string (bs s))) (h1:cs[o+1]?=some (.bool bad)) (hs:s.length<=1099511627776):
 Calls Tryz.prog 141 #[.pointer (some ⟨g,o,none⟩)] w (m8 w g o t cs (Num.nxt (s,bad) (Num.getWide s)) (.int .u64 (if bad then 0 else oZ (Num.getWide s)))):=by
 have hc:=af (oy g o t cs s bad 201 #[] (Num.getWide s) w hB h0 h1
  (fun _=>FM s w hs) (Ir _) (Ci s))
 clear hB h0 h1
 generalize hv:(if bad then 0 else oZ (Num.getWide s))=v at hc
 clear hv
 go_enter Tryz.func141,Tryz.ntmps141
 go_wp2_with (go_at_call 200;refine hc.out.mono ?_;rintro e w' ⟨rfl,hp⟩)
 go_ret
 exact⟨rfl,hp⟩
theorem lW(g o:Nat)(t:TypeId)(cs:Array Value)(s:List UInt8)(bad:Bool)(n:Int)(w:World)
 (hB:ag w g t cs) (h0:cs[o]?=some (.string (bs s))) (h1:cs[o+1]?=some (.bool bad)) (hs:s.length<=1099511627776)
 (hm1: -9223372036854775808<=n) (hm2:n<=9223372036854775807):
 Calls Tryz.prog 243 #[.pointer (some ⟨g,o,none⟩),.int .i64 n] w (m8 w g o t cs (Num.nxt (s,bad) (Num.getTake s n)) (.string (bs (if bad then[] else gR (Num.getTake s n))))):=by
 have hc:=af (oz g o t cs s bad 280 #[.pointer (some ⟨w.heap.size,0,none⟩)] (Num.getTake s n) (w.alloc (.cells #[.int .i64 n] 3)) (hB.alloc _) h0 h1
  (fun _=>FP s n ⟨w.heap.size,0,none⟩ _ hs hm1 hm2 (lD _ _ _ _)) (Is _) (Ck s n))
 clear hB h0 h1
 generalize hv:(if bad then[] else gR (Num.getTake s n))=v at hc
 clear hv
 go_enter Tryz.func243,Tryz.ntmps243
 go_wp2_with (go_at_call 279;refine hc.out.mono ?_;rintro e w' ⟨rfl,hp1,hp2⟩)
 go_ret
 exact⟨rfl,hp1,bl (o7 _ _ _) hp2⟩
theorem kS(g o:Nat)(t:TypeId)(cs:Array Value)(s:List UInt8)(bad:Bool)(n:Int)(w:World)
 (hB:ag w g t cs) (h0:cs[o]?=some (.string (bs s))) (h1:cs[o+1]?=some (.bool bad)) (hs:s.length<=1099511627776)
 (hm1: -9223372036854775808<=n) (hm2:n<=9223372036854775807):
 Calls Tryz.prog 282 #[.pointer (some ⟨g,o,none⟩),.int .i64 n] w (m8 w g o t cs (Num.nxt (s,bad) (Num.getFixed s n)) (.string (bs (if bad then[] else gR (Num.getFixed s n))))):=by
 obtain⟨N,hN⟩:∃N:Nat,Num.szI n=N:=⟨Num.szN n,by unfold Num.szN Num.szI;omega⟩
 have hN':Num.szN n=N:=by unfold Num.szN;omega
 have hc:=af (oz g o t cs s bad 324 #[.pointer (some ⟨w.heap.size,0,none⟩)] (Num.getFixed s n) (w.alloc (.cells #[.int .i64 (N:Int)] 3)) (hB.alloc _) h0 h1
  (fun _=>C6 s n N hN' ⟨w.heap.size,0,none⟩ _ hs (lD _ _ _ _)) (FC _) (Aa s n))
 have hsz:=af (fun W=>oR n W hm1 hm2)
 rw[hN] at hsz
 clear hB h0 h1 hN hN'
 generalize hv:(if bad then[] else gR (Num.getFixed s n))=v at hc
 clear hv
 go_enter Tryz.func282,Tryz.ntmps282
 go_wp2_with (first|(go_at_call 225;refine(hsz.out _).mono ?_;rintro e w' ⟨rfl,rfl⟩)|(go_at_call 279;refine hc.out.mono ?_;rintro e w' ⟨rfl,hp1,hp2⟩))
 go_ret
 exact⟨rfl,hp1,bl (o7 _ _ _) hp2⟩
def nE(s:List UInt8)(bad:Bool):Bool:=s.isEmpty&& !bad
theorem rY(g o:Nat)(t:TypeId)(cs:Array Value)(s:List UInt8)(bad:Bool)(w:World)
 (hB:ag w g t cs) (h0:cs[o]?=some (.string (bs s))) (h1:cs[o+1]?=some (.bool bad)):
 Calls Tryz.prog 144 #[.pointer (some ⟨g,o,none⟩)] w fun e w'=>e=.returned (.bool (nE s bad))/\w=w':=by
 have e0:w.cell? ⟨g,o,none⟩=some (.string (bs s)):=(hB.cell o).trans h0
 have e1:w.cell? ⟨g,o+1,none⟩=some (.bool bad):=(hB.cell (o+1)).trans h1
 have ht:=am s
 clear hB h0 h1
 cases s<;>cases bad
 all_goals go_enter Tryz.func144,Tryz.ntmps144
 all_goals go_wp2
 all_goals go_ret
 all_goals exact⟨rfl,rfl⟩
def gz (w:World)(g:Nat)(s:List UInt8)(bad:Bool):Prop:=ag w g 210 #[.string (bs s),.bool bad]
theorem gz.c0{w:World}{g:Nat}{s:List UInt8}{bad:Bool}(h:gz w g s bad):w.cell? ⟨g,0,none⟩=some (.string (bs s)):=(ag.cell h 0).trans rfl
theorem gz.c1{w:World}{g:Nat}{s:List UInt8}{bad:Bool}(h:gz w g s bad):w.cell? ⟨g,1,none⟩=some (.bool bad):=(ag.cell h 1).trans rfl
theorem Db(g:Nat)(s:List UInt8)(bad:Bool)(w:World)(hB:gz w g s bad)(hs:s.length<=1099511627776):
 Calls Tryz.prog 142 #[.pointer (some ⟨g,0,none⟩)] w fun e w'=>e=.returned (.int .u64 (if bad then 0 else oZ (Num.getSmall s)))/\gz w' g (Num.nxt (s,bad) (Num.getSmall s)).1 (Num.nxt (s,bad) (Num.getSmall s)).2/\w.grownBy w' (some g):=
 qE g 0 _ _ s bad w hB rfl rfl hs
theorem Kl(g:Nat)(s:List UInt8)(bad:Bool)(w:World)(hB:gz w g s bad)(hs:s.length<=1099511627776):
 Calls Tryz.prog 141 #[.pointer (some ⟨g,0,none⟩)] w fun e w'=>e=.returned (.int .u64 (if bad then 0 else oZ (Num.getWide s)))/\gz w' g (Num.nxt (s,bad) (Num.getWide s)).1 (Num.nxt (s,bad) (Num.getWide s)).2/\w.grownBy w' (some g):=
 lV g 0 _ _ s bad w hB rfl rfl hs
theorem KX(g:Nat)(s:List UInt8)(bad:Bool)(n:Int)(w:World)(hB:gz w g s bad)(hs:s.length<=1099511627776)(h1: -9223372036854775808<=n)(h2:n<=9223372036854775807):
 Calls Tryz.prog 282 #[.pointer (some ⟨g,0,none⟩),.int .i64 n] w fun e w'=>e=.returned (.string (bs (if bad then[] else gR (Num.getFixed s n))))/\gz w' g (Num.nxt (s,bad) (Num.getFixed s n)).1 (Num.nxt (s,bad) (Num.getFixed s n)).2/\w.grownBy w' (some g):=
 kS g 0 _ _ s bad n w hB rfl rfl hs h1 h2
theorem Lv(g:Nat)(s:List UInt8)(bad:Bool)(n:Int)(w:World)(hB:gz w g s bad)(hs:s.length<=1099511627776)(h1: -9223372036854775808<=n)(h2:n<=9223372036854775807):
 Calls Tryz.prog 243 #[.pointer (some ⟨g,0,none⟩),.int .i64 n] w fun e w'=>e=.returned (.string (bs (if bad then[] else gR (Num.getTake s n))))/\gz w' g (Num.nxt (s,bad) (Num.getTake s n)).1 (Num.nxt (s,bad) (Num.getTake s n)).2/\w.grownBy w' (some g):=
 lW g 0 _ _ s bad n w hB rfl rfl hs h1 h2
theorem Km(g:Nat)(s:List UInt8)(bad:Bool)(w:World)(hB:gz w g s bad):
 Calls Tryz.prog 144 #[.pointer (some ⟨g,0,none⟩)] w fun e w'=>e=.returned (.bool (nE s bad))/\w=w':=
 rY g 0 _ _ s bad w hB rfl rfl
theorem AR(g:Nat)(s:List UInt8)(v k:Nat)(r:List UInt8)(w:World)(hB:gz w g s false)(hs:s.length<=1099511627776)(hg:Num.getSmall s=some (v,k))(hr:s.drop k=r):
 Calls Tryz.prog 142 #[.pointer (some ⟨g,0,none⟩)] w fun e w'=>e=.returned (.int .u64 (v:Int))/\gz w' g r false/\w.grownBy w' (some g):=by
 have h:=Db g s false w hB hs
 rw[hg] at h
 subst hr
 exact h
theorem AU(g:Nat)(s:List UInt8)(bad:Bool)(w:World)(hB:gz w g s bad)(hs:s.length<=1099511627776)(hg:bad=true\/Num.getSmall s=none):
 Calls Tryz.prog 142 #[.pointer (some ⟨g,0,none⟩)] w fun e w'=>e=.returned (.int .u64 0)/\gz w' g s true/\w.grownBy w' (some g):=by
 have h:=Db g s bad w hB hs
 cases bad with
 |true=>exact h
 |false=>
  rw[hg.resolve_left (by simp)] at h;exact h
theorem oo(g:Nat)(s:List UInt8)(v k:Nat)(r:List UInt8)(w:World)(hB:gz w g s false)(hs:s.length<=1099511627776)(hg:Num.getWide s=some (v,k))(hr:s.drop k=r):
 Calls Tryz.prog 141 #[.pointer (some ⟨g,0,none⟩)] w fun e w'=>e=.returned (.int .u64 (v:Int))/\gz w' g r false/\w.grownBy w' (some g):=by
 have h:=Kl g s false w hB hs
 rw[hg] at h
 subst hr
 exact h
theorem uP(g:Nat)(s:List UInt8)(n:Int)(v:List UInt8)(k:Nat)(r:List UInt8)(w:World)(hB:gz w g s false)(hs:s.length<=1099511627776)(h1: -9223372036854775808<=n)(h2:n<=9223372036854775807)(hg:Num.getTake s n=some (v,k))(hr:s.drop k=r):
 Calls Tryz.prog 243 #[.pointer (some ⟨g,0,none⟩),.int .i64 n] w fun e w'=>e=.returned (.string (bs v))/\gz w' g r false/\w.grownBy w' (some g):=by
 have h:=Lv g s false n w hB hs h1 h2
 rw[hg] at h
 subst hr
 exact h
theorem L8(w:World)(b i:Nat)(v:Value):ak w (w.setCell ⟨b,i,none⟩ v) (fun k=>k=b):=ak.of_grown (ap _ _ _ _) fun _ e=>(Option.some.inj e).symm
end
section
open Go.RowKit
attribute [local go_sem] am aq
def fI(b:List UInt8):List UInt8:=b++dj b
theorem dA(b:List UInt8):(fI b).length=b.length+4:=by unfold fI;rw[aG,dP]
def bM(b:List UInt8):List UInt8:=fI (Num.text b)
def eU(magic:List UInt8)(gen flags:Nat):List UInt8:=fI (magic++[UInt8.ofNat gen,UInt8.ofNat flags])
def iM(s:List UInt8):Bool:=s.all (fun b=>decide (128<=b.toNat))&&decide (s.length<10)
theorem rH(b:List UInt8)(hl:b.length<=1099511627776)(w:World):
 Calls Tryz.prog 113 #[.string (bs b)] w fun e w'=>e=.returned (.string (bs (fI b)))/\Below w.heap.size w w':=by
 have q:=af (mJ b hl w)
 have HC:=af (show fI b=b++dj b from rfl)
 have htl:=dP b
 have hadd:∀W,(Op.stringOp .add (bs b) (bs (dj b))).run Tryz.prog W=.ok (.string (bs (fI b))) W:=fun W=>aJ (P:=Tryz.prog) b (dj b) (by omega) W
 generalize fI b=c at*
 generalize dj b=t at*
 go_enter Tryz.func113,Tryz.ntmps113
 go_wp2_with fail
 refine q.out.mono ?_
 rintro e w1 ⟨rfl,hb⟩
 go_wp2
 go_ret
 exact⟨rfl,hb⟩
theorem ie(b:List UInt8)(hl:b.length<=1048576)(w:World):
 Calls Tryz.prog 40 #[.string (bs b)] w fun e w'=>e=.returned (.string (bs (bM b)))/\Below w.heap.size w w':=by
 have q:=af (ee b w (by omega))
 have ht:(Num.text b).length<=1099511627776:=by rw[Num.text_len];have:=Num.small_len b.length;omega
 have q2:=af (fun W=>rH (Num.text b) ht W)
 have HP:=af (show bM b=fI (Num.text b) from rfl)
 generalize fI (Num.text b)=c at*
 generalize Num.text b=t at*
 go_enter Tryz.func40,Tryz.ntmps40
 go_wp2_with fail
 refine q.out.mono ?_
 rintro e w1 ⟨rfl,hb⟩
 go_wp2_with fail
 refine(q2.out _).mono ?_
 rintro e w2 ⟨rfl,hb2⟩
 go_wp2
 go_ret
 exact⟨by rw[HP.out];rfl,hb.trans (hb2.mono hb.size)⟩
theorem yM(s:List UInt8)(hl:s.length<=1099511627776)(w:World):
 Calls Tryz.prog 242 #[.string (bs s)] w fun e w'=>e=.returned (.bool (iM s))/\w=w':=by
 go_enter Tryz.func242,Tryz.ntmps242
 go_wp2_with fail
 go_loop [6] (fun vi=>∃i:Nat,i<=s.length/\vi=.int .i64 (i:Int)/\(s.take i).all (fun b=>decide (128<=b.toNat))=true) (fun vi=>s.length-(intOf vi).toNat)
 case atStart=>exact⟨0,Nat.zero_le _,rfl,rfl⟩
 obtain⟨i,hi,rfl,hall⟩:=hrel
 rcases(show i<s.length\/i=s.length by omega) with hil|rfl
 ·have hb:=aV hil;have HN:=af (show (s.take (i+1)).all (fun b=>decide (128<=b.toNat))=((s.take i).all (fun b=>decide (128<=b.toNat))&&decide (128<=s[i].toNat)) by rw[eM hil,List.all_append];simp);rw[hall] at HN;have HW:=af (show s[i].toNat<128->iM s=false from fun h=>by
   unfold iM
   have:s.all (fun b=>decide (128<=b.toNat))=false:=by
    rw[List.all_eq_false]
    exact⟨s[i],dK hil,by simpa using h⟩
   rw[this]
   rfl)
  generalize s[i]=b at*;have hidx:=fun W=>cE (P:=Tryz.prog) 9 Tryz.underlying9 s i b hb .i64 W;have hbl:=b.toNat_lt;generalize b.toNat=n at*;clear hall;by_cases h:n<128
  ·have hd:(n:Int)/128=0:=by omega
   have hun:=HW.out h;go_wp2;go_ret;exact⟨rfl,rfl⟩
  ·have hd:(n:Int)/128=1:=by omega
   have hd2:decide (128<=n)=true:=by simp;omega
   rw[hd2] at HN;go_wp2_with fail
   go_round
   case rel=>exact⟨i+1,by omega,by go_num,by rw[HN.out];rfl⟩
   case measure=>simp[intOf];omega
 ·have HU:=af (show iM s=decide (s.length<10) by unfold iM;rw[List.take_length] at hall;rw[hall];rfl);clear hall;go_wp2;go_ret;refine⟨?_,rfl⟩;rw[HU.out];simp;omega
theorem ai(w:World)(o:Obj):Below w.heap.size w (w.alloc o):=(Below.refl _ w).alloc (aF _) o
theorem F6(w:World)(a b:Nat)(ha:(UInt8.ofNat a).toNat=a)(hb:(UInt8.ofNat b).toNat=b):
 (convert 82 9 (.slice (some ⟨w.heap.size,0,none⟩) 2 2)).run Tryz.prog (w.alloc (.cells #[.int .u8 (a:Int),.int .u8 (b:Int)] 5))=.ok (.string (bs [UInt8.ofNat a,UInt8.ofNat b])) (w.alloc (.cells #[.int .u8 (a:Int),.int .u8 (b:Int)] 5)):=
 fD 82 9 5 Tryz.underlying82 Tryz.underlying5 Tryz.underlying9 w.heap.size 0 2 [UInt8.ofNat a,UInt8.ofNat b] _ fun i h=>by
  rw[Nat.zero_add,World.cell?_alloc_new];rcases(show i=0\/i=1 by simp at h;omega) with rfl|rfl
  ·simp[ha]
  ·simp[hb]
theorem AO(magic:List UInt8)(gen flags:Nat)(hg:gen<256)(hf:flags<256)(hl:magic.length<=1048576)(w:World):
 Calls Tryz.prog 39 #[.string (bs magic),.int .i64 (gen:Int),.int .i64 (flags:Int)] w fun e w'=>e=.returned (.string (bs (eU magic gen flags)))/\Below w.heap.size w w':=by
 have q:=af (fun W=>rH (magic++[UInt8.ofNat gen,UInt8.ofNat flags]) (by simp;omega) W)
 have HH:=af (show eU magic gen flags=fI (magic++[UInt8.ofNat gen,UInt8.ofNat flags]) from rfl)
 have hadd:∀W,(Op.stringOp .add (bs magic) (bs [UInt8.ofNat gen,UInt8.ofNat flags])).run Tryz.prog W=.ok (.string (bs (magic++[UInt8.ofNat gen,UInt8.ofNat flags]))) W:=fun W=>aJ (P:=Tryz.prog) magic [UInt8.ofNat gen,UInt8.ofNat flags] (by simp;omega) W
 have hgm:(gen:Int)%256=gen:=by omega
 have hfm:(flags:Int)%256=flags:=by omega
 have hgn:(UInt8.ofNat gen).toNat=gen:=Num.ofNat_toNat gen hg
 have hfn:(UInt8.ofNat flags).toNat=flags:=Num.ofNat_toNat flags hf
 have hcv:=F6 w gen flags hgn hfn
 generalize [UInt8.ofNat gen,UInt8.ofNat flags]=gf at*
 generalize magic++gf=mgf at*
 go_enter Tryz.func39,Tryz.ntmps39
 go_wp2_with fail
 refine(q.out _).mono ?_
 rintro e w2 ⟨rfl,hb2⟩
 go_wp2
 go_ret
 exact⟨by rw[HH.out];rfl,(ai w _).trans (hb2.mono (by simp))⟩
def aA(s:List UInt8)(most:Nat):List UInt8×List UInt8×Int:=
 match Num.getSmall s with
 |none=>([],s,if iM s then 1 else 2)
 |some (n,k)=>if most<n then([],s,2) else if (s.drop k).length<n+4 then([],s,1)
  else if (eB (s.take (k+n+4))).isSome then((s.drop k).take n,s.drop (k+n+4),0) else([],s,2)
def nW(x:List UInt8×List UInt8×Int):Value:=.tuple #[.string (bs x.1),.string (bs x.2.1),.int .i64 x.2.2]
theorem JX(s:List UInt8)(most:Nat)(hl:s.length<=1048576)(hm:most<=1048576)(w:World):
 Calls Tryz.prog 198 #[.string (bs s),.int .i64 (most:Int)] w fun e w'=>e=.returned (nW (aA s most))/\Below w.heap.size w w':=by
 have k0:gz (w.alloc (.cells #[.string (bs s),.bool false] 210)) w.heap.size s false:=ag.new _ _ _
 have b0:=ai w (.cells #[.string (bs s),.bool false] 210)
 have hG:∀w':World,(w.alloc (.cells #[.string (bs s),.bool false] 210)).grownBy w' (some w.heap.size)->Below w.heap.size w w':=fun _ h=>b0.grown h b0.size (fun k hk=>by cases hk;exact aF _)
 have HG:=af hG
 clear hG b0
 cases hgs:Num.getSmall s with
 |none=>
  have q:=af (AU _ s false _ k0 (by omega) (.inr hgs));have HF:=af (show nW (aA s most)=.tuple #[.string ⟨#[]⟩,.string (bs s),.int .i64 (if iM s then 1 else 2)] by unfold aA;rw[hgs];rfl);clear hgs k0;have qu:=af (fun W=>yM s (by omega) W);go_enter Tryz.func198,Tryz.ntmps198
  go_wp2_with fail
  refine q.out.mono ?_;rintro e w1 ⟨rfl,k1,g1⟩;have c1:=k1.c1;have c0:=k1.c0;go_wp2_with fail
  refine(qu.out _).mono ?_;rintro e w2 ⟨rfl,rfl⟩;cases hu:iM s with
  |true=>
   rw[hu] at HF;go_wp2;go_ret3;exact⟨by rw[HF.out];rfl,HG.out _ g1⟩
  |false=>
   rw[hu] at HF;go_wp2;go_ret3;exact⟨by rw[HF.out];rfl,HG.out _ g1⟩
 |some x=>
  obtain⟨n,k⟩:=x;have hbd:=mw s n k hgs;have q:=af (AR _ s n k (s.drop k) _ k0 (by omega) hgs rfl);have hrl:(s.drop k).length=s.length-k:=by simp
  have HF:=af (show aA s most=if most<n then([],s,2) else if (s.drop k).length<n+4 then([],s,1)
   else if (eB (s.take (k+n+4))).isSome then((s.drop k).take n,s.drop (k+n+4),0) else([],s,2) by unfold aA;rw[hgs])
  clear hgs k0;by_cases h1:most<n
  ·have HR:=af (show nW (aA s most)=.tuple #[.string ⟨#[]⟩,.string (bs s),.int .i64 2] by rw[HF.out,if_pos h1];rfl);generalize s.drop k=r at*;clear HF;go_enter Tryz.func198,Tryz.ntmps198
   go_wp2_with fail
   refine q.out.mono ?_;rintro e w1 ⟨rfl,k1,g1⟩;have c1:=k1.c1;have c0:=k1.c0;go_wp2;go_ret3;exact⟨by rw[HR.out];rfl,HG.out _ g1⟩
  ·by_cases h2:(s.drop k).length<n+4
   ·have HR:=af (show nW (aA s most)=.tuple #[.string ⟨#[]⟩,.string (bs s),.int .i64 1] by rw[HF.out,if_neg h1,if_pos h2];rfl);generalize s.drop k=r at*;clear HF;go_enter Tryz.func198,Tryz.ntmps198
    go_wp2_with fail
    refine q.out.mono ?_;rintro e w1 ⟨rfl,k1,g1⟩;have c1:=k1.c1;have c0:=k1.c0;go_wp2;go_ret3;exact⟨by rw[HR.out];rfl,HG.out _ g1⟩
   ·have hkn:k<=s.length:=hbd.2.1;have htk:=Num.getTake_some (s.drop k) n (by omega);have hr2l:((s.drop k).drop n).length=s.length-k-n:=by simp;omega
    have hbl:(((s.drop k).drop n).drop 4).length=s.length-k-n-4:=by simp;omega
    have hbe:s.drop (k+n+4)=((s.drop k).drop n).drop 4:=by rw[List.drop_drop,List.drop_drop,Nat.add_assoc]
    rw[hbe] at HF;have he1:(bs ((s.drop k).drop n)).extract 4 ((s.drop k).drop n).length=bs (((s.drop k).drop n).drop 4):=by
     rw[bZ,List.take_of_length_le (by simp;omega)]
    have he2:(bs s).extract 0 (k+n+4)=bs (s.take (k+n+4)):=by rw[bZ,List.drop_zero,Nat.sub_zero]
    have hw:IntKind.i64.wrap ((s.length:Int)-((((s.drop k).drop n).drop 4).length:Nat))=((k+n+4:Nat):Int):=by simp[IntKind.wrap,IntKind.bits,IntKind.signed];omega
    have hml:((k+n+4:Nat):Int)<=(s.length:Int):=by omega
    have hm0:(0:Int)<=((k+n+4:Nat):Int):=by omega
    have qg:=af (fun W=>pC (s.take (k+n+4)) (by simp;omega) W);generalize hr:s.drop k=r at*;have hq2:∀W,gz W w.heap.size r false->_:=fun W hW=>uP w.heap.size r n (r.take n) n (r.drop n) W hW (by omega) (by omega) (by omega) htk rfl;have Q2:=af hq2;clear hq2 htk hbe hr;have hr24:(4:Int)<=((r.drop n).length:Int):=by omega
    clear hr2l hbl;generalize r.take n=bb at*;generalize r.drop n=r2 at*;generalize r2.drop 4=bh at*;have HV0:=af (show eB (s.take (k+n+4))=none->nW (aA s most)=.tuple #[.string ⟨#[]⟩,.string (bs s),.int .i64 2] from fun e=>by rw[HF.out,if_neg h1,if_neg h2,e];rfl);have HV1:=af (show ∀z,eB (s.take (k+n+4))=some z->nW (aA s most)=.tuple #[.string (bs bb),.string (bs bh),.int .i64 0] from fun z e=>by rw[HF.out,if_neg h1,if_neg h2,e];rfl);clear HF;generalize s.take (k+n+4)=sm at*;generalize k+n+4=m at*;go_enter Tryz.func198,Tryz.ntmps198
    go_wp2_with fail
    refine q.out.mono ?_;rintro e w1 ⟨rfl,k1,g1⟩;have c1:=k1.c1;have c0:=k1.c0;go_wp2_with fail
    refine(Q2.out _ k1).mono ?_;rintro e w2 ⟨rfl,k2,g2⟩;have c0:=k2.c0;have hgb:=HG.out _ (bl g1 g2);clear c1 k1 g1 g2 k2 q Q2 hrl h1 h2 hbd hkn;generalize hGe:w.heap.size=G at*;go_wp2_with fail
    refine(qg.out _).mono ?_;rintro e w3 ⟨rfl,hb3⟩;cases hgd:eB sm with
    |none=>
     have hgv:gS sm=.tuple #[.string ⟨#[]⟩,.bool false]:=by unfold gS;rw[hgd]
     rw[hgv];have HR:=af (HV0.out hgd);go_wp2;go_ret3;exact⟨by rw[HR.out];rfl,by subst hGe;exact hgb.trans (hb3.mono hgb.size)⟩
    |some z=>
     have hgv:gS sm=.tuple #[.string (bs z),.bool true]:=by unfold gS;rw[hgd]
     rw[hgv];have HR:=af (HV1.out z hgd);go_wp2;go_ret3;exact⟨by rw[HR.out];rfl,by subst hGe;exact hgb.trans (hb3.mono hgb.size)⟩
def cW(s magic:List UInt8):Nat×Nat×List UInt8×Int:=
 if s.length<magic.length+6 then(0,0,[],9)
 else match eB (s.take (magic.length+6)) with
  |none=>(0,0,[],9)
  |some b=>if b.take magic.length≠magic then(0,0,[],9)
   else if 3<(b.getD magic.length 0).toNat\/3<(b.getD (magic.length+1) 0).toNat then(0,0,[],10)
   else if (b.getD magic.length 0).toNat=0 then(0,0,[],9)
   else((b.getD magic.length 0).toNat,(b.getD (magic.length+1) 0).toNat,s.drop (magic.length+6),0)
def oO(x:Nat×Nat×List UInt8×Int):Value:=.tuple #[.int .i64 (x.1:Int),.int .i64 (x.2.1:Int),.string (bs x.2.2.1),.int .i64 x.2.2.2]
theorem eI{fn:Func}{t u v x:Tmp}(h:fn.results=#[.tmp t,.tmp u,.tmp v,.tmp x])(tmps:Array Value)(P:Program)(w:World):
 (results fn tmps).run P w=.ok (.tuple #[tmps.getD t undef,tmps.getD u undef,tmps.getD v undef,tmps.getD x undef]) w:=by
 simp[results,h]
theorem CW:∀f:Fin 4,bits BinOp.andNot IntKind.i64 (f.val:Int) 3=0:=by decide+kernel
theorem CV:∀f:Fin 256,3<f.val->bits BinOp.andNot IntKind.i64 (f.val:Int) 3=((f.val/4*4-1+1:Nat):Int):=by decide+kernel
theorem AL(s magic:List UInt8)(_hl:s.length<=1048576)(hm:magic.length<=1000)(w:World):
 Calls Tryz.prog 76 #[.string (bs s),.string (bs magic)] w fun e w'=>e=.returned (oO (cW s magic))/\Below w.heap.size w w':=by
 by_cases h1:s.length<magic.length+6
 ·have HO:=af (show oO (cW s magic)=.tuple #[.int .i64 0,.int .i64 0,.string ⟨#[]⟩,.int .i64 9] by unfold cW;rw[if_pos h1];rfl);go_enter Tryz.func76,Tryz.ntmps76
  go_wp2;((try simp only[Exit.inBlock,Exit.then]);refine bodyPost_ret (eI rfl _ _ _) rfl ?_);exact⟨by rw[HO.out];rfl,bR⟩
 have HO:=af (show cW s magic=(match eB (s.take (magic.length+6)) with
  |none=>(0,0,[],9)
  |some b=>if b.take magic.length≠magic then(0,0,[],9)
   else if 3<(b.getD magic.length 0).toNat\/3<(b.getD (magic.length+1) 0).toNat then(0,0,[],10)
   else if (b.getD magic.length 0).toNat=0 then(0,0,[],9)
   else((b.getD magic.length 0).toNat,(b.getD (magic.length+1) 0).toNat,s.drop (magic.length+6),0)) by unfold cW;rw[if_neg h1])
 have hd:decide ((s.length:Int)<(magic.length:Int)+2+4)=false:=by simp;omega
 have he1:(bs s).extract 0 ((magic.length:Int)+2+4).toNat=bs (s.take (magic.length+6)):=by
  rw[bZ,List.drop_zero,Nat.sub_zero,show ((magic.length:Int)+2+4).toNat=magic.length+6 by omega]
 have he3:(bs s).extract ((magic.length:Int)+2+4).toNat s.length=bs (s.drop (magic.length+6)):=by
  rw[bZ,show ((magic.length:Int)+2+4).toNat=magic.length+6 by omega,List.take_of_length_le (by simp)]
 have h0':(0:Int)<=(magic.length:Int)+2+4:=by omega
 have h1':(magic.length:Int)+2+4<=(s.length:Int):=by omega
 have q:=af (fun W=>pC (s.take (magic.length+6)) (by simp;omega) W)
 cases hg:eB (s.take (magic.length+6)) with
 |none=>
  have hgv:gS (s.take (magic.length+6))=.tuple #[.string ⟨#[]⟩,.bool false]:=by unfold gS;rw[hg]
  rw[hgv] at q;have HV:=af (show oO (cW s magic)=.tuple #[.int .i64 0,.int .i64 0,.string ⟨#[]⟩,.int .i64 9] by rw[HO.out,hg];rfl);clear HO hg hgv he3;generalize s.take (magic.length+6)=sm at*;go_enter Tryz.func76,Tryz.ntmps76
  go_wp2_with fail
  refine(q.out _).mono ?_;rintro e w1 ⟨rfl,hb⟩;go_wp2;((try simp only[Exit.inBlock,Exit.then]);refine bodyPost_ret (eI rfl _ _ _) rfl ?_);exact⟨by rw[HV.out];rfl,hb⟩
 |some b=>
  have hgv:gS (s.take (magic.length+6))=.tuple #[.string (bs b),.bool true]:=by unfold gS;rw[hg]
  rw[hgv] at q;rw[hg] at HO;have hbl:b.length=magic.length+2:=by
   have:=congrArg List.length (nV hg);rw[aG,dP,dp] at this;omega
  have he2:(bs b).extract 0 magic.length=bs (b.take magic.length):=by rw[bZ,List.drop_zero,Nat.sub_zero]
  have h3':(magic.length:Int)<=(b.length:Int):=by omega
  clear hg hgv;by_cases ht:b.take magic.length=magic
  case neg=>
   have htq:(b.take magic.length==magic)=false:=by simpa using ht
   have HV:=af (show oO (cW s magic)=.tuple #[.int .i64 0,.int .i64 0,.string ⟨#[]⟩,.int .i64 9] by rw[HO.out];simp only;rw[if_pos ht];rfl);clear HO ht he3;generalize s.take (magic.length+6)=sm at*;generalize b.take magic.length=bm at*;go_enter Tryz.func76,Tryz.ntmps76
   go_wp2_with fail
   refine(q.out _).mono ?_;rintro e w1 ⟨rfl,hb⟩;go_wp2;((try simp only[Exit.inBlock,Exit.then]);refine bodyPost_ret (eI rfl _ _ _) rfl ?_);exact⟨by rw[HV.out];rfl,hb⟩
  case pos=>
   have htq:(b.take magic.length==magic)=true:=by simpa using ht
   have hi1:b[magic.length]?=some (b.getD magic.length 0):=by rw[List.getD_eq_getElem?_getD,aV (by omega)];rfl
   have hi2:b[magic.length+1]?=some (b.getD (magic.length+1) 0):=by rw[List.getD_eq_getElem?_getD,aV (by omega)];rfl
   have hx1:=fun W=>cE (P:=Tryz.prog) 9 Tryz.underlying9 b magic.length _ hi1 .i64 W;have hx2:=fun W=>cE (P:=Tryz.prog) 9 Tryz.underlying9 b (magic.length+1) _ hi2 .i64 W;have HV:=af (show cW s magic=(if 3<(b.getD magic.length 0).toNat\/3<(b.getD (magic.length+1) 0).toNat then(0,0,[],10)
    else if (b.getD magic.length 0).toNat=0 then(0,0,[],9)
    else((b.getD magic.length 0).toNat,(b.getD (magic.length+1) 0).toNat,s.drop (magic.length+6),0)) by rw[HO.out];simp only;rw[if_neg (by simpa using ht)])
   have hb1:=(b.getD magic.length 0).toNat_lt;have hb2:=(b.getD (magic.length+1) 0).toNat_lt;have h4':(magic.length:Int)+1<(b.length:Int):=by omega
   have h5':(magic.length:Int)<(b.length:Int):=by omega
   clear HO ht hi1 hi2;generalize (b.getD magic.length 0).toNat=ge at*;generalize (b.getD (magic.length+1) 0).toNat=fg at*;generalize s.take (magic.length+6)=sm at*;generalize b.take magic.length=bm at*;generalize hsd:s.drop (magic.length+6)=sd at*;go_enter Tryz.func76,Tryz.ntmps76
   go_wp2_with fail
   refine(q.out _).mono ?_;rintro e w1 ⟨rfl,hb⟩;have hwm:IntKind.i64.wrap (magic.length:Int)=(magic.length:Int):=by simp[IntKind.wrap,IntKind.bits,IntKind.signed];omega
   have hwm1:IntKind.i64.wrap ((magic.length:Int)+1)=((magic.length+1:Nat):Int):=by simp[IntKind.wrap,IntKind.bits,IntKind.signed];omega
   have hwm2:IntKind.i64.wrap ((magic.length:Int)+2-1)=((magic.length+1:Nat):Int):=by simp[IntKind.wrap,IntKind.bits,IntKind.signed];omega
   have hwg:IntKind.i64.wrap (ge:Int)=(ge:Int):=by simp[IntKind.wrap,IntKind.bits,IntKind.signed];omega
   have hwf:IntKind.i64.wrap (fg:Int)=(fg:Int):=by simp[IntKind.wrap,IntKind.bits,IntKind.signed];omega
   have hx3:=hx2
   push_cast at hx3;go_wp2_with fail
   go_quiet (fail)
   by_cases k1:3<ge\/3<fg
   ·have hR:=af (show oO (cW s magic)=.tuple #[.int .i64 0,.int .i64 0,.string ⟨#[]⟩,.int .i64 10] by rw[HV.out,if_pos k1];rfl);by_cases k2:3<ge
    ·go_wp2;((try simp only[Exit.inBlock,Exit.then]);refine bodyPost_ret (eI rfl _ _ _) rfl ?_);exact⟨by rw[hR.out];rfl,below_drewN hb _⟩
    ·have k3:3<fg:=by omega
     have hfl:=CV ⟨fg,hb2⟩ k3;simp only at hfl;generalize fg/4*4-1=v at*;have hvn:((v:Int)+1 != 0)=true:=by simp;omega
     go_wp2;((try simp only[Exit.inBlock,Exit.then]);refine bodyPost_ret (eI rfl _ _ _) rfl ?_);exact⟨by rw[hR.out];rfl,below_drewN hb _⟩
   ·have hfl:=CW ⟨fg,by omega⟩;simp only at hfl;by_cases k2:ge=0
    ·have hR:=af (show oO (cW s magic)=.tuple #[.int .i64 0,.int .i64 0,.string ⟨#[]⟩,.int .i64 9] by rw[HV.out,if_neg k1,if_pos k2];rfl);subst k2;go_wp2;((try simp only[Exit.inBlock,Exit.then]);refine bodyPost_ret (eI rfl _ _ _) rfl ?_);exact⟨by rw[hR.out];rfl,below_drewN hb _⟩
    ·have hR:=af (show oO (cW s magic)=.tuple #[.int .i64 (ge:Int),.int .i64 (fg:Int),.string (bs sd),.int .i64 0] by rw[HV.out,if_neg k1,if_neg k2];rfl);have hk:((ge:Int)==0)=false:=by simpa using k2
     go_wp2_with fail
     go_quiet (fail)
     go_wp2;((try simp only[Exit.inBlock,Exit.then]);refine bodyPost_ret (eI rfl _ _ _) rfl ?_);exact⟨by rw[hR.out];rfl,below_drewN (below_drewN hb _) _⟩
def kh (f:Nat->Nat):Array Value:=((List.range 256).map fun i=>Value.int .u8 (f i:Int)).toArray
theorem pr(f:Nat->Nat)(i:Nat)(h:i<256):(kh f)[i]?=some (.int .u8 (f i:Int)):=by
 unfold kh;rw[List.getElem?_toArray,List.getElem?_map,List.getElem?_range h];rfl
theorem pq(f g:Nat->Nat)(k v:Nat)(h:k<256)(hv:g k=v)(ho:∀i,i<256->i≠k->g i=f i):(kh f).setIfInBounds k (.int .u8 (v:Int))=kh g:=by
 unfold kh;rw[List.setIfInBounds_toArray];congr 1;apply List.ext_getElem?;intro i;rw[List.getElem?_set];by_cases e:k=i
 ·subst e;simp[h,hv]
 ·rw[if_neg e];simp only[List.getElem?_map];by_cases hi:i<256
  ·rw[List.getElem?_range hi];simp[ho i hi (fun e2=>e e2.symm)]
  ·rw[List.getElem?_eq_none (by simpa using hi)];rfl
def gO(k i:Nat):Nat:=if 32<=i/\i<k then 4 else 0
def jr(k i:Nat):Nat:=gO 127 i+if 48<=i/\i<k then 2 else 0
def jq(k i:Nat):Nat:=jr 58 i+if 97<=i/\i<k then 3 else 0
def fR(i:Nat):Nat:=if i=95 then 7 else jq 123 i
theorem EK(w:World):Calls Tryz.prog 196 #[] w fun e w'=>e=.returned (.agg (kh fR))/\Below w.heap.size w w':=by
 have h1:bits BinOp.or IntKind.u8 0 4=4:=by decide+kernel
 have h2:bits BinOp.or IntKind.u8 4 2=6:=by decide+kernel
 have h3:bits BinOp.or IntKind.u8 4 3=7:=by decide+kernel
 go_enter Tryz.func196,Tryz.ntmps196
 go_wp2;go_loopw [2] (fun vi wr=>∃k:Nat,vi=.int .u8 (k:Nat)/\32<=k/\k<=127/\wr=(w.alloc (.cells (kh (gO 32)) 269)).alloc (.cells (kh (gO k)) 269)) (fun vi _=>200-(intOf vi).toNat)
 case atStart=>exact⟨32,rfl,by omega,by omega,rfl⟩
 obtain⟨k,rfl,hk0,hk,rfl⟩:=hrel;by_cases hlt:k<127
 ·have ha:=pr (gO k) k (by omega);have hz:gO k k=0:=by unfold gO;rw[if_neg (by omega)]
  rw[hz] at ha;have HS:=af (pq (gO k) (gO (k+1)) k 4 (by omega) (by unfold gO;rw[if_pos (by omega)]) (fun i _ he=>by
   unfold gO
   have:(32<=i/\i<k+1)=(32<=i/\i<k):=by apply propext;omega
   simp only[this]))
  go_wp2_with fail
  go_roundw
  case rel=>exact⟨k+1,by go_num,by omega,by omega,by rw[<-HS.out];rfl⟩
  case measure=>simp[intOf];omega
 obtain rfl:k=127:=by omega
 rw[show gO 127=jr 48 from by funext i;unfold jr;rw[if_neg (by omega)];rfl];go_wp2_with fail
 go_loopw [3] (fun vi wr=>∃k:Nat,vi=.int .u8 (k:Nat)/\48<=k/\k<=58/\wr=(w.alloc (.cells (kh (gO 32)) 269)).alloc (.cells (kh (jr k)) 269)) (fun vi _=>200-(intOf vi).toNat)
 case atStart=>exact⟨48,rfl,by omega,by omega,rfl⟩
 obtain⟨k,rfl,hk0,hk,rfl⟩:=hrel;by_cases hlt:k<58
 ·have ha:=pr (jr k) k (by omega);have hz:jr k k=4:=by unfold jr gO;rw[if_pos (by omega),if_neg (by omega)]
  rw[hz] at ha;have HS:=af (pq (jr k) (jr (k+1)) k 6 (by omega) (by unfold jr gO;rw[if_pos (by omega),if_pos (by omega)]) (fun i _ he=>by
   unfold jr
   have:(48<=i/\i<k+1)=(48<=i/\i<k):=by apply propext;omega
   simp only[this]))
  go_wp2_with fail
  go_roundw
  case rel=>exact⟨k+1,by go_num,by omega,by omega,by rw[<-HS.out];rfl⟩
  case measure=>simp[intOf];omega
 obtain rfl:k=58:=by omega
 rw[show jr 58=jq 97 from by funext i;unfold jq;rw[if_neg (by omega)];rfl];go_wp2_with fail
 go_loopw [4] (fun vi wr=>∃k:Nat,vi=.int .u8 (k:Nat)/\97<=k/\k<=123/\wr=(w.alloc (.cells (kh (gO 32)) 269)).alloc (.cells (kh (jq k)) 269)) (fun vi _=>200-(intOf vi).toNat)
 case atStart=>exact⟨97,rfl,by omega,by omega,rfl⟩
 obtain⟨k,rfl,hk0,hk,rfl⟩:=hrel;by_cases hlt:k<123
 ·have ha:=pr (jq k) k (by omega);have hz:jq k k=4:=by unfold jq jr gO;rw[if_pos (by omega),if_neg (by omega),if_neg (by omega)]
  rw[hz] at ha;have HS:=af (pq (jq k) (jq (k+1)) k 7 (by omega) (by unfold jq jr gO;rw[if_pos (by omega),if_neg (by omega),if_pos (by omega)]) (fun i _ he=>by
   unfold jq
   have:(97<=i/\i<k+1)=(97<=i/\i<k):=by apply propext;omega
   simp only[this]))
  go_wp2_with fail
  go_roundw
  case rel=>exact⟨k+1,by go_num,by omega,by omega,by rw[<-HS.out];rfl⟩
  case measure=>simp[intOf];omega
 obtain rfl:k=123:=by omega
 have ha:=pr (jq 123) 95 (by omega);rw[show jq 123 95=4 from by decide] at ha;have HS:=pq (jq 123) fR 95 7 (by omega) (by decide) (fun i _ he=>by unfold fR;rw[if_neg he]);go_wp2_with (first|refine wpList_load_row rfl _ _ rfl (w.heap.size+1) rfl 269 (kh fR) (0,0) _ (heap_alloc2_new _ _ _) Tryz.underlying269 rfl (by kernel_rfl) ?_ |refine wpList_store_row rfl _ _ _ rfl w.heap.size (kh fR) rfl rfl 269 (kh (gO 32)) (heap_alloc2_old _ _ _) (by kernel_rfl) (by kernel_rfl) (by kernel_rfl) ?_)
 refine bodyPost_ret (results_cell_row rfl _ _ w.heap.size 269 (kh fR) (0,0) _ rfl (setRow_heap _ _ (kh (gO 32)) _ _ _ (heap_alloc2_old _ _ _)) Tryz.underlying269 rfl (by kernel_rfl)) rfl ?_;exact⟨rfl,below_setRow (((bR).alloc (aF _) _).alloc (by simp) _) (aF _) _⟩
theorem GU(i:Nat):fR i<8:=by
 unfold fR jq jr gO;split
 ·omega
 ·split<;>split<;>split<;>omega
def mH (s:List UInt8)(m:Nat):Bool:=s.all (fun b=>decide (fR b.toNat&&& m≠0))&&(!s.isEmpty&&decide (s.length<=48))
theorem JR(s:List UInt8)(m:Nat)(hm:m<256)(hl:s.length<=1099511627776)(w:World):
 Calls Tryz.prog 132 #[.string (bs s),.int .u8 (m:Int)] w fun e w'=>e=.returned (.bool (mH s m))/\Below w.heap.size w w':=by
 have q:=af (EK w)
 go_enter Tryz.func132,Tryz.ntmps132
 go_wp2_with fail
 refine q.out.mono ?_
 rintro e w1 ⟨rfl,hb⟩
 go_wp2_with (refine wpList_store_row rfl _ _ _ rfl w1.heap.size (kh fR) rfl rfl 269 (kh fun _=>0) (heap_alloc_new _ _) (by kernel_rfl) (by kernel_rfl) (by kernel_rfl) ?_)
 generalize hg:w1.heap.size=g
 generalize hW:World.setRow _ g (kh fR)=W2
 have HC:=af (fun (i:Nat) (hi:i<256)=>show W2.cell? ⟨g,i,none⟩=some (.int .u8 (fR i:Int)) by
  rw[<-hW,<-hg]
  exact(cell_setRow_same _ _ _ (kh fun _=>0) _ _ _ (heap_alloc_new _ _)).trans (pr fR i hi))
 have HB:=af (show Below w.heap.size w W2 by
  rw[<-hW,<-hg]
  exact below_setRow (hb.alloc hb.size _) hb.size _)
 clear hW hb hg q
 go_loop [10] (fun vi=>∃i:Nat,i<=s.length/\vi=.int .i64 (i:Int)/\(s.take i).all (fun b=>decide (fR b.toNat&&& m≠0))=true) (fun vi=>s.length-(intOf vi).toNat)
 case atStart=>exact⟨0,Nat.zero_le _,rfl,rfl⟩
 obtain⟨i,hi,rfl,hall⟩:=hrel
 rcases(show i<s.length\/i=s.length by omega) with hil|rfl
 ·have hb:=aV hil;have HN:=af (show (s.take (i+1)).all (fun b=>decide (fR b.toNat&&& m≠0))=((s.take i).all (fun b=>decide (fR b.toNat&&& m≠0))&&decide (fR s[i].toNat&&& m≠0)) by rw[eM hil,List.all_append];simp);rw[hall] at HN;have HW:=af (show fR s[i].toNat&&& m=0->mH s m=false from fun h=>by
   unfold mH
   have:s.all (fun b=>decide (fR b.toNat&&& m≠0))=false:=by
    rw[List.all_eq_false]
    exact⟨s[i],dK hil,by simp[h]⟩
   rw[this]
   rfl)
  generalize s[i]=b at*;have hidx:=fun W=>cE (P:=Tryz.prog) 9 Tryz.underlying9 s i b hb .i64 W;have hbl:=b.toNat_lt;have hcell:=HC.out b.toNat (by omega);generalize b.toNat=n at*;have hml:=GU n;have hand:=u8_and_nat (fR n) m (by omega) hm;generalize fR n&&& m=x at*;generalize fR n=mn at*;clear hall;by_cases h:x=0
  ·have hun:=HW.out h;subst h;go_wp2;go_ret;exact⟨rfl,HB.out⟩
  ·have hd2:decide (x≠0)=true:=by simp[h]
   have hd3:((x:Int)==0)=false:=by simpa using h
   rw[hd2] at HN;go_wp2_with fail
   go_round
   case rel=>exact⟨i+1,by omega,by go_num,by rw[HN.out];rfl⟩
   case measure=>simp[intOf];omega
 ·have HU:=af (show mH s m=(!s.isEmpty&&decide (s.length<=48)) by unfold mH;rw[List.take_length] at hall;rw[hall];rfl);clear hall;cases he:s.isEmpty with
  |true=>
   rw[he] at HU;go_wp2;go_ret;exact⟨by rw[HU.out];rfl,HB.out⟩
  |false=>
   rw[he] at HU;by_cases h48:s.length<=48
   ·have hd:decide (s.length<=48)=true:=by simpa using h48
    have hd':decide ((s.length:Int)<=48)=true:=by simp;omega
    rw[hd] at HU;go_wp2;go_ret;exact⟨by rw[HU.out];rfl,HB.out⟩
   ·have hd:decide (s.length<=48)=false:=by simpa using h48
    have hd':decide ((s.length:Int)<=48)=false:=by simp;omega
    rw[hd] at HU;go_wp2;go_ret;exact⟨by rw[HU.out];rfl,HB.out⟩
abbrev Lb:=List UInt8×List UInt8
def aC(w:World)(v:Value)(L:List Lb):Prop:=
 ∃a c,v=.slice a L.length c/\L.length<=1048576/\∀(i:Nat) x,L[i]?=some x->x.1.length<=1048576/\x.2.length<=1048576/\∃b o,a=some ⟨b,o,none⟩/\w.cell? ⟨b,o+i*2,none⟩=some (.string (bs x.1))/\w.cell? ⟨b,o+i*2+1,none⟩=some (.string (bs x.2))
theorem aC.below{w w':World}{v:Value}{L:List Lb}(h:aC w v L)(hb:Below w.heap.size w w'):aC w' v L:=by
 obtain⟨a,c,h1,h2,h3⟩:=h;refine⟨a,c,h1,h2,fun i x hx=>?_⟩;obtain⟨h4,h5,b,o,h6,h7,h8⟩:=h3 i x hx;exact⟨h4,h5,b,o,h6,cu hb h7,cu hb h8⟩
def cZ(g:Int):Int:=if g=1 then 12 else if g=2 then 24 else if g=3 then 48 else 0
theorem mZ(g:Int)(w:World)(h1: -9223372036854775808<=g)(h2:g<=9223372036854775807):
 Calls Tryz.prog 67 #[.int .i64 g] w fun e w'=>e=.returned (.int .i64 (cZ g))/\w=w':=by
 by_cases h:g=1\/g=2\/g=3
 ·rcases h with rfl|rfl|rfl
  all_goals
   go_enter Tryz.func67,Tryz.ntmps67
   go_wp2
   go_ret
   exact⟨rfl,rfl⟩
 ·have hl:cZ g=0:=by unfold cZ;rw[if_neg (by omega),if_neg (by omega),if_neg (by omega)]
  rw[hl];by_cases hd:g<1
  ·have hd1:decide (g<1)=true:=by simpa using hd
   go_enter Tryz.func67,Tryz.ntmps67
   go_wp2;go_ret;exact⟨rfl,rfl⟩
  ·have hd1:decide (g<1)=false:=by simpa using hd
   have hd2:decide (3<g)=true:=by simp;omega
   go_enter Tryz.func67,Tryz.ntmps67
   go_wp2;go_ret;exact⟨rfl,rfl⟩
def a8(L:List Lb):Nat:=L.foldl (fun n x=>max (max n x.1.length) x.2.length) 0
theorem iS(L:List Lb)(v:Value)(w:World)(h:aC w v L):
 Calls Tryz.prog 68 #[v] w fun e w'=>e=.returned (.int .i64 (a8 L:Int))/\Below w.heap.size w w':=by
 obtain⟨a,c,rfl,hn,hc⟩:=h
 have HC:=af hc
 clear hc
 go_enter Tryz.func68,Tryz.ntmps68
 go_wp2
 go_loopw [3,8] (fun vn vi wr=>∃i:Nat,i<=L.length/\vi=.int .i64 (i:Int)/\vn=.int .i64 (a8 (L.take i):Int)/\a8 (L.take i)<=1048576/\Below w.heap.size w wr) (fun vn vi _=>L.length-(intOf vi).toNat)
 case atStart=>exact⟨0,Nat.zero_le _,rfl,rfl,Nat.zero_le _,bR⟩
 obtain⟨i,hi,rfl,rfl,hlb,hb⟩:=hrel
 rcases(show i<L.length\/i=L.length by omega) with hil|rfl
 ·have HL:=af (show a8 (L.take (i+1))=max (max (a8 (L.take i)) L[i].1.length) L[i].2.length by
   unfold a8;rw[eM hil,List.foldl_append];rfl)
  obtain⟨hx1,hx2,b,o,rfl,d0,d1⟩:=HC.out i _ (aV hil);have e0:=hb.cell (World.block_lt_of_cell? _ _ d0);have e1:=hb.cell (World.block_lt_of_cell? _ _ d1);rw[d0] at e0;rw[d1] at e1;clear d0 d1;generalize L[i]=x at*;generalize a8 (L.take i)=m at*;go_wp2;go_roundw
  case rel=>exact⟨i+1,by omega,by go_num,by
   rw[HL.out]
   congr 1
   split<;>split<;>omega,by rw[HL.out];omega,hb.alloc hb.size _⟩
  case measure=>simp[intOf];omega
 ·rw[List.take_length] at*;go_wp2;go_ret;exact⟨rfl,hb⟩
def Ly (a b:List UInt8):Bool:= !Op.bytesLess a b&& !(a==b)
theorem DB(b:List UInt8):Ly [] b=false:=by cases b<;>rfl
def fq(last:List UInt8):List Lb->Bool
 |[]=>true
 |x::l=>Ly x.1 last&&(mH x.1 2&&(mH (x.1.take 1) 1&&(mH x.2 4&&fq x.1 l)))
def bD(L:List Lb):Int:=if fq [] L&&(!L.isEmpty&&decide (L.length<=6)) then 0 else 2
theorem FB(L:List Lb)(h:fq [] L=true):bD L=if L.length=0 then 2 else if 6<L.length then 2 else 0:=by
 unfold bD;rw[h];cases L with
 |nil=>rfl
 |cons x l=>
  simp only[cY,List.isEmpty_cons,Bool.not_false,Bool.true_and,decide_eq_true_eq];split<;>split<;>first|rfl|omega
theorem jj(L:List Lb)(v:Value)(w:World)(h:aC w v L):
 Calls Tryz.prog 61 #[v] w fun e w'=>e=.returned (.int .i64 (bD L))/\Below w.heap.size w w':=by
 obtain⟨a,c,rfl,hn,hc⟩:=h
 have HC:=af hc
 clear hc
 have qa:=af (fun (s:List UInt8) (m:Nat) (hm:m<256) (hl:s.length<=1099511627776) W=>JR s m hm hl W)
 go_enter Tryz.func61,Tryz.ntmps61
 go_wp2
 apply wp_scope_straight
 go_wp2
 apply wp_label
 go_wp2
 go_loopw [3,8] (fun vn vi wr=>∃(i:Nat) (last:List UInt8),i<=L.length/\vi=.int .i64 (i:Int)/\vn=.string (bs last)/\fq [] L=fq last (L.drop i)/\Below w.heap.size w wr) (fun vn vi _=>L.length-(intOf vi).toNat)
 case atStart=>exact⟨0,[],Nat.zero_le _,rfl,rfl,rfl,bR⟩
 obtain⟨i,last,hi,rfl,rfl,hchk,hb⟩:=hrel
 rcases(show i<L.length\/i=L.length by omega) with hil|rfl
 ·rw[List.drop_eq_getElem_cons hil] at hchk;obtain⟨hx1,hx2,b,o,rfl,d0,d1⟩:=HC.out i _ (aV hil);have e0:=hb.cell (World.block_lt_of_cell? _ _ d0);have e1:=hb.cell (World.block_lt_of_cell? _ _ d1);rw[d0] at e0;rw[d1] at e1;clear d0 d1;generalize L[i]=x at*;have hC:fq last (x::L.drop (i+1))=(Ly x.1 last&&(mH x.1 2&&(mH (x.1.take 1) 1&&(mH x.2 4&&fq x.1 (L.drop (i+1)))))):=rfl;rw[hC] at hchk;have HK:=af hchk;have HF:=af (show fq [] L=false->bD L=2 from fun e=>by unfold bD;rw[e];rfl);clear hC hchk;have hgb:Ly x.1 last=(!Op.bytesLess x.1 last&& !(x.1==last)):=rfl;cases hg1:Op.bytesLess x.1 last with
  |true=>
   rw[hg1] at hgb;rw[hgb] at HK;have HE:=af (HF.out HK.out);clear HK HF hgb;go_wp2;dsimp only[Exit.noGoto];go_ret;exact⟨by rw[HE.out];rfl,hb.alloc hb.size _⟩
  |false=>
   cases hg2:x.1==last with
   |true=>
    rw[hg1,hg2] at hgb;rw[hgb] at HK;have HE:=af (HF.out HK.out);clear HK HF hgb;go_wp2;dsimp only[Exit.noGoto];go_ret;exact⟨by rw[HE.out];rfl,hb.alloc hb.size _⟩
   |false=>
    rw[hg1,hg2] at hgb;have hne:1<=x.1.length:=by
     cases hx:x.1 with
     |nil=>rw[hx,DB] at hgb;cases hgb
     |cons y l=>simp
    rw[hgb] at HK;have he1:(bs x.1).extract 0 1=bs (x.1.take 1):=by rw[bZ];rfl
    clear hgb;have C0:=af (fun (w1:World) (hb1:Below (wr.alloc (.cells #[.string (bs x.1),.string (bs x.2)] 73)).heap.size (wr.alloc (.cells #[.string (bs x.1),.string (bs x.2)] 73)) w1)=>
     (show w1.cell? ⟨wr.heap.size,0,none⟩=some (.string (bs x.1))/\w1.cell? ⟨wr.heap.size,1,none⟩=some (.string (bs x.2))/\Below w.heap.size w w1/\wr.heap.size<w1.heap.size from
      ⟨(hb1.cell (by simp)).trans (by rw[World.cell?_alloc_new];rfl),(hb1.cell (by simp)).trans (by rw[World.cell?_alloc_new];rfl),(hb.alloc hb.size _).trans (hb1.mono (hb.alloc hb.size _).size),dQ (by simp) hb1.size⟩))
    have hb':=hb.size;have l1:(x.1.take 1).length<=1099511627776:=by simp;omega
    clear hb;go_wp2_with fail
    refine(qa.out _ _ (by decide) (by omega) _).mono ?_;rintro e w1 ⟨rfl,hb1⟩;obtain⟨c0,c1,hB,hs1⟩:=C0.out _ hb1;clear hb1 C0;cases ha1:mH x.1 2 with
    |false=>
     rw[ha1] at HK;have HE:=af (HF.out HK.out);clear HK HF;go_wp2;dsimp only[Exit.noGoto];go_ret;exact⟨by rw[HE.out];rfl,hB⟩
    |true=>
     rw[ha1] at HK;generalize hG:wr.heap.size=G at*;have C1:=af (fun (w2:World) (hb1:Below w1.heap.size w1 w2)=>
      (show w2.cell? ⟨G,0,none⟩=some (.string (bs x.1))/\w2.cell? ⟨G,1,none⟩=some (.string (bs x.2))/\Below w.heap.size w w2 from
       ⟨(hb1.cell hs1).trans c0,(hb1.cell hs1).trans c1,hB.trans (hb1.mono hB.size)⟩))
     go_wp2_with fail
     refine(qa.out _ _ (by decide) l1 _).mono ?_;rintro e w2 ⟨rfl,hb1⟩;have hs2:=dQ hs1 hb1.size;have ⟨d0,d1,hB2⟩:=C1.out _ hb1;clear hb1 C1 hB hs1 c0 c1;cases ha2:mH (x.1.take 1) 1 with
     |false=>
      rw[ha2] at HK;have HE:=af (HF.out HK.out);clear HK HF;go_wp2;dsimp only[Exit.noGoto];go_ret;exact⟨by rw[HE.out];rfl,hB2⟩
     |true=>
      rw[ha2] at HK;have C1:=af (fun (w3:World) (hb1:Below w2.heap.size w2 w3)=>
       (show w3.cell? ⟨G,0,none⟩=some (.string (bs x.1))/\Below w.heap.size w w3 from
        ⟨(hb1.cell hs2).trans d0,hB2.trans (hb1.mono hB2.size)⟩))
      go_wp2_with fail
      refine(qa.out _ _ (by decide) (by omega) _).mono ?_;rintro e w3 ⟨rfl,hb1⟩;obtain⟨f0,hB3⟩:=C1.out _ hb1;clear hb1 C1 hB2 hs2 d0 d1;cases ha3:mH x.2 4 with
      |false=>
       rw[ha3] at HK;have HE:=af (HF.out HK.out);clear HK HF;go_wp2;dsimp only[Exit.noGoto];go_ret;exact⟨by rw[HE.out];rfl,hB3⟩
      |true=>
       rw[ha3] at HK;go_wp2;go_roundw
       case rel=>exact⟨i+1,x.1,by omega,by go_num,rfl,HK.out,hB3⟩
       case measure=>simp[intOf];omega
 ·rw[List.drop_length] at hchk;have HE:=af (show bD L=if L.length=0 then 2 else if 6<L.length then 2 else 0 from FB L hchk);clear hchk HC;generalize L.length=n at*;by_cases h0:n=0
  ·subst h0;go_wp2;try dsimp only[Exit.noGoto]
   go_ret;exact⟨by rw[HE.out,if_pos trivial];rfl,hb⟩
  ·by_cases h6:6<n
   ·have hd:decide (6<n)=true:=by simpa using h6
    have hE:=HE.out;rw[if_neg h0,if_pos h6] at hE;have hE:=af hE;have hz:((n:Int)==0)=false:=by simp;omega
    go_wp2;try dsimp only[Exit.noGoto]
    go_ret;exact⟨by rw[hE.out];rfl,hb⟩
   ·have hd:decide (6<n)=false:=by simpa using h6
    have hE:=HE.out;rw[if_neg h0,if_neg h6] at hE;have hE:=af hE;have hz:((n:Int)==0)=false:=by simp;omega
    go_wp2;try dsimp only[Exit.noGoto]
    go_ret;exact⟨by rw[hE.out];rfl,hb⟩
theorem ft(B b:Nat)(l:List UInt8)(w:World)(h:bU B b l w)(hBw:B<=w.heap.size):
 Calls Tryz.prog 41 #[.pointer (some ⟨b,0,none⟩)] w fun e w'=>e=.returned (.string (bs l))/\bU B b l w'/\Below B w w':=Tryz.Builder_String_any_f B b l w h hBw
def de (L:List Lb):List UInt8:=L.flatMap fun x=>Num.text x.1++Num.text x.2
theorem E7(L:List Lb)(x:Lb):de (L++[x])=de L++(Num.text x.1++Num.text x.2):=by unfold de;rw[List.flatMap_append];simp
theorem pz(L:List Lb)(v:Value)(w:World)(h:aC w v L):
 Calls Tryz.prog 135 #[v] w fun e w'=>e=.returned (.string (bs (de L)))/\Below w.heap.size w w':=by
 obtain⟨a,c,rfl,hn,hc⟩:=h
 have HC:=af hc
 clear hc
 go_enter Tryz.func135,Tryz.ntmps135
 go_wp2
 go_loopw [8] (fun vi wr=>∃(i:Nat) (l:List UInt8),i<=L.length/\vi=.int .i64 (i:Int)/\l=de (L.take i)/\l.length<=i*4194304/\bU w.heap.size w.heap.size l wr/\Below w.heap.size w wr) (fun vi _=>L.length-(intOf vi).toNat)
 case atStart=>exact⟨0,[],Nat.zero_le _,rfl,rfl,Nat.zero_le _,bU.fresh w,ai w _⟩
 obtain⟨i,l,hi,rfl,hl,hll,hB,hb⟩:=hrel
 rcases(show i<L.length\/i=L.length by omega) with hil|rfl
 ·have HL:=af (show l++(Num.text L[i].1++Num.text L[i].2)=de (L.take (i+1)) by
   rw[eM hil,E7,hl])
  obtain⟨hx1,hx2,b,o,rfl,d0,d1⟩:=HC.out i _ (aV hil);have e0:=hb.cell (World.block_lt_of_cell? _ _ d0);have e1:=hb.cell (World.block_lt_of_cell? _ _ d1);rw[d0] at e0;rw[d1] at e1;clear d0 d1 hl;generalize L[i]=x at*;generalize hG:wr.heap.size=G;have C0:=af (fun (w1:World) (hb1:Below (wr.alloc (.cells #[.string (bs x.1),.string (bs x.2)] 73)).heap.size (wr.alloc (.cells #[.string (bs x.1),.string (bs x.2)] 73)) w1)=>
   (show w1.cell? ⟨G,0,none⟩=some (.string (bs x.1))/\w1.cell? ⟨G,1,none⟩=some (.string (bs x.2))/\bU w.heap.size w.heap.size l w1/\Below w.heap.size w w1/\G<w1.heap.size from by
    subst hG
    exact⟨(hb1.cell (by simp)).trans (by rw[World.cell?_alloc_new];rfl),(hb1.cell (by simp)).trans (by rw[World.cell?_alloc_new];rfl),(hB.below (ai _ _)).below hb1,(hb.alloc hb.size _).trans (hb1.mono (hb.alloc hb.size _).size),dQ (by simp) hb1.size⟩))
  clear hb hB;have q1:=af (fun W=>ee x.1 W (by omega));have q2:=af (fun W=>ee x.2 W (by omega));have t1:(Num.text x.1).length<=2000000:=by rw[Num.text_len];have:=Num.small_len x.1.length;omega
  have t2:(Num.text x.2).length<=2000000:=by rw[Num.text_len];have:=Num.small_len x.2.length;omega
  generalize Num.text x.1=y1 at*;generalize Num.text x.2=y2 at*;have hadd:∀W,(Op.stringOp .add (bs y1) (bs y2)).run Tryz.prog W=.ok (.string (bs (y1++y2))) W:=fun W=>aJ (P:=Tryz.prog) y1 y2 (by omega) W;have hll2:l.length+(y1++y2).length<=(i+1)*4194304:=by rw[aG];omega
  generalize y1++y2=y at*;have hq:∀W,bU w.heap.size w.heap.size l W->w.heap.size<=W.heap.size->_:=fun W hW hs=>D0 w.heap.size w.heap.size l y W hW (by omega) hs;have Q:=af hq;clear hq;have hs0:G<(wr.alloc (.cells #[.string (bs x.1),.string (bs x.2)] 73)).heap.size:=by subst hG;simp
  have y0:(wr.alloc (.cells #[.string (bs x.1),.string (bs x.2)] 73)).cell? ⟨G,0,none⟩=some (.string (bs x.1)):=by subst hG;rw[World.cell?_alloc_new];rfl
  have y1':(wr.alloc (.cells #[.string (bs x.1),.string (bs x.2)] 73)).cell? ⟨G,1,none⟩=some (.string (bs x.2)):=by subst hG;rw[World.cell?_alloc_new];rfl
  have g0:=aj y0;have g1:=aj y1';go_wp2_with fail
  refine l6 ?_;iterate 2 (refine bJ fun K hK=>?_;go_big_quiet_step (fail);refine hK _ ?_;clear hK K)
  (refine fS (f:=114) (args:=#[.string (bs x.1)]) (v:=.string (bs y1)) (fun W hW=>q1.out W) fun K hK=>?_;go_big_quiet_step (fail);refine hK _ ?_;clear hK K);iterate 2 (refine bJ fun K hK=>?_;go_big_quiet_step (fail);refine hK _ ?_;clear hK K)
  (refine fS (f:=114) (args:=#[.string (bs x.2)]) (v:=.string (bs y2)) (fun W hW=>q2.out W) fun K hK=>?_;go_big_quiet_step (fail);refine hK _ ?_;clear hK K)
  (refine bJ fun K hK=>?_;go_big_quiet_step (fail);refine hK _ ?_;clear hK K);refine eR ?_;intro w2 hb1;simp only[aB];obtain⟨_,_,hB,hb,hs⟩:=C0.out _ hb1;clear C0 hb1 g0 g1 y0 y1' hs0;go_wp2_with fail
  refine(Q.out _ hB hb.size).mono ?_;rintro e w3 ⟨rfl,hB3,hb3⟩;go_wp2_with fail
  go_roundw
  case rel=>exact⟨i+1,l++y,by omega,by go_num,HL.out,by rw[aG];omega,hB3,hb.trans hb3⟩
  case measure=>simp[intOf];omega
 ·rw[List.take_length] at hl;subst hl;have Q:=af (ft _ _ _ _ hB hb.size);go_wp2_with fail
  refine Q.out.mono ?_;rintro e w3 ⟨rfl,hB3,hb3⟩;go_wp2_with fail
  go_ret;exact⟨rfl,hb.trans hb3⟩
end
end Go.Proofs.YtcdgfajdlaeodaaGreatDoor
