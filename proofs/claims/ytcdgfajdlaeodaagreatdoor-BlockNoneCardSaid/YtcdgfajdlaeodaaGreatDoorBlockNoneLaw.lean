/- The law BlockNone: for every input the call returns true, and each argument reads behind the call as before; no condition. What package variables it lists is tied to the program's text. -/
import Derived.Test.YtcdgfajdlaeodaaGreatDoorJ
import Derived.Test.YtcdgfajdlaeodaaGreatDoorK
import Derived.Test.YtcdgfajdlaeodaaGreatDoorM
import Derived.Test.YtcdgfajdlaeodaaGreatDoorS8
import Derived.Test.YtcdgfajdlaeodaaGreatDoorRows
import Derived.Test.YtcdgfajdlaeodaaGreatDoorTie
import Derived.Test.YtcdgfajdlaeodaaGreatDoorCards
import Derived.ProofKit
import Derived.OpenShut
import Derived.ShutString
import Derived.LaidMore
import Derived.Lay
import Derived.SevenTiedAt
import Derived.Stop.Joined
namespace Go.Proofs.YtcdgfajdlaeodaaGreatDoor
namespace BlockNoneDone
open Go.ChangeShapes Go.WideShapes Go.ChangeAt Go.RowKit
open Go.ChangeMaps (open_string shut_string)
theorem own:ownKnob Tryz.prog.godebug=none:=by kernel_rfl
theorem laidOut:laidOutB Tryz.prog=true:=by kernel_rfl
set_option maxRecDepth 100000 in
theorem lifted(os:Os)(started:os.Started)(H:Type)(enc:TypeId×Value->H):
 ReturnsInHanded {} Tryz.checked os 6 .any (fun w args=>(Rows.blockNoneSpec.pre enc Tryz.prog Tryz.f6 Rows.blockNoneRow.domain false w args/\laidMetH Tryz.prog Rows.blockNoneRow.laid w)/\sizedMet enc Tryz.prog Tryz.f6 (OpenSpec.ofChange Rows.blockNoneSpec) false w args)
  (Rows.blockNoneSpec.post enc Tryz.prog Tryz.f6 false true false false):=by
 refine returnsInHanded_of_change_and (C:=Tryz.checked) (X:=fun w _=>laidMetH Tryz.prog Rows.blockNoneRow.laid w) (fun _ _ _ hh h=>h.of_heap hh) own started (by kernel_rfl) Tryz.func6
  (ChangeSpec.witness_shaped (enc:=enc) (C:=Tryz.checked) (os:=os) (X:=fun w _=>laidMetH Tryz.prog Rows.blockNoneRow.laid w) false (World.laidAll Tryz.prog os Rows.blockNoneRow.laid) #[.agg #[.slice none 0 0,.int .i64 0],.agg #[.int .i64 0,.slice none 0 0,.slice none 0 0]] 8 (World.laidAll_os _ _ _)
   (World.shaped_of_ZipB (by kernel_rfl) (by kernel_rfl)) (by kernel_rfl) (by kernel_rfl) (by kernel_rfl)
   (by rw[MakeChecks.laidMetH_plain _ _ _ (by kernel_rfl)];exact laidMet_laidAll _ (by kernel_rfl) (by kernel_rfl))) ?_
 intro W base args ds gs before hval0 hW _ _ hL _
 have hTb:=LQ (show laidMet Tryz.prog Li W by rw[MakeChecks.laidMetH_plain _ _ _ (by kernel_rfl)] at hL;exact hL)
 clear hL
 have hval:∀(j:Nat) t v,Tryz.f6.params[j]?=some t->args[j]?=some v->Value.okWide Tryz.prog W .any base t v:=hval0
 have hW':=hW
 obtain⟨p,q,hA0,hV,rfl,_,_⟩:=hW
 have hA:DataW.TrodAll enc Tryz.prog W 0 (fun _=>true) true Tryz.f6.params.toList args.toList ds p:=hA0
 rw[Tryz.params6] at hA hval
 obtain⟨v0,vs0,d0,ds0,p0,q0,hargs,rfl,rfl,h0,r0⟩:=trodAll_cons hA
 obtain⟨v1,vs1,d1,ds1,p1,q1,rfl,rfl,rfl,h1,r1⟩:=trodAll_cons r0
 obtain⟨rfl,rfl,rfl⟩:=trodAll_nil r1
 obtain rfl:args=#[v0,v1]:=by cases args;simp_all
 obtain⟨rfl,rfl⟩:=trodVars_none hV
 obtain⟨cs0,rfl,hsz0⟩:=okWide_struct Tryz.underlying49 (hval 0 49 v0 rfl rfl)
 have k0:=h0
 have lt0:∀x∈p0,x.block<W.heap.size:=by obtain⟨m,hm⟩:=k0;exact DataW.trod_lt m _ _ _ hm
 obtain⟨cs1,rfl,hsz1⟩:=okWide_struct Tryz.underlying25 (hval 1 25 v1 rfl rfl)
 have k1:=h1
 have lt1:∀x∈p1,x.block<W.heap.size:=by obtain⟨m,hm⟩:=k1;exact DataW.trod_lt m _ _ _ hm
 clear hA0 hval0
 simp only[List.append_nil] at hW'
 refine(IP cs0 cs1 W hTb hsz0 k0 hsz1 k1).mono fun e W' ⟨he,bel⟩=>?_
 subst he
 exact⟨_,rfl,IU (pa:=_) (pv:=[]) hW' (fun _ _ _=>trodAll_mk1 (shut_bool Tryz.underlying4 _)) (fun sp hsp=>(trodAll_cons_mk (WideElems.Trod_stays laidOut (by kernel_rfl) (of_decide_eq_true (by kernel_rfl)) k0 (fun x hx=>bel.same (lt0 x hx)) (fun x hx=>hsp x (by simp[hx]))) (trodAll_cons_mk (WideElems.Trod_stays laidOut (by kernel_rfl) (of_decide_eq_true (by kernel_rfl)) k1 (fun x hx=>bel.same (lt1 x hx)) (fun x hx=>hsp x (by simp[hx]))) trodAll_mk0))) (fun _ _=>rfl) (by simp) bel (ok_one (by kernel_rfl) rfl (okWide_bool_mk Tryz.underlying4 _))⟩
theorem holds:Rows.BlockNoneSaid:=
 OpenClaim.holds_of_wide 6 Tryz.f6 rfl rfl rfl rfl rfl rfl rfl ⟨rfl,rfl,rfl,rfl,rfl⟩ rfl rfl rfl rfl rfl (by kernel_rfl) Tryz.func6 rowClosed
  (of_decide_eq_true (by kernel_rfl)) (by unfold Func.isWrapper;first|(rw[if_pos (by decide+kernel)];kernel_rfl)|(rw[if_neg (by decide+kernel)];exact⟨rfl,rfl⟩))
  (fun os started H enc _=>lifted os started H enc)
theorem card_holds:Rows.BlockNoneCardSaid:=
 Claim7.holds_tied_plain_at .later [] [.data,.data,.pinned] true (true,"79c80d24b79791328d6c97a3948dbb36c1610dfa02faf6c2d3fb7def9394a6f9") false holds (fun _ h=>by cases h) (by kernel_rfl) (fun _ h=>by cases h) blockNone_row_tie rfl ⟨rfl,rfl⟩ progMain rfl
  (fun f fn hf hfn=>by
   obtain rfl:f=6:=Option.some.inj ((show Tryz.prog.funcNamed Rows.blockNoneRow.func=some 6 by kernel_rfl).symm.trans hf) |>.symm
   obtain rfl:fn=Tryz.f6:=(Option.some.inj (Tryz.func6.symm.trans hfn)).symm
   exact⟨progLooks,fun j t ht=>by
    rw[Tryz.params6] at ht
    have hm:t∈[49,25]:=by simpa using Array.mem_of_getElem? ht
    have hall:([49,25].all fun u=> !Tryz.prog.wantsStandIn u)=true:=by kernel_rfl
    exact(show Tryz.prog.wantsStandIn t=false by simpa using List.all_eq_true.1 hall t hm)⟩)
  progGoes
end BlockNoneDone
theorem blockNone_holds:Rows.BlockNoneCardSaid:=BlockNoneDone.card_holds
#print axioms blockNone_holds
end Go.Proofs.YtcdgfajdlaeodaaGreatDoor
