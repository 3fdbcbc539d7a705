/- WholeDrives returns true: two drives with one power supply, whatever the script, the power failure and the operations that took effect. No condition on the arguments. -/
import Derived.Test.YtokdochbjilecaaGreatDoorRows
import Derived.Test.YtokdochbjilecaaGreatDoorTie
import Derived.Test.YtokdochbjilecaaGreatDoorCards
import Derived.WalkKit
import Derived.Test.YtokdochbjilecaaGreatDoorB18
import Derived.ProofKit
import Derived.OpenShut
import Derived.LaidMore
import Derived.Lay
import Derived.WideKeyArgs
import Derived.ChangeSame
import Derived.SevenTiedAt
import Derived.Stop.Joined
namespace Go.Proofs.YtokdochbjilecaaGreatDoor.wholeDrives
open Go.ChangeShapes Go.WideShapes Go.ChangeAt Go.RowKit Go.Am
set_option linter.unusedVariables false
set_option linter.unusedSimpArgs false
theorem own:ownKnob Tryz.prog.godebug=none:=by kernel_rfl
theorem laidOut:laidOutB Tryz.prog=true:=by kernel_rfl
set_option maxRecDepth 100000 in
theorem lifted(os:Os)(started:os.Started)(H:Type)(enc:TypeId×Value->H):
  ReturnsInHanded {} Tryz.checked os 3 .any (fun w args=>(Rows.wholeDrivesSpec.pre enc Tryz.prog Tryz.f3 Rows.wholeDrivesRow.domain false w args/\laidMetH Tryz.prog Rows.wholeDrivesRow.laid w)/\sizedMet enc Tryz.prog Tryz.f3 (OpenSpec.ofChange Rows.wholeDrivesSpec) false w args)
   (Rows.wholeDrivesSpec.post enc Tryz.prog Tryz.f3 false true false false):=by
 refine Am.CD.tW (C:=Tryz.checked) (X:=fun w _=>laidMetH Tryz.prog Rows.wholeDrivesRow.laid w) (fun _ _ _ hh h=>h.of_heap hh) own started (by kernel_rfl) Tryz.func3
  (ChangeSpec.witness_shaped (enc:=enc) (C:=Tryz.checked) (os:=os) (X:=fun w _=>laidMetH Tryz.prog Rows.wholeDrivesRow.laid w) false (World.laidAll Tryz.prog os Rows.wholeDrivesRow.laid)
   #[.agg #[.slice none 0 0,.slice none 0 0],.int .u16 0,.agg #[.int .u8 0,.int .u8 0]] 8 (World.laidAll_os _ _ _)
   (World.shaped_of_ZipB (by kernel_rfl) (by kernel_rfl)) (by kernel_rfl) (by kernel_rfl) (by kernel_rfl)
   (by rw[MakeChecks.laidMetH_plain _ _ _ (by kernel_rfl)];exact laidMet_laidAll _ (by kernel_rfl) (by kernel_rfl))) ?_
 intro W args base ds gs before hval0 hW hsz hL hsh
 rw[MakeChecks.laidMetH_plain _ _ _ (by kernel_rfl)]at hL
 have hgl:Am.kl W.heap.size W:=Am.CD.Le hL (by simp only[Rows.wholeDrivesRow,List.mem_cons,true_or,or_true])
 have hval:∀(j:Nat) t v,Tryz.f3.params[j]?=some t->args[j]?=some v->Value.okWide Tryz.prog W .any base t v:=hval0
 have hW':=hW
 obtain⟨p,q,hA0,hV,rfl,hfz,hnd⟩:=hW
 have hA:DataW.TrodAll enc Tryz.prog W 0 (fun _=>true) true Tryz.f3.params.toList args.toList ds p:=hA0
 rw[Tryz.params3]at hA hval
 obtain⟨v0,vs0,d0,ds0,p0,q0,hargs,rfl,rfl,h0,r0⟩:=trodAll_cons hA
 obtain⟨v1,vs1,d1,ds1,p1,q1,rfl,rfl,rfl,h1,r1⟩:=trodAll_cons r0
 obtain⟨v2,vs2,d2,ds2,p2,q2,rfl,rfl,rfl,h2,r2⟩:=trodAll_cons r1
 obtain⟨rfl,rfl,rfl⟩:=trodAll_nil r2
 obtain rfl:args=#[v0,v1,v2]:=by cases args;simp_all
 obtain⟨rfl,rfl⟩:=trodVars_none hV
 obtain⟨s0,s1,l0,l1,rfl,n0,n1,o0,o1⟩:=Am.CD.Hu (hval 0 23 v0 rfl rfl) h0
 obtain⟨z1,rfl,rfl,rfl,w1⟩:=open_int Am.CD.u24 (hval 1 24 v1 rfl rfl) h1
 obtain⟨za,zb,rfl,rfl,rfl,wa,wb⟩:=Am.CD.FK Am.CD.u25 Am.CD.u5 Am.CD.ce5 Am.CD.ce25 (hval 2 25 v2 rfl rfl) h2
 have hz1:0<=z1/\z1<65536:=⟨(bounds_u16 w1).1,by have:=(bounds_u16 w1).2;omega⟩
 have hza:0<=za/\za<256:=⟨(bounds_u8 wa).1,by have:=(bounds_u8 wa).2;omega⟩
 have hzb:0<=zb/\zb<256:=⟨(bounds_u8 wb).1,by have:=(bounds_u8 wb).2;omega⟩
 obtain⟨k1,rfl⟩:∃k1:Nat,z1=(k1:Int):=⟨z1.toNat,by omega⟩
 obtain⟨ka,rfl⟩:∃k1:Nat,za=(k1:Int):=⟨za.toNat,by omega⟩
 obtain⟨kb,rfl⟩:∃k1:Nat,zb=(k1:Int):=⟨zb.toNat,by omega⟩
 clear hA0 hval0
 simp only[List.append_nil,List.nil_append]at hW'
 have hlt0:∀x∈p0,x.block<W.heap.size:=fun x hx=>hW'.lt x (by simp[hx])
 refine(Am.CD.px W hgl s0 s1 l0 l1 n0 n1 o0 o1 (by omega) (by omega) (by omega)).mono fun e W' ⟨he,hg⟩=>?_
 subst he
 exact⟨_,rfl,Cf (pa:=p0) (pv:=[]) hW' (fun _ _ _=>(trodAll_cons_mk (shut_bool Tryz.underlying4 _) trodAll_mk0)) (fun sp hsp=>by
   have:=(trodAll_cons_mk (WideElems.Trod_stays laidOut (by kernel_rfl) (of_decide_eq_true (by kernel_rfl)) h0 (W':=W') (sp':=sp) (fun x hx=>hg.same (hlt0 x hx)) (fun x hx=>hsp x (by simp[hx]))) (trodAll_cons_mk (shut_int Am.CD.u24 w1) (trodAll_cons_mk (Am.CD.Fv Am.CD.u25 Am.CD.u5 Am.CD.ce5 Am.CD.ce25 wa wb) trodAll_mk0)))
   simp only[List.append_nil,List.nil_append]at this
   exact this) (fun _ _=>rfl) (by simp)
  hg (ok_one (by kernel_rfl) rfl (okWide_bool_mk Tryz.underlying4 _))⟩
theorem over:Rows.WholeDrivesSaid:=
 OpenClaim.holds_of_wide 3 Tryz.f3 rfl rfl rfl rfl rfl rfl rfl ⟨rfl,rfl,rfl,rfl,rfl⟩ rfl rfl rfl rfl rfl (by kernel_rfl) Tryz.func3 (by kernel_rfl)
  (of_decide_eq_true (by kernel_rfl)) (by unfold Func.isWrapper;first|(rw[if_pos (by decide +kernel)];kernel_rfl)|(rw[if_neg (by decide +kernel)];exact⟨rfl,rfl⟩))
  (fun os started H enc _=>lifted os started H enc)
theorem proved:Rows.WholeDrivesCardSaid:=
 Claim7.holds_tied_plain_at .later [] [.data] true (true,"c9408259bdd39dc951ac14dab9cb91849c81c84a0971a7fb815585740e0bf760") false over (fun _ h=>by cases h) (by kernel_rfl) (fun _ h=>by cases h) wholeDrives_row_tie rfl ⟨rfl,rfl⟩ (by kernel_rfl) rfl
  (fun f fn hf hfn=>by
   obtain rfl:f=3:=Option.some.inj ((show Tryz.prog.funcNamed "tegula/tegulatop.WholeDrives"=some 3 by kernel_rfl).symm.trans hf) |>.symm
   obtain rfl:fn=Tryz.f3:=(Option.some.inj (Tryz.func3.symm.trans hfn)).symm
   exact⟨by kernel_rfl,fun j t ht=>by
    rw[Tryz.params3]at ht
    have hm:t∈[23,24,25]:=by simpa using Array.mem_of_getElem? ht
    have hall:([23,24,25].all fun u=>!Tryz.prog.wantsStandIn u)=true:=by kernel_rfl
    exact(show Tryz.prog.wantsStandIn t=false by simpa using List.all_eq_true.1 hall t hm)⟩)
  (by kernel_rfl)
#print axioms proved
end Go.Proofs.YtokdochbjilecaaGreatDoor.wholeDrives
