/- WholeReserved: the law as a call, lifted to what the row asks. -/
import Derived.Test.YtiibhndkoknmnaaGreatDoorRows
import Derived.Test.YtiibhndkoknmnaaGreatDoorTie
import Derived.Test.YtiibhndkoknmnaaGreatDoorCards
import Derived.WalkKit
import Derived.Test.YtiibhndkoknmnaaGreatDoorB21
import Derived.ProofKit
import Derived.OpenShut
import Derived.LaidMore
import Derived.Lay
import Derived.WideKeyArgs
import Derived.ChangeSame
import Derived.SevenTiedAt
import Derived.Stop.Joined
open Go.Proofs.Tryz renaming prog→SI,checked→XQ,f3→XR,underlying5→Wk,underlying4→Ut
open Go.OpenSpec renaming ofChange→XS
open List renaming append_nil→SN,nil_append→SJ
open Go.WideElems renaming Trod_stays→XA
namespace Go.Proofs.YtiibhndkoknmnaaGreatDoor.wholeReserved
open Go.ChangeShapes Go.WideShapes Go.ChangeAt Go.RowKit Go.Am
set_option linter.unusedVariables false
set_option linter.unusedSimpArgs false
theorem own:ownKnob SI.godebug=none:=by kernel_rfl
theorem laidOut:laidOutB SI=true:=by kernel_rfl
set_option maxRecDepth 100000 in
theorem lifted(os:Os)(started:os.Started)(H:Type)(enc:TypeId×Value->H):
  ReturnsInHanded {} XQ os 3 .any (λw args=>(Rows.wholeReservedSpec.pre enc SI XR Rows.wholeReservedRow.domain false w args/\laidMetH SI Rows.wholeReservedRow.laid w)/\sizedMet enc SI XR (XS Rows.wholeReservedSpec) false w args)
   (Rows.wholeReservedSpec.post enc SI XR false true false false):=by
 refine Am.CR.yL (C:=XQ) (X:=λw _=>laidMetH SI Rows.wholeReservedRow.laid w) (λ_ _ _ hh h=>h.of_heap hh) own started (by kernel_rfl) Tryz.func3
  (ChangeSpec.witness_shaped (enc:=enc) (C:=XQ) (os:=os) (X:=λw _=>laidMetH SI Rows.wholeReservedRow.laid w) false (World.laidAll SI os Rows.wholeReservedRow.laid)
   #[.slice none 0 0,.int .u8 0,.agg #[.int .u8 0,.int .u8 0,.int .u8 0,.int .u8 0,.int .u8 0,.int .u8 0,.int .u8 0,.int .u8 0]] 8 (World.laidAll_os _ _ _)
   (World.shaped_of_ZipB (by kernel_rfl) (by kernel_rfl)) (by kernel_rfl) (by kernel_rfl) (by kernel_rfl)
   (by rw[MakeChecks.laidMetH_plain _ _ _ (by kernel_rfl)];exact laidMet_laidAll _ (by kernel_rfl) (by kernel_rfl))) ?_
 intro W args base ds gs before hval0 hW hsz hL hsh;rw[MakeChecks.laidMetH_plain _ _ _ (by kernel_rfl)]at hL;have hgl:Am.pt W.heap.size W:=Am.CR.aaS hL (by simp only[Rows.wholeReservedRow,List.mem_cons,true_or,or_true]);have hval:∀(j:Nat) t v,XR.params[j]?=some t->args[j]?=some v->Value.okWide SI W .any base t v:=hval0;have hW':=hW;obtain⟨p,q,hA0,hV,rfl,hfz,hnd⟩:=hW;have hA:DataW.TrodAll enc SI W 0 (λ_=>true) true XR.params.toList args.toList ds p:=hA0;rw[Tryz.params3]at hA hval;obtain⟨v0,vs0,d0,ds0,p0,q0,hargs,rfl,rfl,h0,r0⟩:=trodAll_cons hA;obtain⟨v1,vs1,d1,ds1,p1,q1,rfl,rfl,rfl,h1,r1⟩:=trodAll_cons r0;obtain⟨v2,vs2,d2,ds2,p2,q2,rfl,rfl,rfl,h2,r2⟩:=trodAll_cons r1;obtain⟨rfl,rfl,rfl⟩:=trodAll_nil r2;obtain rfl:args=#[v0,v1,v2]:=by cases args;simp_all
 obtain⟨rfl,rfl⟩:=trodVars_none hV
 obtain⟨cs,hC,hcl⟩:∃cs:List (Am.CR.Cmd×Value),Am.CR.Jn W v0 cs/\cs.length<=9223372036854775807:=by
  obtain⟨a,len,cap,rfl⟩:=okWide_slice Am.CR.u22 (hval 0 22 v0 rfl rfl);obtain⟨fuel,hf⟩:=h0;obtain⟨v,l,e,hl,hC⟩:=Am.CR.CB hf;obtain rfl:Value.slice a len cap=v:=by injection e
  exact⟨l,hC,by unfold maxLen at hl;omega⟩
 obtain⟨z1,rfl,rfl,rfl,w1⟩:=open_int Wk (hval 1 5 v1 rfl rfl) h1;have hz1:0<=z1/\z1<256:=⟨(bounds_u8 w1).1,by have:=(bounds_u8 w1).2;omega⟩;obtain⟨k1,rfl⟩:∃k1:Nat,z1=(k1:Int):=⟨z1.toNat,by omega⟩;obtain⟨dd,hd8,hv2⟩:=Am.CR.As (hval 2 24 v2 rfl rfl) h2;clear hA0 hval0;simp only[SN,SJ]at hW';have hlt0:∀x∈p0,x.block<W.heap.size:=λx hx=>hW'.lt x (by simp[hx]);have hlt2:∀x∈p2,x.block<W.heap.size:=λx hx=>hW'.lt x (by simp[hx]);have hcall:=Am.CR.tj W hgl v0 cs hC hcl (sl:=k1) (by omega) hd8;rw[<-hv2]at hcall;refine hcall.mono λe W' ⟨he,hg⟩=>?_;subst he
 exact⟨_,rfl,Gi (pa:=p0++p2) (pv:=[]) hW' (λ_ _ _=>(trodAll_cons_mk (shut_bool Ut _) trodAll_mk0)) (λsp hsp=>by
   have:=(trodAll_cons_mk (XA laidOut (by kernel_rfl) (of_decide_eq_true (by kernel_rfl)) h0 (W':=W') (sp':=sp) (λx hx=>hg.same (hlt0 x hx)) (λx hx=>hsp x (by simp[hx]))) (trodAll_cons_mk (shut_int Wk w1) (trodAll_cons_mk (XA laidOut (by kernel_rfl) (of_decide_eq_true (by kernel_rfl)) h2 (W':=W') (sp':=sp) (λx hx=>hg.same (hlt2 x hx)) (λx hx=>hsp x (by simp[hx]))) trodAll_mk0)));simp only[SN,SJ]at this
   exact this) (λ_ _=>rfl) (by simp)
  hg (ok_one (by kernel_rfl) rfl (okWide_bool_mk Ut _))⟩
end Go.Proofs.YtiibhndkoknmnaaGreatDoor.wholeReserved
