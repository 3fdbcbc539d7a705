/- The machine and its runs, part 21. -/
import Derived.Test.YtiibhndkoknmnaaGreatDoorRows
import Derived.Lib.LaidU8
import Derived.Lib.SmallJoins
import Derived.Lib.AppendIntMem
import Derived.HandedShaped
import Derived.SizedLaws
import Derived.LaidLaws
import Derived.Stop.Joined
import Derived.Deep.DeepHandedRow
import Derived.ProofKit
import Derived.Test.YtiibhndkoknmnaaGreatDoorB20
open Go renaming Value→AT,World→SE
open Nat renaming le_refl→IN
open Go.Proofs.Tryz renaming prog→SR
open Go.OpenSpec renaming ofChange→XS
open Go.Proofs.YtiibhndkoknmnaaGreatDoor.Rows renaming laid_tegula_tegulatop_small→TM
open Array renaming getElem?_eq_some_iff→SB
open List renaming getElem?_eq_getElem→SH
open List.cons renaming injEq→Wm
namespace Go.Am.CR
open Go Go.Am Go.Am.V Go.RowKit
set_option maxRecDepth 1000000
variable{d:List Int}{sl i:Nat}{e:Ent}
section
variable{a b:Nat->List AT->FM->Nat->OR FM}{f:Nat}{args:List AT}{m m':FM}{n n' r w:Nat}{v:AT}
theorem zU(h:a f args m n=.ok v m' n' r w):pS a b f args m n=.ok v m' n' r w:=by unfold pS;rw[h]
theorem lG(h0:a f args m n=.no)(h:b f args m n=.ok v m' n' r w):pS a b f args m n=.ok v m' n' r w:=by unfold pS;rw[h0];exact h
theorem tV(ha:YUp a)(hb:YUp b):YUp (pS a b):=λf args m n v m' n' r w h=>by
 unfold pS at h;split at h
 ·exact hb _ _ _ _ _ _ _ _ _ h
 ·rename_i h1;rw[h]at h1;exact ha _ _ _ _ _ _ _ _ _ h1
theorem vR(h:f≠10):awA f args m n=.no:=by unfold awA;rw[OV h];rfl
theorem zf(h:f≠164)(h2:f≠56):mcA f args m n=.no:=by unfold mcA;rw[OV h,OV h2];rfl
theorem BG(h:f≠116):trA f args m n=.no:=by unfold trA;rw[OV h];rfl
theorem Cx(h:f≠350):Cy f args m n=.no:=by unfold Cy FR;rw[OV h];rfl
theorem Mt(h:f≠334):soA f args m n=.no:=Il h
theorem adU(h:f≠16):nmA f args m n=.no:=Il h
theorem aeD{Y:Nat->List AT->FM->Nat->OR FM}(h:f≠13):apA Y f args m n=.no:=by unfold apA;rw[if_neg h]
end
theorem upA:YUp awA:=λf args m n v m' n' r wm h=>by obtain⟨_,_,_,rfl,rfl,rfl,rfl⟩:=HM h;exact⟨IN _,λb hb=>⟨by simp,by simp⟩⟩
noncomputable def yI:Nat->List AT->FM->Nat->OR FM:=pS awA (pS mcA (pS trA (pS Cy (pS soA (pS nmA coA)))))
noncomputable def yB:Nat->List AT->FM->Nat->OR FM:=pS (apA yI) yI
theorem Bz:il yI:=mX abF (mX aaw (mX RA (mX Ou (mX RM (mX aah abp)))))
theorem FG:iw PG yI:=mW abE (mW aav (mW Rz (mW Ot (mW RJ (mW aag abo)))))
theorem LM:YUp yI:=tV upA (tV adV (tV adk (tV abn (tV adu (tV adT aeq)))))
theorem Good.filter{P:Program}{l:List (Nat×AFn)}(p:Nat×AFn->Bool)(h:Am.Good P l):Am.Good P (l.filter p):=by
 induction h with
 |nil=>exact .nil
 |@cons f fn af l h hc hl ih=>
  rw[List.filter_cons];split
  ·exact .cons h hc ih
  ·exact ih
theorem acM:Am.Good SR adl:=Good.filter _ Cq
theorem codeB(k:Nat):th FM PG EL yI k:=(uN aas zB Bz FG acM.look k).1
section
variable{args:List AT}{m m':FM}{n n' r w:Nat}{v:AT}
theorem LN{f:Nat}(hf:f=164\/f=56)(h:mcA f args m n=.ok v m' n' r w):yI f args m n=.ok v m' n' r w:=lG (vR (by omega)) (zU h)
theorem yI_tr(h:trA 116 args m n=.ok v m' n' r w):yI 116 args m n=.ok v m' n' r w:=lG (vR (by decide)) (lG (zf (by decide) (by decide)) (zU h))
theorem acV(h:Cy 350 args m n=.ok v m' n' r w):yI 350 args m n=.ok v m' n' r w:=lG (vR (by decide)) (lG (zf (by decide) (by decide)) (lG (BG (by decide)) (zU h)))
theorem acy(h:soA 334 args m n=.ok v m' n' r w):yI 334 args m n=.ok v m' n' r w:=lG (vR (by decide)) (lG (zf (by decide) (by decide)) (lG (BG (by decide)) (lG (Cx (by decide)) (zU h))))
theorem acz(h:nmA 16 args m n=.ok v m' n' r w):yI 16 args m n=.ok v m' n' r w:=lG (vR (by decide)) (lG (zf (by decide) (by decide)) (lG (BG (by decide)) (lG (Cx (by decide)) (lG (Mt (by decide)) (zU h)))))
theorem acA(h:coA 125 args m n=.ok v m' n' r w):yI 125 args m n=.ok v m' n' r w:=lG (vR (by decide)) (lG (zf (by decide) (by decide)) (lG (BG (by decide)) (lG (Cx (by decide)) (lG (Mt (by decide)) (lG (adU (by decide)) h)))))
theorem Di{f:Nat}(hf:f≠13)(h:yI f args m n=.ok v m' n' r w):yB f args m n=.ok v m' n' r w:=lG (aeD hf) h
end
theorem upB:YUp yB:=tV (aeB LM) LM
theorem acX:il yB:=mX (abL Bz) Bz
theorem acW:iw PG yB:=mW (abK Bz FG codeB) FG
theorem apB:ApY yB:=O8 LM (ER λ_ _ _ _ _ _ _ _ h=>acA h) (DV λ_ _ _ _ _ _ _ _ h=>acz h) (Dy λ_ _ _ _ _ _ _ _ h=>acy h) (ze (.inl rfl) λ_ _ _ _ _ _ _ _ h=>LN (.inl rfl) h) λ_ _ _ _ _ _ _ _ h=>zU h
theorem aw31B:afA yB:=λm n=>by unfold Pure;rw[kU e10];exact⟨0,Di (by decide) (zU rfl)⟩
theorem lawB{m:FM}{n:Nat}{lv:AT}{cs:List (Cmd×AT)}(hl:lU m n lv cs)(hs:cs.length<=9223372036854775807)(hsl:sl<256)(hd:d.length=8):Pure (fL PG EL yB 3 [lv,.int .u8 (sl:Int),.agg (u8s d).toArray] m n) m n (.bool true):=
 ND upB (ER λ_ _ _ _ _ _ _ _ h=>Di (by decide) (acA h)) (DV λ_ _ _ _ _ _ _ _ h=>Di (by decide) (acz h)) (Dy λ_ _ _ _ _ _ _ _ h=>Di (by decide) (acy h)) (KW λ_ _ _ _ _ _ _ _ h=>Di (by decide) (acV h))
  (ze (.inl rfl) λ_ _ _ _ _ _ _ _ h=>Di (by decide) (LN (.inl rfl) h)) (ze (.inr rfl) λ_ _ _ _ _ _ _ _ h=>Di (by decide) (LN (.inr rfl) h)) apB (Mg λ_ _ _ _ _ _ _ _ h=>Di (by decide) (yI_tr h)) aw31B hl hs hsl hd
theorem envB:Env0 SR adl yB where
 mix:=aas
 Cq:=acM
 loc:=acX
 sim:=acW
open Go Go.Am Go.Am.V Go.RowKit Go.ChangeShapes
theorem KN{L:List (Option Ent)}(h:L[i]?=some (some e)):vL L i=some e.p:=by show(L[i]?).bind _=_;rw[h];rfl
theorem KO{L:List (Option Ent)}(h:L[i]?=some (some e)):G7 L i=some (.cells e.cs e.p.sz false false):=by show(L[i]?).bind _=_;rw[h];rfl
theorem tj(w:SE)(hgl:pt w.heap.size w)(sv:AT)(cs:List (Cmd×AT))(h:Jn w sv cs)(hs:cs.length<=9223372036854775807){sl:Nat}(hsl:sl<256)(hd:d.length=8):
  Calls SR 3 #[sv,.int .u8 (sl:Int),.agg (u8s d).toArray] w λe w'=>e=.returned (.bool true)/\Below w.heap.size w w':=by
 obtain⟨L,v,cs',hL,hl',hrel,hmem⟩:=OA h;obtain⟨hv,hok⟩:=hrel (vL L) λi e he=>KN he;obtain⟨hm,hf⟩:=KM (w:=w) (L:=L) hgl hok;obtain⟨r,hrun⟩:=lawB (hmem (G7 L) L.length (IN _) λi e he=>KO he) (by rw[hl'];exact hs) hsl hd
 have hu:gY (vL L) (u8s d) (u8s d):=⟨rfl,λi x y hx hy=>by
  rw[hx]at hy;injection hy with hy
  subst hy;have:=List.mem_of_getElem? hx;obtain⟨z,_,rfl⟩:=List.mem_map.1 this
  exact .int _ _ _⟩
 exact Go.Am.Env0.topW envB (args':=#[sv,.int .u8 (sl:Int),.agg (u8s d).toArray]) hrun (.cons hv (.cons (.flat rfl) (.cons (gY.agg hu) (.nil _)))) hm hf
theorem As{H:Type}{enc:TypeId×AT->H}{w:SE}{held:Bool}{sp:Nat->Bool}{base:Nat}{v:AT}{x:DataW H}{ps:List MemPlace}{r:Reach}(hval:Value.okWide PG w r base 24 v)(h:DataW.Trod enc PG w 0 sp held 24 v x ps):∃d:List Int,d.length=8/\v=.agg (u8s d).toArray:=by simp only[Value.okWide,u24]at hval;obtain⟨cs,rfl,hcs,_⟩:=hval;rw[c24]at hcs;obtain⟨fuel,hf⟩:=h;obtain⟨d,hd,e⟩:=tC u24 u5 c5 (by simpa[Value.cells]using hcs) hf;refine⟨d,hd,?_⟩;have e2:cs.toList=u8s d:=e;rw[<-e2]
open Go Go.Am Go.Am.V Go.RowKit Go.ChangeShapes Go.WideShapes Go.ChangeAt
theorem yL{H:Type}{enc:TypeId×AT->H}{a:Assume}{C:Checked}{os:Os}{f:FuncId}{fn:Func}{s:ChangeSpec}{conds:List PathCond}{apart fresh handsOn again:Bool}{X:SE->Array AT->Prop}
  (hX:∀(w w':SE) (args:Array AT),w.heap=w'.heap->X w args->X w' args)
  (own:ownKnob C.prog.godebug=none) (started:os.Started) (noInit:C.prog.inits.idxOf? f=none) (hfn:C.prog.funcs[f]?=some fn)
  (witness:∃(w:SE) (tape:Tape) (i:Input),w.os=os/\(w.forCall tape i).Shaped C.prog/\i.vars=[]/\Input.okWide C.prog (w.forCall tape i) .any w.heap.size f i/\
   ((s.pre enc C.prog fn conds apart (w.forCall tape i).memory i.args/\X (w.forCall tape i).memory i.args)/\sizedMet enc C.prog fn (XS s) apart (w.forCall tape i).memory i.args)/\a.holds C.prog (lone (Frame.enter C.prog f i.args .normal) [] (w.forCall tape i)))
  (contract:∀(W:SE) (args:Array AT) (base:Nat) (ds gs:List (DataW H)) (before:List MemPlace),
   (∀(j:Nat) t v,fn.params[j]?=some t->args[j]?=some v->Value.okWide C.prog W .any base t v)->
   DataW.Whole enc C.prog fn.params.toList s.vars apart W args.toList ds gs before->
   (DataW.weightsEach C.prog (fn.params.toList++s.plain.varTypes C.prog) (ds++gs)).all (·<=reachBytes)=true->X W args->W.ShapedOpen C.prog->
   Calls C.prog f args W λe W'=>∃v,e=.returned v/\s.post enc C.prog fn apart fresh handsOn again W args v W'):
  ReturnsInHanded a C os f .any (λw args=>(s.pre enc C.prog fn conds apart w args/\X w args)/\sizedMet enc C.prog fn (XS s) apart w args) (s.post enc C.prog fn apart fresh handsOn again):=by
 refine returnsInHanded_of_calls own started noInit witness ?_;intro w tape i _ hsh _ hok hpre hholds;obtain⟨_,_,_,fn',hfn',_,_,_,_,hval⟩:=hok;have e:fn'=fn:=Option.some.inj (hfn'.symm.trans hfn);subst e;obtain⟨⟨⟨ds,gs,before,hw,hc⟩,hx⟩,hz⟩:=hpre;have hw':=DataW.Whole.of_heap (w':=w.forCall tape i) (by rfl) hw;refine(contract (w.forCall tape i) i.args w.heap.size ds gs before hval hw' (hz.weights hw) (hX _ _ _ (by rfl) hx) hsh).mono λe W' ⟨v,he,hp⟩=>?_;subst he;exact ChangeSpec.post_blind hp
theorem c87:PG.cellsOf 87=5:=by kernel_rfl
theorem l87:(PG.fieldsOf 87).toList.map (λf=>(f.offset,f.type))=[(0,3),(1,3),(2,3),(3,3),(4,3)]:=by kernel_rfl
theorem u87:PG.underlying 87=some (.struct (PG.fieldsOf 87)):=by kernel_rfl
theorem Mu{w:SE}{l:List (String×DataW Unit)}(h:laidMet PG l w)(hm:("tegula/tegulatop.small",TM)∈l):
  ∃(cc:Array AT) (t:TypeId) (fz:Nat×Nat),w.heap[0]?=some (.cells cc t fz)/\cc.toList=[.int .i64 60,.int .i64 5,.int .i64 2,.int .i64 3,.int .i64 1]:=by
 obtain⟨g,t,cs,fuel,p,h1,h2,h3,h4⟩:=Lib.laidMet.reads h hm;obtain rfl:g=0:=Option.some.inj (h1.symm.trans (by kernel_rfl));obtain rfl:t=87:=Option.some.inj (h2.symm.trans (by kernel_rfl));obtain⟨xs,n,_,hx,hl,hn,hall⟩:=DataW.trod_struct u87 h4;rw[c87]at hl
 have fld:∀(i off:Nat),[(0,3),(1,3),(2,3),(3,3),(4,3)][i]?=some (off,3)->∃y,xs[i]?=some y/\DataW.trod _ PG w _ _ _ n 3 ((cs.toList.drop off).take 1)=some y:=λi off hi=>by
  rw[<-l87,List.getElem?_map]at hi
  cases hf:(PG.fieldsOf 87).toList[i]? with
  |none=>rw[hf]at hi;cases hi
  |some f=>
   rw[hf]at hi;injection hi with hi;injection hi with e1 e2
   have hf':(PG.fieldsOf 87)[i]?=some f:=by simpa using hf
   have hi9:i<xs.length:=by rw[hn];exact(SB.1 hf').1
   have:=hall i f hf';rw[e2,c3,e1]at this;exact⟨xs[i],SH hi9,by rw[this,SH hi9]⟩
 obtain⟨y0,i0,q0⟩:=fld 0 0 rfl;obtain⟨y1,i1,q1⟩:=fld 1 1 rfl;obtain⟨y2,i2,q2⟩:=fld 2 2 rfl;obtain⟨y3,i3,q3⟩:=fld 3 3 rfl;obtain⟨y4,i4,q4⟩:=fld 4 4 rfl;obtain⟨z0,k0,d0,_⟩:=DataW.trod_int u3 q0;obtain⟨z1,k1,d1,_⟩:=DataW.trod_int u3 q1;obtain⟨z2,k2,d2,_⟩:=DataW.trod_int u3 q2;obtain⟨z3,k3,d3,_⟩:=DataW.trod_int u3 q3;obtain⟨z4,k4,d4,_⟩:=DataW.trod_int u3 q4
 have hxs:xs=[y0,y1,y2,y3,y4]:=by
  have hl5:xs.length=5:=by rw[hn];kernel_rfl
  match xs,hl5 with
  |[a0,a1,a2,a3,a4],_=>
   injection i0 with i0;injection i1 with i1;injection i2 with i2;injection i3 with i3;injection i4 with i4
   rw[i0,i1,i2,i3,i4]
 subst hxs;injection hx with hx1 hx2
 simp only[TM,d0,d1,d2,d3,d4,List.map_cons,List.map_nil,DataW.agg.injEq,Wm,DataW.lit.injEq,Lit.int.injEq,true_and,and_true]at hx1;obtain⟨rfl,rfl,rfl,rfl,rfl⟩:=hx1
 have hcs:cs.toList=[.int .i64 60,.int .i64 5,.int .i64 2,.int .i64 3,.int .i64 1]:=by
  obtain⟨cs⟩:=cs;replace hl:cs.length=5:=hl
  match cs,hl with
  |[a0,a1,a2,a3,a4],_=>
   injection k0 with k0;injection k1 with k1;injection k2 with k2;injection k3 with k3;injection k4 with k4
   rw[k0,k1,k2,k3,k4]
 unfold World.var? at h3;rw[h1]at h3;replace h3:(match(w.heap[(0:Nat)]?:Option Obj)with|some (.cells cs _ _)=>some cs|_=>none)=some cs:=h3;split at h3
 ·rename_i c t fz hc;injection h3 with h3
  exact⟨c,t,fz,hc,by rw[<-hcs,<-h3]⟩
 ·cases h3
theorem aaS{w:SE}{l:List (String×DataW Unit)}(h:laidMet PG l w)(hm:("tegula/tegulatop.small",TM)∈l):pt w.heap.size w:=λw' hb p hp i x hx=>by obtain⟨cc,t,fz,hc,hl⟩:=Mu h hm;obtain rfl:=List.mem_singleton.1 hp;have h0:w'.heap[0]?=some (.cells cc t fz):=(hb.block 0 (SB.1 hc).1).trans hc;simp only[World.cell?,h0];rw[<-Array.getElem?_toList,hl];exact hx
end Go.Am.CR
namespace Go.Am
open Go Go.RowKit Go.ChangeShapes
theorem Gi{H:Type}{enc:TypeId×AT->H}{P:Program}{f:Func}{s:ChangeSpec}{apart fresh handsOn again:Bool}{W W':SE}{args:Array AT}{v:AT}{ds gs:List (DataW H)}{before pa pv:List MemPlace}
  (hW:DataW.Whole enc P f.params.toList s.vars apart W args.toList ds gs before)
  (hres:∀(b:Nat) (sp:Nat->Bool) (hd:Bool),DataW.TrodAll enc P W' b sp hd f.resultTypes.toList (v.resultList f.resultTypes.size) (s.fn H (ds++gs)).results [])
  (hargs:∀sp:Nat->Bool,(∀p∈before,sp p.block=true)->DataW.TrodAll enc P W' 0 sp true f.params.toList args.toList (s.fn H (ds++gs)).args pa)
  (hvars:∀sp:Nat->Bool,(∀p∈before,sp p.block=true)->DataW.TrodVars enc P W' sp s.vars (s.fn H (ds++gs)).vars pv)
  (hps:before=pa++pv) (hb:Below W.heap.size W W')
  (hok:∀(j:Nat) (t:TypeId) (r:AT),f.resultTypes[j]?=some t->(v.resultList f.resultTypes.size)[j]?=some r->Value.okWide P W' .any 0 t r):
  s.post enc P f apart fresh handsOn again W args v W':=by
 have hlt:=hW.lt;obtain⟨_,_,_,_,_,hz,hn⟩:=id hW;refine⟨ds,gs,before,[],pa,pv,hW,hres _ _ _,hargs _ λp hp=>by simpa using hlt p hp,hvars _ λp hp=>by simpa using hlt p hp,World.keptBut_mono (λp hp=>⟨hp,?_⟩) (hb.frame (·∈before)),λ_=>⟨hok,_,_,([]++pa)++pv,⟨[]++pa,pv,trodAll_append (hargs _ λ_ _=>rfl) (hres _ _ _),hvars _ λ_ _=>rfl,rfl,λb off hp=>?_,λha=>?_⟩,λp hp _=>?_⟩⟩
 ·rw[hps,List.mem_append]at hp;exact .inr hp
 ·have hm:MemPlace.cell b off∈before:=by rw[hps];simpa using hp
  rw[hb.frozen (p:=⟨b,off,none⟩) (hlt _ hm)];exact hz b off hm
 ·have:=hn ha;rw[hps]at this;simpa using this
 ·rw[hps];simpa using hp
end Go.Am
