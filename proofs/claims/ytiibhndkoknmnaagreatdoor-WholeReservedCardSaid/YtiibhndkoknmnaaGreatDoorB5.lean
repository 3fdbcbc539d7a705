/- The machine and its runs, part 5. -/
import Derived.Orders
import Derived.Scope
import Derived.Test.YtiibhndkoknmnaaGreatDoorB4
set_option linter.unusedVariables false
set_option linter.unusedSimpArgs false
open Nat renaming lor→OF,lt_or_ge→Yx,lt_of_lt_of_le→TC,le_trans→Tz,blt→Te,blt_eq→UI,mod→SL,beq→SF,eq_of_beq_eq_true→SG,le_refl→IN
open Bool renaming or_eq_true→Uw,and_eq_true→No
open Go renaming Program→SZ,World→SE,Value→AT,Act→VX,Exit→Xb,Operand→Uz
open Go.Sem renaming run_bind→SU
open Go.Region renaming wanted→TN
open List renaming range'→TX,getElem?_map→To,mem_filter→TY,mem_cons_self→Tk,mem_cons_of_mem→SQ,map_cons→Uc
open Array renaming replicate→TS,getD_eq_getD_getElem?→Tp
namespace Go.Am
open Go Go.RowKit
def Sub(a b:Nat):Prop:=∀k,a.testBit k=true->b.testBit k=true
theorem Sub.refl(a:Nat):Sub a a:=λ_ h=>h
theorem Sub.trans{a b c:Nat}(h:Sub a b)(k:Sub b c):Sub a c:=λx hx=>k x (h x hx)
theorem Sub.left(a b:Nat):Sub a (OF a b):=λk h=>by rw[gv,h];rfl
theorem Sub.right(a b:Nat):Sub b (OF a b):=λk h=>by rw[gv,h];simp
theorem Sub.lor{a b c:Nat}(h:Sub a c)(k:Sub b c):Sub (OF a b) c:=λx hx=>by
 rw[gv,Uw]at hx;rcases hx with hx|hx
 ·exact h x hx
 ·exact k x hx
section
variable{μ:Type}[AMem μ]{P:SZ}{ρ ρ1 ρ2:Ren}{V:Nat->Option Blk}{w w1 w2:SE}{B:Nat}
theorem iX.sub{m:μ}{n F G:Nat}(h:iX V m n F)(hs:Sub G F):iX V m n G:=λb hb hf=>h b hb (hs b hf)
theorem iX.step{m m1:μ}{n n1 W F:Nat}(h:iX V m n F)(l:Loc m n m1 n1 W):iX (upd V W m1) m1 n1 F:=by
 intro b hb hf;unfold upd;cases hw:W.testBit b
 ·have hbn:b<n:=by
   rcases Yx b n with h1|h1
   ·exact h1
   ·rw[l.made b h1 hb]at hw;cases hw
  simp only[Bool.false_eq_true,if_false];rw[h b hbn hf,l.same b hw]
 ·simp
theorem H6{m1 m2:μ}{n1 n2 W1 W2:Nat}(l:Loc m1 n1 m2 n2 W2):upd (upd V W1 m1) W2 m2=upd V (OF W1 W2) m2:=by
 funext b
 unfold upd;rw[gv];cases h2:W2.testBit b
 ·cases h1:W1.testBit b
  ·simp
  ·simp[l.same b h2]
 ·simp
theorem Post.trans{m1 m2:μ}{n n1 n2 W1 W2:Nat}(h:Post ρ V w B n m1 n1 W1 ρ1 w1)(k:Post ρ1 (upd V W1 m1) w1 B n1 m2 n2 W2 ρ2 w2)(l:Loc m1 n1 m2 n2 W2):Post ρ V w B n m2 n2 (OF W1 W2) ρ2 w2:=
 ⟨Ren.le_trans h.le k.le,λb p hb=>by
  rcases k.dom b p hb with h1|⟨h1,h2⟩
  ·rcases h.dom b p h1 with h3|⟨h3,h4⟩
   ·exact .inl h3
   ·exact .inr ⟨h3,TC h4 k.num⟩
  ·exact .inr ⟨Tz h.num h1,h2⟩,by rw[<-H6 l];exact k.mrel,h.below.trans k.below,Tz h.num k.num,λx hx hk=>by
  have h1:∀b p,ρ b=some p->W1.testBit b=true->p.blk≠x:=λb p hb hw=>hk b p hb (by rw[gv,hw];rfl);rw[k.frame x (TC hx h.below.size) (λb p hb hw=>?_),h.frame x hx h1];rcases h.newp b p hb with h2|h2|⟨b0,p0,h2,h3,h4⟩
  ·exact hk b p h2 (by rw[gv,hw];simp)
  ·omega
  ·rw[<-h4];exact h1 b0 p0 h2 h3,λb p hb=>by
  rcases k.newp b p hb with h1|h1|⟨b0,p0,h1,h2,h3⟩
  ·rcases h.newp b p h1 with h2|h2|⟨b0,p0,h2,h3,h4⟩
   ·exact .inl h2
   ·exact .inr (.inl h2)
   ·exact .inr (.inr ⟨b0,p0,h2,by rw[gv,h3];rfl,h4⟩)
  ·exact .inr (.inl (Tz h.below.size h1))
  ·rcases h.newp b0 p0 h1 with h4|h4|⟨b1,p1,h4,h5,h6⟩
   ·exact .inr (.inr ⟨b0,p0,h4,by rw[gv,h2];simp,h3⟩)
   ·exact .inr (.inl (by omega))
   ·exact .inr (.inr ⟨b1,p1,h4,by rw[gv,h5];rfl,h6.trans h3⟩),λb hb=>by
  rw[gv]at hb;cases h1:W1.testBit b
  ·rw[h1]at hb;obtain⟨a1,a2⟩:=k.wold b (by simpa using hb);refine⟨a1,λhn=>?_⟩;obtain⟨O,e1,e2⟩:=a2 (TC hn h.num);unfold upd at e1;rw[h1]at e1;exact⟨O,by simpa using e1,e2⟩
  ·obtain⟨⟨p,a1⟩,a2⟩:=h.wold b h1
   exact⟨⟨p,k.le b p a1⟩,a2⟩⟩
theorem lN.next{m1:μ}{n n1 W1:Nat}(h:lN ρ n)(p:Post ρ V w B n m1 n1 W1 ρ1 w1):lN ρ1 n1:=by
 intro b h1
 cases hb:ρ1 b with
 |none=>rfl
 |some q=>
  rcases p.dom b q hb with h3|⟨_,h4⟩
  ·rw[h b (Tz p.num h1)]at h3;cases h3
  ·omega
def iw(P:SZ)(rec:Nat->List AT->μ->Nat->OR μ):Prop:=
 ∀f args m n v m' n' r wm,rec f args m n=.ok v m' n' r wm->∀ρ V w B F (args':Array AT),gY ρ args args'.toList->Sub (OF r wm) F->iX V m n F->MRel ρ V w B->lN ρ n->
  (∃fn c,P.funcs[f]?=some fn/\fn.name≠ "runtime.NumGoroutine"/\fn.body=some c)/\
  Calls P f args' w λe w'=>∃ρ' v',e=.returned v'/\VRel ρ' v v'/\Post ρ V w B n m' n' wm ρ' w'
def il(rec:Nat->List AT->μ->Nat->OR μ):Prop:=∀f args m n v m' n' r wm,rec f args m n=.ok v m' n' r wm->Loc m n m' n' wm
theorem uj{f:Nat}{fn:Func}{c:Code}{args:Array AT}(hf:P.funcs[f]?=some fn)(hn:fn.name≠ "runtime.NumGoroutine")(hb:fn.body=some c):(callFunc f args).run P w=.ok (.enter f args) w:=by unfold callFunc;simp only[SU,run_program,Result.andThen_ok,hf];rw[if_neg (by simpa using hn),if_neg (by rw[hb];simp)];rfl
omit [AMem μ] in
theorem Hs{Γ:Ctx}{op:Op}{g:Nat}{args:List Opd}(h:jI P Γ op (.call g args)=true):∃args0 ts,op=.call ⟨.value (.func g),args0,ts⟩/\my Γ args0.toList args=true:=by
 cases op with
 |call c=>
  obtain⟨callee,args0,ts⟩:=c
  cases callee with
  |value f=>
   simp only[jI,No]at h
   cases f with
   |func f'=>
    have e:f'=g:=by simpa using h.1
    subst e;exact⟨args0,ts,rfl,h.2⟩
   |_=>simp at h
  |invoke r m=>simp[jI]at h
  |builtin b=>cases b<;>simp[jI]at h
 |_=>simp[jI]at h
omit [AMem μ] in
theorem E0{Γ:Ctx}{op:Op}{y:Opd}{args:List Opd}(h:jI P Γ op (.callv y args)=true):∃f args0 ts,op=.call ⟨.value f,args0,ts⟩/\gT Γ f y=true/\my Γ args0.toList args=true:=by
 cases op with
 |call c=>
  obtain⟨callee,args0,ts⟩:=c
  cases callee with
  |value f=>simp only[jI,No]at h;exact⟨f,args0,ts,rfl,h.1,h.2⟩
  |invoke r m=>simp[jI]at h
  |builtin b=>cases b<;>simp[jI]at h
 |_=>simp[jI]at h
theorem yW{Γ:Ctx}{e:List AT}{a:VX}{m m':μ}{n n' r wm F:Nat}{v:AT}{rec:Nat->List AT->μ->Nat->OR μ}{o:Oper}{x:AOp}{next:VX->SE->Prop}{Q:Xb->VX->SE->Prop}
  (hcall:iw P rec) (hchk:jI P Γ o.op x=true) (he:gZ ρ Γ e a.tmps) (h:gV P rec e m n x=.ok v m' n' r wm) (hF:Sub (OF r wm) F)
  (hm:MRel ρ V w B) (hag:iX V m n F) (hfree:lN ρ n)
  (hk:∀v' ρ' w',VRel ρ' v v'->Post ρ V w B n m' n' wm ρ' w'->next (a.put o.dst v') w'):o.wp P a w next Q:=by
 by_cases hc:(∃f args,x=.call f args)\/(∃y args,x=.callv y args)
 ·unfold Oper.wp;rcases hc with⟨g,args,rfl⟩|⟨y,args,rfl⟩
  ·replace h:rec g (evs e args) m n=.ok v m' n' r wm:=h;obtain⟨args0,ts,ho,ha⟩:=Hs hchk;obtain⟨dst,op,ty,pos,after,guard⟩:=o;simp only at ho hk;subst ho;have hl:gY ρ (evs e args) (#[]++args0.map a.eval++#[]).toList:=by simpa using nW he ha
   obtain⟨⟨fn,c,hf,hn,hb⟩,hcalls⟩:=hcall _ _ _ _ _ _ _ _ _ h ρ V w B F _ hl hF hag hm hfree;have hr:(execOp a.eval ⟨dst,.call ⟨.value (.func g),args0,ts⟩,ty,pos,after,guard⟩).run P w=.ok (.enter g (#[]++args0.map a.eval++#[])) w:=by have h1:(execOp a.eval ⟨dst,.call ⟨.value (.func g),args0,ts⟩,ty,pos,after,guard⟩)=callFunc g (#[]++args0.map a.eval++#[]):=rfl;rw[h1];exact uj hf hn hb
   rw[hr,Oper.upon_enter];refine hcalls.mono λe' w' hh=>?_;obtain⟨ρ',v',rfl,hv,hp⟩:=hh;exact hk v' ρ' w' hv hp
  ·replace h:oC rec (evs e args) m n (ev e y)=.ok v m' n' r wm:=h;obtain⟨f,args0,ts,ho,hf,ha⟩:=E0 hchk;obtain⟨dst,op,ty,pos,after,guard⟩:=o;simp only at ho hk;subst ho;have hfr:=gB he hf;unfold oC at h;split at h
   ·rename_i g fa fc hy;rw[hy]at hfr;generalize hfe:a.eval f=fv at hfr
    cases hfr with
    |flat hf=>simp[flat]at hf
    |func h1 h2 h3 h4=>
     rename_i a' c';have hl:gY ρ (fa.toList++evs e args++fc.toList) (a'++args0.map a.eval++c').toList:=by simp only[Array.toList_append];exact((gY.of_array h1 h2).append (by simpa using nW he ha)).append (gY.of_array h3 h4)
     obtain⟨⟨fn,c,hf,hn,hb⟩,hcalls⟩:=hcall _ _ _ _ _ _ _ _ _ h ρ V w B F _ hl hF hag hm hfree
     have hr:(execOp a.eval ⟨dst,.call ⟨.value f,args0,ts⟩,ty,pos,after,guard⟩).run P w=.ok (.enter g (a'++args0.map a.eval++c')) w:=by have h1:(execOp a.eval ⟨dst,.call ⟨.value f,args0,ts⟩,ty,pos,after,guard⟩)=(do let d <-Deferred.ofValue (a.eval f) (args0.map a.eval);invoke d.target d.args):=rfl;rw[h1,hfe];exact uj hf hn hb
     rw[hr,Oper.upon_enter];refine hcalls.mono λe' w' hh=>?_;obtain⟨ρ',v',rfl,hv,hp⟩:=hh;exact hk v' ρ' w' hv hp
   ·cases h
 ·obtain⟨nx,w',ρ',hr,hv,hp⟩:=FU ⟨λf args e=>hc (.inl ⟨f,args,e⟩),λy args e=>hc (.inr ⟨y,args,e⟩)⟩ hchk he h hm (hag.sub hF) hfree;unfold Oper.wp;rw[hr];rcases hv with⟨v',rfl,hv⟩|⟨rfl,rfl⟩
  ·exact hk v' ρ' w' hv hp
  ·exact hk undef ρ' w' (.undef _) hp
def pq:AT->Option Bool
 | .bool b=>some b
 |_=>none
theorem mK{Γ:Ctx}{e:List AT}{tmps:Array AT}{ops:Array Oper}{o:Oper}{j gi g:Nat}{gw ww:Bool}(he:gZ ρ Γ e tmps)(hg:o.guard=some (j,ww))(hj:(ops[j]?).bind (·.dst)=some g)(hn:named Γ gi g=true)(hw:ww=gw):
  TN o (yielded ops tmps)=ia gw (iA e gi):=by
 subst hw;obtain⟨x,y,h1,h2,h3⟩:=he gi g hn;have hy:yielded ops tmps j=pq y:=by unfold yielded;rw[hj];simp only[Option.bind_some,h2];cases y<;>rfl
 unfold TN;rw[hg];simp only;rw[hy,ux,h1];show _=ia ww x
 cases h3 with
 |flat hf=>cases x<;>simp[ia,pq];rename_i b;cases b<;>cases ww<;>rfl
 |ptr _=>simp[ia,pq]
 |slice _ _ _ _ _=>simp[ia,pq]
 |map _=>simp[ia,pq]
 |opq=>simp[ia,pq]
 |vag=>simp[ia,pq]
 |func _ _ _ _=>simp[ia,pq]
 |agg _ _=>simp[ia,pq]
 |tuple _ _=>simp[ia,pq]
theorem ri(a:VX)(d:Option Tmp)(v:AT):(a.put d v).tmps.size=a.tmps.size:=by cases d<;>simp[Act.put]
variable{D:List Deferred}
theorem put_defers(a:VX)(d:Option Tmp)(v:AT):(a.put d v).defers=a.defers:=by cases d<;>rfl
def pf(B:Nat)(ρ:Ren)(V:Nat->Option Blk)(w:SE)(n:Nat)(m':μ)(n' W nt:Nat)(D:List Deferred)(Γ:Ctx)(e:List AT):Xb->VX->SE->Prop:=λex a' w'=>∃ρ',ex=.normal/\a'.defers=D/\a'.tmps.size=nt/\gZ ρ' Γ e a'.tmps/\Post ρ V w B n m' n' W ρ' w'
omit [AMem μ] in
theorem zF{nt:Nat}{ops:Array Oper}{Γ Γ':Ctx}{o:Oper}{i:AI}(h:uP P nt ops Γ o i=some Γ'):
  (∃k d t,i=.nop k/\o.guard=none/\o.dst=some d/\(o.op=.move (.tmp t)\/o.op=.assign (.tmp t))/\named Γ k t=true/\d<nt/\Γ'=CS d (tI d Γ) k)\/
  (∃x d,i=.op x/\o.guard=none/\o.dst=some d/\jI P Γ o.op x=true/\d<nt/\Γ'=[d]::tI d Γ)\/
  (∃x gi gw j ww d g,i=.opg x gi gw/\o.guard=some (j,ww)/\o.dst=some d/\(ops[j]?).bind (·.dst)=some g/\jI P Γ o.op x=true/\d<nt/\ww=gw/\named Γ gi g=true/\Γ'=[d]::tI d Γ)\/
  (∃x,i=.eff x/\o.guard=none/\o.dst=none/\jI P Γ o.op x=true/\Γ'=Γ)\/
  (∃x gi gw j ww g,i=.effg x gi gw/\o.guard=some (j,ww)/\o.dst=none/\(ops[j]?).bind (·.dst)=some g/\jI P Γ o.op x=true/\ww=gw/\named Γ gi g=true/\Γ'=Γ):=by
 cases i with
 |nop k=>
  left;simp only[uP]at h;split at h
  ·rename_i d t h1 h2 h3;cases hc:(named Γ k t&&Te d nt)
   ·rw[hc,cond_false]at h;cases h
   ·rw[hc,cond_true]at h;injection h with h
    rw[No,UI]at hc;exact⟨k,d,t,rfl,h1,h2,.inl h3,hc.1,hc.2,h.symm⟩
  ·rename_i d t h1 h2 h3;cases hc:(named Γ k t&&Te d nt)
   ·rw[hc,cond_false]at h;cases h
   ·rw[hc,cond_true]at h;injection h with h
    rw[No,UI]at hc;exact⟨k,d,t,rfl,h1,h2,.inr h3,hc.1,hc.2,h.symm⟩
  ·cases h
 |op x=>
  right;left;simp only[uP]at h;split at h
  ·rename_i d h1 h2;cases hc:(jI P Γ o.op x&&Te d nt)
   ·rw[hc,cond_false]at h;cases h
   ·rw[hc,cond_true]at h;injection h with h
    rw[No,UI]at hc;exact⟨x,d,rfl,h1,h2,hc.1,hc.2,h.symm⟩
  ·cases h
 |opg x gi gw=>
  right;right;left;simp only[uP]at h;split at h
  ·rename_i j ww d h1 h2;split at h
   ·rename_i g h3;cases hc:(jI P Γ o.op x&&Te d nt&&ww==gw&&named Γ gi g)
    ·rw[hc,cond_false]at h;cases h
    ·rw[hc,cond_true]at h;injection h with h
     simp only[No,UI,beq_iff_eq]at hc;exact⟨x,gi,gw,j,ww,d,g,rfl,h1,h2,h3,hc.1.1.1,hc.1.1.2,hc.1.2,hc.2,h.symm⟩
   ·cases h
  ·cases h
 |eff x=>
  right;right;right;left;simp only[uP]at h;split at h
  ·rename_i h1 h2;cases hc:jI P Γ o.op x
   ·rw[hc,cond_false]at h;cases h
   ·rw[hc,cond_true]at h;injection h with h
    exact⟨x,rfl,h1,h2,hc,h.symm⟩
  ·cases h
 |effg x gi gw=>
  right;right;right;right;simp only[uP]at h;split at h
  ·rename_i j ww h1 h2;split at h
   ·rename_i g h3;cases hc:(jI P Γ o.op x&&ww==gw&&named Γ gi g)
    ·rw[hc,cond_false]at h;cases h
    ·rw[hc,cond_true]at h;injection h with h
     simp only[No,beq_iff_eq]at hc;exact⟨x,gi,gw,j,ww,g,rfl,h1,h2,h3,hc.1.1,hc.1.2,hc.2,h.symm⟩
   ·cases h
  ·cases h
omit [AMem μ] in
theorem kh{ops:Array Oper}{Q:Xb->VX->SE->Prop}{i:Nat}{l:List Nat}{a:VX}{o:Oper}(ho:ops[i]?=some o):
  wpOps P ops Q (i::l) a w=if TN o (yielded ops a.tmps)then o.wp P a w (wpOps P ops Q l) Q\/(o.asks P a w/\LetsOut Q)else wpOps P ops Q l (a.put o.dst undef) w:=by
 show(match ops[i]? with|none=>_|some o=>_)=_;rw[ho]
omit [AMem μ] in
theorem Jy{o:Oper}{a:VX}{n n':VX->SE->Prop}{Q Q':Xb->VX->SE->Prop}(hn:∀a w,n a w->n' a w)(hq:∀e a w,Q e a w->Q' e a w){x:Result Next}(h:o.upon P a n Q x):o.upon P a n' Q' x:=by
 unfold Oper.upon at h ⊢;split at h
 ·exact hn _ _ h
 ·exact hn _ _ h
 ·exact hn _ _ h
 ·refine h.mono λe w hh=>?_
  cases e with
  |returned v=>exact hn _ _ hh
  |panicked c=>exact hq _ _ _ hh
  |outgrown=>obtain⟨a1,w1,hh⟩:=hh;exact⟨a1,w1,hq _ _ _ hh⟩
 ·exact h.mono λv w hh=>hn _ _ hh
 ·exact hq _ _ _ h
 ·exact h.elim
omit [AMem μ] in
theorem tE{ops:Array Oper}{Q Q':Xb->VX->SE->Prop}(hq:∀e a w,Q e a w->Q' e a w):∀(l:List Nat) (a:VX) (w:SE),wpOps P ops Q l a w->wpOps P ops Q' l a w
 |[],a,w,h=>hq _ _ _ h
 |i::l,a,w,h=>by
  have ih:=tE (ops:=ops) hq l
  cases ho:ops[i]? with
  |none=>
   have e:∀Q:Xb->VX->SE->Prop,wpOps P ops Q (i::l) a w=wpOps P ops Q l a w:=by intro Q;show(match ops[i]? with|none=>_|some o=>_)=_;rw[ho]
   rw[e]at h ⊢;exact ih _ _ h
  |some o=>
   rw[kh ho]at h ⊢;split at h
   ·rename_i hw;rw[if_pos hw];rcases h with h|⟨h1,a1,w1,h2⟩
    ·exact .inl (Jy ih hq h)
    ·exact .inr ⟨h1,a1,w1,hq _ _ _ h2⟩
   ·rename_i hw;rw[if_neg hw];exact ih _ _ h
theorem Ir{rec:Nat->List AT->μ->Nat->OR μ}{nt:Nat}{ops:Array Oper}(hcall:iw P rec)(hloc:il rec){Γe:Ctx}:
  ∀(l:List AI) (os:List Oper) (k:Nat) (Γ:Ctx) (e:List AT) (m:μ) (n r0 w0:Nat) (X:AX) (e':List AT) (m':μ) (n' r wm:Nat),ops.toList.drop k=os->rN P nt ops os Γ l=some Γe->
   lj P rec l e m n r0 w0=.ok X e' m' n' r wm->
   X=.norm/\∃W,wm=OF w0 W/\Loc m n m' n' W/\∀(ρ:Ren) (V:Nat->Option Blk) (w:SE) (B F:Nat) (a:VX),a.defers=D->a.tmps.size=nt->gZ ρ Γ e a.tmps->Sub (OF r wm) F->iX V m n F->MRel ρ V w B->lN ρ n->
    wpOps P ops (pf B ρ V w n m' n' W nt D Γe e') (TX k os.length) a w
 |[],os,k,Γ,e,m,n,r0,w0,X,e',m',n',r,wm,hos,hchk,h=>by
  obtain⟨rfl,rfl,rfl,rfl,rfl,rfl⟩:=pO h
  cases os with
  |cons o os=>cases hchk
  |nil=>
   injection hchk with hchk;subst hchk
   refine⟨rfl,0,(ju _).symm,Loc.refl _ _,λρ V w B F a hd hs he _ _ hm _=>?_⟩;exact⟨ρ,rfl,hd,hs,he,Post.same hm _ _⟩
 |i::l,os,k,Γ,e,m,n,r0,w0,X,e',m',n',r,wm,hos,hchk,h=>by
  cases os with
  |nil=>cases hchk
  |cons o os=>
   simp only[rN]at hchk
   cases hai:uP P nt ops Γ o i with
   |none=>rw[hai]at hchk;cases hchk
   |some Γ1=>
    rw[hai]at hchk;simp only at hchk;have hok:ops[k]?=some o:=by have:=congrArg (λl:List Oper=>l[0]?) hos;simpa using this
    have hos':ops.toList.drop (k+1)=os:=by have:=congrArg List.tail hos;simpa using this
    have ih:=Ir (nt:=nt) (ops:=ops) (Γe:=Γe) hcall hloc l os (k+1) Γ1;have hrange:TX k (o::os).length=k::TX (k+1) os.length:=by simp[List.range'_succ]
    have quiet:∀{e2:List AT},lj P rec l e2 m n r0 w0=.ok X e' m' n' r wm->(∀(ρ:Ren) (w:SE) (a:VX),a.defers=D->a.tmps.size=nt->gZ ρ Γ e a.tmps->∀(Q:Xb->VX->SE->Prop),(∀a2:VX,a2.defers=D->a2.tmps.size=nt->gZ ρ Γ1 e2 a2.tmps->wpOps P ops Q (TX (k+1) os.length) a2 w)->wpOps P ops Q (k::TX (k+1) os.length) a w)->
      X=.norm/\∃W,wm=OF w0 W/\Loc m n m' n' W/\∀(ρ:Ren) (V:Nat->Option Blk) (w:SE) (B F:Nat) (a:VX),a.defers=D->a.tmps.size=nt->gZ ρ Γ e a.tmps->Sub (OF r wm) F->iX V m n F->MRel ρ V w B->lN ρ n->
       wpOps P ops (pf B ρ V w n m' n' W nt D Γe e') (TX k (o::os).length) a w:=by
     intro e2 h hq;obtain⟨hX,W,hW,hl,hwp⟩:=ih _ _ _ _ _ _ _ _ _ _ _ hos' hchk h;refine⟨hX,W,hW,hl,λρ V w B F a hd hs he hF hag hm hfree=>?_⟩;rw[hrange];exact hq ρ w a hd hs he _ λa2 hd2 hs2 he2=>hwp ρ V w B F a2 hd2 hs2 he2 hF hag hm hfree
    have loud:∀{x:AOp} {e2:AT->List AT},jI P Γ o.op x=true->(kS (gV P rec e m n x) λv m n r' w'=>lj P rec l (e2 v) m n (OF r0 r') (OF w0 w'))=.ok X e' m' n' r wm->
      (∀(ρ:Ren) (a:VX) (v v':AT),VRel ρ v v'->a.tmps.size=nt->gZ ρ Γ e a.tmps->gZ ρ Γ1 (e2 v) (a.put o.dst v').tmps)->
      X=.norm/\∃W,wm=OF w0 W/\Loc m n m' n' W/\∀(ρ:Ren) (V:Nat->Option Blk) (w:SE) (B F:Nat) (a:VX),a.defers=D->a.tmps.size=nt->gZ ρ Γ e a.tmps->Sub (OF r wm) F->iX V m n F->MRel ρ V w B->lN ρ n->
       o.wp P a w (wpOps P ops (pf B ρ V w n m' n' W nt D Γe e') (TX (k+1) os.length)) (pf B ρ V w n m' n' W nt D Γe e'):=by
     intro x e2 hx h hput;obtain⟨v,m1,n1,r1,w1,h1,h2⟩:=us h;have l1:=ud (P:=P) hloc h1;obtain⟨hX,W,hW,hl,hwp⟩:=ih _ _ _ _ _ _ _ _ _ _ _ hos' hchk h2;obtain⟨r2,w2,hr2,hw2,_⟩:=yV (P:=P) hloc _ _ _ _ _ _ _ _ _ _ _ _ h2;refine⟨hX,OF w1 W,by rw[hW,jZ],l1.trans hl,λρ V w B F a hd hs he hF hag hm hfree=>?_⟩;have hsub:Sub (OF r1 w1) F:=by refine Sub.trans ?_ hF;rw[hr2,hw2];exact Sub.lor (Sub.trans (Sub.trans (Sub.right r0 r1) (Sub.left _ r2)) (Sub.left _ _)) (Sub.trans (Sub.trans (Sub.right w0 w1) (Sub.left _ w2)) (Sub.right _ _))
     refine yW hcall hx he h1 hsub hm hag hfree λv' ρ' w' hv hp=>?_;have hrest:=hwp ρ' (upd V w1 m1) w' B F (a.put o.dst v') (by rw[put_defers];exact hd) (by rw[ri];exact hs) (hput ρ' a v v' hv hs (he.mono hp.le)) hF (hag.step l1) hp.mrel (hfree.next hp);have mono:∀(js:List Nat) (a2:VX) (w2:SE),wpOps P ops (pf B ρ' (upd V w1 m1) w' n1 m' n' W nt D Γe e') js a2 w2->wpOps P ops (pf B ρ V w n m' n' (OF w1 W) nt D Γe e') js a2 w2:=by intro js a2 w2 hh;refine tE (λex a3 w3 hq=>?_) js a2 w2 hh;obtain⟨ρ2,e1,e2,e3,e4,e5⟩:=hq;exact⟨ρ2,e1,e2,e3,e4,hp.trans e5 hl⟩
     exact mono _ _ _ hrest
    have range:=hrange;rcases zF hai with⟨j,d,t,rfl,hg,hd,hop,hn,hlt,rfl⟩|⟨x,d,rfl,hg,hd,hx,hlt,rfl⟩|⟨x,gi,gw,j,ww,d,g,rfl,hg,hd,hj,hx,hlt,hw,hn,rfl⟩|⟨x,rfl,hg,hd,hx,rfl⟩|⟨x,gi,gw,j,ww,g,rfl,hg,hd,hj,hx,hw,hn,rfl⟩
    ·
     refine quiet (e2:=e) h λρ w a hd0 hs he Q hrest=>?_;rw[kh hok,if_pos (by unfold TN;rw[hg])];refine .inl ?_;have hr:(execOp a.eval o).run P w=.ok (.value (a.eval (.tmp t))) w:=by unfold execOp;rcases hop with hop|hop<;>rw[hop]<;>rfl
     unfold Oper.wp;rw[hr,Oper.upon_value,hd];exact hrest _ hd0 (by rw[ri];exact hs) (he.alias hn (by rw[hs];exact hlt))
    ·
     obtain⟨hX,W,hW,hl,hwp⟩:=loud (e2:=λv=>v::e) hx h (λρ a v v' hv hs he=>by rw[hd];exact he.push hv (by rw[hs];exact hlt));refine⟨hX,W,hW,hl,λρ V w B F a hd0 hs he hF hag hm hfree=>?_⟩;rw[hrange,kh hok,if_pos (by unfold TN;rw[hg])];exact .inl (hwp ρ V w B F a hd0 hs he hF hag hm hfree)
    ·
     replace h:cond (ia gw (iA e gi)) (kS (gV P rec e m n x) λv m n r' w'=>lj P rec l (v::e) m n (OF r0 r') (OF w0 w')) (lj P rec l (undef::e) m n r0 w0)=.ok X e' m' n' r wm:=h;cases hwt:ia gw (iA e gi)
     ·rw[hwt,cond_false]at h;refine quiet (e2:=undef::e) h λρ w a hd0 hs he Q hrest=>?_;rw[kh hok,if_neg (by rw[mK he hg hj hn hw,hwt];simp),hd];exact hrest _ hd0 (by rw[ri];exact hs) (he.push (.undef ρ) (by rw[hs];exact hlt))
     ·rw[hwt,cond_true]at h;obtain⟨hX,W,hW,hl,hwp⟩:=loud (e2:=λv=>v::e) hx h (λρ a v v' hv hs he=>by rw[hd];exact he.push hv (by rw[hs];exact hlt));refine⟨hX,W,hW,hl,λρ V w B F a hd0 hs he hF hag hm hfree=>?_⟩;rw[hrange,kh hok,if_pos (by rw[mK he hg hj hn hw,hwt])];exact .inl (hwp ρ V w B F a hd0 hs he hF hag hm hfree)
    ·
     obtain⟨hX,W,hW,hl,hwp⟩:=loud (e2:=λ_=>e) hx h (λρ a v v' hv hs he=>by rw[hd];exact he);refine⟨hX,W,hW,hl,λρ V w B F a hd0 hs he hF hag hm hfree=>?_⟩;rw[hrange,kh hok,if_pos (by unfold TN;rw[hg])];exact .inl (hwp ρ V w B F a hd0 hs he hF hag hm hfree)
    ·
     replace h:cond (ia gw (iA e gi)) (kS (gV P rec e m n x) λv m n r' w'=>lj P rec l e m n (OF r0 r') (OF w0 w')) (lj P rec l e m n r0 w0)=.ok X e' m' n' r wm:=h;cases hwt:ia gw (iA e gi)
     ·rw[hwt,cond_false]at h;refine quiet (e2:=e) h λρ w a hd0 hs he Q hrest=>?_;rw[kh hok,if_neg (by rw[mK he hg hj hn hw,hwt];simp),hd];exact hrest _ hd0 hs he
     ·rw[hwt,cond_true]at h;obtain⟨hX,W,hW,hl,hwp⟩:=loud (e2:=λ_=>e) hx h (λρ a v v' hv hs he=>by rw[hd];exact he);refine⟨hX,W,hW,hl,λρ V w B F a hd0 hs he hF hag hm hfree=>?_⟩;rw[hrange,kh hok,if_pos (by rw[mK he hg hj hn hw,hwt])];exact .inl (hwp ρ V w B F a hd0 hs he hF hag hm hfree)
end
section
variable{μ:Type}[AMem μ]{P:SZ}
def Jm(μ:Type)[AMem μ](P:SZ):Prop:=
 ∀(rec:Nat->List AT->μ->Nat->OR μ) (nt:Nat) (ops:Array Oper) (bs:List Nat) (l:List AI) (Γ Γe:Ctx) (e:List AT) (m:μ) (n:Nat) (X:AX) (e':List AT) (m':μ) (n' r wm:Nat),iw P rec->il rec->ur ops bs=true->
  rN P nt ops ops.toList Γ l=some Γe->jY P rec l bs 0 [] e m n 0 0=.ok X e' m' n' r wm->
  X=.norm/\∀{D:List Deferred} (ρ:Ren) (V:Nat->Option Blk) (w:SE) (B F:Nat) (a:VX),a.defers=D->a.tmps.size=nt->gZ ρ Γ e a.tmps->Sub (OF r wm) F->iX V m n F->MRel ρ V w B->lN ρ n->
   wpAny P .any ops (pf B ρ V w n m' n' wm nt D Γe e') ops.size (TS ops.size false) a w
def Ends(P:SZ)(res:Array ResultVar)(ctx:List (Nat×Ctx))(Γo:Option Ctx)(ρ:Ren)(e:List AT)(a:VX)(w:SE):AX->Xb->Prop
 | .norm,ex=>ex=.normal/\∃Γ,Γo=some Γ/\gZ ρ Γ e a.tmps
 | .exit id,ex=>ex=.exit id/\∃Γ,A9 ctx id=some Γ/\gZ ρ Γ e a.tmps
 | .ret v,ex=>ex=.ret/\∃v',(∀fn:Func,fn.results=res->(results fn a.tmps).run P w=.ok v' w)/\VRel ρ v v'
def Leaves(P:SZ)(res:Array ResultVar)(ctx:List (Nat×Ctx))(Γo:Option Ctx)(nt:Nat)(D:List Deferred)(B:Nat)(ρ:Ren)(V:Nat->Option Blk)(w:SE)(n:Nat)(m':μ)(n' W:Nat)(X:AX)(e:List AT):Xb->VX->SE->Prop:=λex a' w'=>∃ρ',a'.defers=D/\a'.tmps.size=nt/\Post ρ V w B n m' n' W ρ' w'/\Ends P res ctx Γo ρ' e a' w' X ex
def th(μ:Type)[AMem μ](P:SZ)(E:Nat->Option AFn)(Y:Nat->List AT->μ->Nat->OR μ)(k:Nat):Prop:=
 ∀(nt:Nat) (res:Array ResultVar) (x:AC) (c:Code) (ctx:List (Nat×Ctx)) (Γ:Ctx) (Γo:Option Ctx) (e:List AT) (m:μ) (n:Nat) (X:AX) (e':List AT) (m':μ) (n' r wm:Nat),chk P nt res ctx Γ c x=some Γo->exec P E Y k x e m n=.ok X e' m' n' r wm->
  ∀{D:List Deferred} (ρ:Ren) (V:Nat->Option Blk) (w:SE) (B F:Nat) (a:VX),a.defers=D->a.tmps.size=nt->gZ ρ Γ e a.tmps->Sub (OF r wm) F->iX V m n F->MRel ρ V w B->lN ρ n->
   c.wp P (Leaves P res ctx Γo nt D B ρ V w n m' n' wm X e') a w
theorem AK{ρ:Ren}{V:Nat->Option Blk}{w:SE}{B F:Nat}{Γ:Ctx}{e:List AT}{tmps:Array AT}{m:μ}{n:Nat}(he:gZ ρ Γ e tmps)(hm:MRel ρ V w B)(hag:iX V m n F):
  ∀(rs:List ResultVar) (l:List ROp) (vs:List AT) (r:Nat),mG P Γ rs l=true->pX e m n l=some (vs,r)->Sub r F->
   ∃vs',gY ρ vs vs'/\(rs.mapM (m:=Sem) fun | .tmp t=>pure (tmps.getD t undef) | .cell a t=>do loadVar t (<-asAddr (tmps.getD a undef))).run P w=.ok vs' w
 |[],[],vs,r,_,h,_=>by injection h with h;injection h with h1 h2;subst h1;exact⟨[],.nil ρ,rfl⟩
 |x::rs,[],vs,r,h,_,_=>by cases x<;>simp[mG]at h
 |[],y::l,vs,r,h,_,_=>by simp[mG]at h
 |x::rs,y::l,vs,r,hok,h,hF=>by
  have h:Option.rec (motive:=λ_=>Option (List AT×Nat)) none (λp=>BU e m n p.1 p.2 y) (pX e m n l)=some (vs,r):=h
  cases hr:pX e m n l with
  |none=>rw[hr]at h;cases h
  |some p=>
   obtain⟨vs1,r1⟩:=p;rw[hr]at h;replace h:BU e m n vs1 r1 y=some (vs,r):=h
   have key:∀(hrest:mG P Γ rs l=true) (hsub:Sub r1 F) (v v':AT),vs=v::vs1->VRel ρ v v'->((fun | .tmp t=>pure (tmps.getD t undef) | .cell a t=>do loadVar t (<-asAddr (tmps.getD a undef)):ResultVar->Sem AT) x).run P w=.ok v' w->
     ∃vs',gY ρ vs vs'/\((x::rs).mapM (m:=Sem) fun | .tmp t=>pure (tmps.getD t undef) | .cell a t=>do loadVar t (<-asAddr (tmps.getD a undef))).run P w=.ok vs' w:=by
    intro hrest hsub v v' hvs hv hrun;obtain⟨vs',h1,h2⟩:=AK he hm hag rs l vs1 r1 hrest hr hsub;refine⟨v'::vs',by rw[hvs];exact .cons hv h1,?_⟩;rw[List.mapM_cons];simp only[SU]at hrun ⊢;rw[hrun];simp only[Result.andThen_ok,h2];rfl
   have cellf:∀(a i:Nat) (t:Nat) (b o:Nat) (f:List AT->Option AT) (v:AT),named Γ i a=true->iA e i=.pointer (some ⟨b,o,none⟩)->Sd vs1 r1 b f (jc m n b)=some (vs,r)->
     (∀c p v sz opn wr,jc m n b=some (.cells c sz opn wr)->ρ b=some p->F.testBit b=true->f c=some v->∃v',(loadVar t ⟨p.blk,p.base+o,none⟩).run P w=.ok v' w/\VRel ρ v v')->
     Sub r1 F/\∃v v',vs=v::vs1/\VRel ρ v v'/\(do loadVar t (<-asAddr (tmps.getD a undef)):Sem AT).run P w=.ok v' w:=by
    intro a i t b o f v hn hl hc hld
    cases hg:jc m n b with
    |none=>rw[hg]at hc;cases hc
    |some O=>
     cases O with
     |map es=>rw[hg]at hc;cases hc
     |cells c sz opn wr=>
     rw[hg]at hc;replace hc:Option.rec (motive:=λ_=>Option (List AT×Nat)) none (λv=>some (v::vs1,OF r1 (bit b))) (f c)=some (vs,r):=hc
     cases hf:f c with
     |none=>rw[hf]at hc;cases hc
     |some v=>
      rw[hf]at hc;replace hc:some (v::vs1,OF r1 (bit b))=some (vs,r):=hc;injection hc with hc;injection hc with h1 h2;subst h1 h2
      obtain⟨x1,y1,g1,g2,g3⟩:=he i a hn;rw[ux,g1]at hl;replace hl:x1=.pointer (some ⟨b,o,none⟩):=hl;subst hl
      cases g3 with
      |flat hf=>simp[flat]at hf
      |ptr hp=>rename_i p;obtain⟨v',hr',hv⟩:=hld c p v sz opn wr hg hp (hF b (by rw[gv,gx];simp)) hf;refine⟨Sub.trans (Sub.left _ _) hF,v,v',rfl,hv,?_⟩;rw[Tp,g2];simp[asAddr,hr']
   cases y with
   |v i=>
    cases x with
    |cell a t=>simp[mG]at hok
    |tmp t=>
     simp only[mG,No]at hok;injection h with h;injection h with h1 h2
     obtain⟨x1,y1,g1,g2,g3⟩:=he i t hok.1;refine key hok.2 (by rw[h2];exact hF) x1 y1 ?_ g3 ?_
     ·rw[<-h1,ux,g1];rfl
     ·show Result.ok _ w=_;rw[Tp,g2];rfl
   |cell i=>
    cases x with
    |tmp t=>simp[mG]at hok
    |cell a t=>
     simp only[mG,No,beq_iff_eq]at hok;replace h:yN m n vs1 r1 (λo c=>lC c o) (iA e i)=some (vs,r):=h;unfold yN at h;split at h
     ·rename_i b o hl
      obtain⟨hs,v,v',h1,h2,h3⟩:=cellf a i t b o _ undef hok.1.1 hl h (λc p v sz opn wr hg hp hFb hf=>by
       replace hf:lC c o=some v:=hf;rw[kD]at hf;obtain⟨_,hb⟩:=ji hm hag hFb hg hp;obtain⟨y',hy,hr⟩:=nP hb hf
       exact⟨y',by simp[loadVar,mN hok.1.2,hy],hr⟩)
      exact key hok.2 hs v v' h1 h2 h3
     ·cases h
   |cells i k=>
    cases x with
    |tmp t=>simp[mG]at hok
    |cell a t=>
     simp only[mG,No,beq_iff_eq]at hok;replace h:yN m n vs1 r1 (λo c=>uW (je c o k)) (iA e i)=some (vs,r):=h;unfold yN at h;split at h
     ·rename_i b o hl;obtain⟨ti,hti,hts⟩:=kf hok.1.2
      obtain⟨hs,v,v',h1,h2,h3⟩:=cellf a i t b o _ undef hok.1.1.1 hl h (λc p v sz opn wr hg hp hFb hf=>by
       replace hf:uW (je c o k)=some v:=hf;obtain⟨cl,hcl,rfl⟩:=vW hf;obtain⟨_,hb⟩:=ji hm hag hFb hg hp;obtain⟨l',hr,hlen,hcell⟩:=oE hb hcl;have:=run_loadCells_list (P:=P) w ⟨p.blk,p.base+o,none⟩ l' (λj v hv=>(hcell j v hv).2);rw[hlen]at this
       exact⟨.agg l'.toArray,by simp[loadVar,mN hok.1.1.2,run_sizeOf hti,hts,this],hr.agg⟩)
      exact key hok.2 hs v v' h1 h2 h3
     ·cases h
theorem tu{ρ:Ren}{V:Nat->Option Blk}{w:SE}{B F:Nat}{Γ:Ctx}{e:List AT}{tmps:Array AT}{m:μ}{n r:Nat}{res:Array ResultVar}{l:List ROp}{vs:List AT}(he:gZ ρ Γ e tmps)(hm:MRel ρ V w B)(hag:iX V m n F)
  (hok:mG P Γ res.toList l=true) (h:pX e m n l=some (vs,r)) (hF:Sub r F):∃v',(∀fn:Func,fn.results=res->(results fn tmps).run P w=.ok v' w)/\VRel ρ (yM vs) v':=by
 obtain⟨vs',hr,hrun⟩:=AK he hm hag res.toList l vs r hok h hF;have hex:∃v',VRel ρ (yM vs) v'/\v'=(if h:vs'.toArray.size=1 then vs'.toArray[0]else .tuple vs'.toArray):=by refine gY.cases (P:=λvs vs'=>∃v',VRel ρ (yM vs) v'/\v'=(if h:vs'.toArray.size=1 then vs'.toArray[0]else .tuple vs'.toArray)) hr ⟨_,.tuple rfl (λi x y h=>by simp at h),rfl⟩ ?_;intro x y l l' hxy hl;refine gY.cases (P:=λl l'=>∃v',VRel ρ (yM (x::l)) v'/\v'=(if h:(y::l').toArray.size=1 then(y::l').toArray[0]else .tuple (y::l').toArray)) hl ⟨y,hxy,by simp⟩ ?_;intro x2 y2 l2 l2' h2 hl2;exact⟨_,(gY.cons hxy (.cons h2 hl2)).tuple,by simp⟩
 obtain⟨v',hv,he'⟩:=hex;refine⟨v',λfn hfn=>?_,hv⟩;unfold results;rw[hfn,Array.mapM_eq_mapM_toList];simp only[SU,Sem.run_map,Sem.run_pure]
 erw [hrun]
 simp only[Result.andThen_ok];rw[he']
theorem Leaves.map{res:Array ResultVar}{ctx:List (Nat×Ctx)}{Γo Γo':Option Ctx}{nt:Nat}{D:List Deferred}{B:Nat}{ρ ρ1:Ren}{V:Nat->Option Blk}{w w1:SE}{n n1:Nat}{m1 m':μ}{n' W1 W:Nat}{X:AX}{e:List AT}{ex:Xb}{a':VX}{w':SE}
  (hp:Post ρ V w B n m1 n1 W1 ρ1 w1) (l:Loc m1 n1 m' n' W) (h:Leaves P res ctx Γo nt D B ρ1 (upd V W1 m1) w1 n1 m' n' W X e ex a' w') (hE:∀ρ',Ends P res ctx Γo ρ' e a' w' X ex->Ends P res ctx Γo' ρ' e a' w' X ex):
  Leaves P res ctx Γo' nt D B ρ V w n m' n' (OF W1 W) X e ex a' w':=by
 obtain⟨ρ',h1,h2,h3,h4⟩:=h;exact⟨ρ',h1,h2,hp.trans h3 l,hE ρ' h4⟩
theorem qD(n:Nat):bit n=2 ^ n:=by unfold bit;show 1 <<< n=_;rw[Nat.one_shiftLeft]
theorem oh(x n b:Nat):(SL x (bit n)).testBit b=(decide (b<n)&&x.testBit b):=by rw[qD];exact Nat.testBit_mod_two_pow x n b
theorem iO{x n:Nat}(h:SL x (bit n)=0):∀b,b<n->x.testBit b=false:=by intro b hb;have h1:=oh x n b;rw[h]at h1;simpa[hb]using h1.symm
theorem zJ{E:Nat->Option AFn}{Y:Nat->List AT->μ->Nat->OR μ}(hY:il Y)(hYs:iw P Y){k:Nat}(hE:∀f af,E f=some af->∃fn,P.funcs[f]?=some fn/\zE P fn af=true)(hk:th μ P E Y k):iw P (im (μ:=μ) E Y (exec P E Y k)):=by
 intro f args m n v m' n' r wm h ρ V w B F args' hargs hF hag hm hfree;unfold im at h
 cases hEf:E f with
 |none=>rw[hEf]at h;exact hYs _ _ _ _ _ _ _ _ _ h ρ V w B F args' hargs hF hag hm hfree
 |some af=>
  rw[hEf]at h;replace h:pR (exec P E Y k) args m n af=.ok v m' n' r wm:=h;unfold pR at h;cases hl:SF (kO args) af.na
  ·rw[hl,cond_false]at h;cases h
  ·rw[hl,cond_true]at h;have hla:args.length=af.na:=by have:=SG hl;rwa [xw]at this
   obtain⟨fn,hfn,hck⟩:=hE f af hEf;unfold zE at hck;split at hck
   ·rename_i c hbody;simp only[No,bne_iff_ne,ne_eq,decide_eq_true_eq]at hck;obtain⟨⟨hname,hna⟩,hck⟩:=hck;refine⟨⟨fn,c,hfn,hname,hbody⟩,?_⟩
    cases hr:exec P E Y k af.code args m n with
    |no=>rw[hr]at h;cases h
    |ok X e1 m1 n1 r1 w1=>
     rw[hr]at h;replace h:lZ af m n e1 m1 n1 r1 w1 X=.ok v m' n' r wm:=h;have l1:=jS (P:=P) (E:=E) (Y:=Y) hY k _ _ _ _ _ _ _ _ _ _ hr;have hsz:args'.size=af.na:=by have:=hargs.1;simp at this;omega
     have henv:gZ ρ (CN af.na) args (args'++TS (fn.ntmps-args'.size) undef):=by
      intro i t hn;obtain⟨l,h1,h2⟩:=iU.1 hn;simp only[CN,To,Option.map_eq_some_iff]at h1;obtain⟨j,hj,rfl⟩:=h1;have hjr:=List.getElem?_eq_some_iff.1 hj;obtain⟨hlt,hje⟩:=hjr;simp at hlt hje;subst hje;have:t=i:=by simpa using h2
      subst this;have hx:args[t]?=some (args[t]'(by omega)):=List.getElem?_eq_getElem _;obtain⟨y,hy,hv⟩:=hargs.get hx;refine⟨_,y,hx,?_,hv⟩;rw[Array.getElem?_append_left (by omega)];simpa using hy
     have hts:(args'++TS (fn.ntmps-args'.size) undef).size=fn.ntmps:=by simp;omega
     have masks:∀{r0:Nat} {v0:AT},iI m n v0 m1 n1 r0 w1=.ok v m' n' r wm->∃F',Sub (OF r0 w1) F'/\iX V m n F':=by
      intro r0 v0 h;unfold iI at h;cases hb:(gy v0&&SF (SL w1 (bit n)) 0)
      ·rw[hb,cond_false]at h;injection h with e1 e2 e3 e4 e5;subst e4 e5;exact⟨F,hF,hag⟩
      ·rw[hb,cond_true,gX]at h;injection h with e1 e2 e3 e4 e5
       rw[No]at hb;refine⟨OF F (OF r0 w1),Sub.right _ _,λb hb1 hb2=>hag b hb1 ?_⟩;rw[gv,gv]at hb2;cases hFb:F.testBit b
       ·have hw:=iO (SG hb.2) b hb1;rw[hFb,hw]at hb2;simp at hb2;have:=hF b (by rw[gv,<-e4,oh,hb2];simp[hb1]);rw[hFb]at this;exact this
       ·rfl
     have leave:∀{r0:Nat} {v0:AT} {ρ':Ren} {w':SE} {v':AT},iI m n v0 m1 n1 r0 w1=.ok v m' n' r wm->VRel ρ' v0 v'->Post ρ V w B n m1 n1 w1 ρ' w'->∃ρ'',VRel ρ'' v v'/\Post ρ V w B n m' n' wm ρ'' w':=by
      intro r0 v0 ρ' w' v' h hv hp;unfold iI at h;cases hb:(gy v0&&SF (SL w1 (bit n)) 0)
      ·rw[hb,cond_false]at h;injection h with e1 e2 e3 e4 e5;subst e1 e2;subst e3 e5;exact⟨ρ',hv,hp⟩
      ·rw[hb,cond_true,gX]at h;injection h with e1 e2 e3 e4 e5;subst e1 e2;subst e3 e5
       rw[No]at hb;have e:=hv.qy hb.1;subst e;have hw:=iO (SG hb.2)
       have same:∀k,k<w.heap.size->w'.heap[k]?=w.heap[k]?:=λk hk=>hp.frame k hk λb p hb1 hb2=>by
        have hbn:b<n:=by
         rcases Yx b n with h1|h1
         ·exact h1
         ·rw[hfree b h1]at hb1;cases hb1
        rw[hw b hbn]at hb2;cases hb2
       refine⟨ρ,kE ρ hb.1,ρ.le_refl,λ_ _ h=>.inl h,?_,hp.below,IN _,λk hk _=>same k hk,λ_ _ h=>.inl h,λb h=>by simp at h⟩;rw[qW];exact⟨λb p O h1 h2=>(hm.blk b p O h1 h2).mono ρ.le_refl (same _ (hm.fresh b p h1)),hm.ij,λb p h1=>TC (hm.fresh b p h1) hp.below.size,Tz hm.le hp.below.size,hm.gl.mono hp.below⟩
     cases hch:chk P fn.ntmps fn.results [] (CN af.na) c af.code with
     |none=>rw[hch]at hck;cases hck
     |some Γo=>
      rw[hch]at hck;have body:∀F',Sub (OF r1 w1) F'->iX V m n F'->c.wp P (Leaves P fn.results [] Γo fn.ntmps [] B ρ V w n m1 n1 w1 X e1) {tmps:=args'++TS (fn.ntmps-args'.size) undef,defers:=[]} w:=λF' hF' hag'=>hk fn.ntmps fn.results af.code c [] (CN af.na) Γo args m n X e1 m1 n1 r1 w1 hch hr ρ V w B F' _ rfl hts henv hF' hag' hm hfree;unfold lZ at h;split at h
      ·
       unfold vH at h;split at h
       ·rename_i vs r' hres;obtain⟨F',hF',hag'⟩:=masks h;refine calls_of_wp hfn hbody (wp_mono (body F' (Sub.trans (Sub.lor (Sub.trans (Sub.left r1 r') (Sub.left _ w1)) (Sub.right _ w1)) hF') hag') λex a' w' hq=>?_);obtain⟨ρ',hd,hs,hp,rfl,Γ',rfl,henv'⟩:=hq;have hck:mG P Γ' fn.results.toList af.endrs=true:=hck;obtain⟨v',hrun,hv⟩:=tu (P:=P) henv' hp.mrel (hag'.step l1) hck hres (Sub.trans (Sub.trans (Sub.right r1 r') (Sub.left _ w1)) hF');obtain⟨ρ'',hv'',hp''⟩:=leave h hv hp;exact⟨hd,v',hrun fn rfl,ρ'',v',rfl,hv'',hp''⟩
       ·cases h
      ·
       rename_i v0;obtain⟨F',hF',hag'⟩:=masks h;refine calls_of_wp hfn hbody (wp_mono (body F' hF' hag') λex a' w' hq=>?_);obtain⟨ρ',hd,hs,hp,rfl,v',hrun,hv⟩:=hq;obtain⟨ρ'',hv'',hp''⟩:=leave h hv hp;exact⟨hd,v',hrun fn rfl,ρ'',v',rfl,hv'',hp''⟩
      ·cases h
   ·cases hck
omit [AMem μ] in
theorem sU{f:List AT->μ->Nat->CR μ}{X1 X:AX}{e1 e':List AT}{m1 m':μ}{n1 n' r1 w1 r wm:Nat}(h:ke f X1 e1 m1 n1 r1 w1=.ok X e' m' n' r wm):
  (X1=.norm/\∃r2 w2,f e1 m1 n1=.ok X e' m' n' r2 w2/\r=OF r1 r2/\wm=OF w1 w2)\/(X1≠.norm/\X=X1/\e'=e1/\m'=m1/\n'=n1/\r=r1/\wm=w1):=by
 unfold ke at h;split at h
 ·obtain⟨r2,w2,h2,e1,e2⟩:=zV h;exact .inl ⟨rfl,r2,w2,h2,e1,e2⟩
 ·rename_i hn;injection h with e1 e2 e3 e4 e5 e6
  exact .inr ⟨hn,e1.symm,e2.symm,e3.symm,e4.symm,e5.symm,e6.symm⟩
theorem Ends.N4{res:Array ResultVar}{ctx:List (Nat×Ctx)}{Γ1 Γo:Option Ctx}{ρ:Ren}{e:List AT}{a:VX}{w:SE}{X:AX}{ex:Xb}(hn:X≠.norm)(h:Ends P res ctx Γ1 ρ e a w X ex):Ends P res ctx Γo ρ e a w X ex/\ex≠.normal:=by
 cases X with
 |norm=>exact absurd rfl hn
 |exit id=>exact⟨h,by rw[h.1];simp⟩
 |ret v=>exact⟨h,by rw[h.1];simp⟩
def Round(P:SZ)(c:Code)(Q:Xb->VX->SE->Prop)(a:VX)(w:SE):Prop:=∀(b:Frame) (k:List Item) (cs:List Frame),∃e a' w',Q e a' w'/\Arrives P (lone (b.at a (.code c::.inLoop c::k)) cs w) b k cs e a' w'
omit [AMem μ] in
theorem Round.mono{c:Code}{Q Q':Xb->VX->SE->Prop}{a:VX}{w:SE}(h:Round P c Q a w)(hq:∀e a w,Q e a w->Q' e a w):Round P c Q' a w:=λb k cs=>let⟨e,a',w',q,r⟩:=h b k cs;⟨e,a',w',hq _ _ _ q,r⟩
omit [AMem μ] in
theorem Dj{c:Code}{Q:Xb->VX->SE->Prop}{a:VX}{w:SE}(h:Round P c Q a w):(Code.loop c).wp P Q a w:=by intro b k cs;obtain⟨e,a',w',hq,harr⟩:=h b k cs;exact⟨e,a',w',hq,.of_steps (.one step_loop) harr⟩
omit [AMem μ] in
theorem DG{c:Code}{Q:Xb->VX->SE->Prop}{a:VX}{w:SE}(h:c.wp P (Exit.then (Round P c Q) Q) a w):Round P c Q a w:=by
 intro b k cs;obtain⟨e,a₁,w₁,hq,harr⟩:=h b (.inLoop c::k) cs
 cases e with
 |normal=>obtain⟨e₂,a₂,w₂,hq₂,harr₂⟩:=hq b k cs;exact⟨e₂,a₂,w₂,hq₂,.of_steps (Steps.trans harr (.one step_inLoop)) harr₂⟩
 |exit id=>exact⟨_,a₁,w₁,hq,.pass (x:=.inLoop c) rfl (λ_ _=>.inl (by simp)) harr⟩
 |goto l=>exact⟨_,a₁,w₁,hq,.pass (x:=.inLoop c) rfl (λ_ _=>.inl (by simp)) harr⟩
 |ret=>exact⟨_,a₁,w₁,hq,.pass (x:=.inLoop c) rfl (λ_ _=>.inl (by simp)) harr⟩
 |panic ch=>exact⟨_,a₁,w₁,hq,.pass (x:=.inLoop c) rfl (λ_ _=>.inl (by simp)) harr⟩
 |outgrown=>exact⟨_,a₁,w₁,hq,.pass (x:=.inLoop c) rfl (λ_ _=>.inl (by simp)) harr⟩
def De(μ:Type)[AMem μ](P:SZ)(E:Nat->Option AFn)(Y:Nat->List AT->μ->Nat->OR μ)(k:Nat):Prop:=
 ∀(nt:Nat) (res:Array ResultVar) (x:AC) (c:Code) (ctx:List (Nat×Ctx)) (Γh:Ctx) (Γb:Option Ctx) (Γo:Option Ctx) (e:List AT) (m:μ) (n:Nat) (X:AX) (e':List AT) (m':μ) (n' r wm:Nat),chk P nt res ctx Γh c x=some Γb->(∀Γ2,Γb=some Γ2->leC Γh Γ2=true)->exec P E Y k (.loop Γh x) e m n=.ok X e' m' n' r wm->
  ∀{D:List Deferred} (ρ:Ren) (V:Nat->Option Blk) (w:SE) (B F:Nat) (a:VX),a.defers=D->a.tmps.size=nt->gZ ρ Γh e a.tmps->Sub (OF r wm) F->iX V m n F->MRel ρ V w B->lN ρ n->
   X≠.norm/\Round P c (Leaves P res ctx Γo nt D B ρ V w n m' n' wm X e') a w
theorem Ny{E:Nat->Option AFn}{Y:Nat->List AT->μ->Nat->OR μ}(hY:il Y){k:Nat}(ih:th μ P E Y k)(ihl:De μ P E Y k):De μ P E Y (k+1):=by
 intro nt res x c ctx Γh Γb Γo e m n X e' m' n' r wm hchk hle h D ρ V w B F a hd hs he hF hag hm hfree;replace h:kq (exec P E Y k x e m n) (ke (exec P E Y k (.loop Γh x)))=.ok X e' m' n' r wm:=h;obtain⟨X1,e1,m1,n1,r1,w1,h1,h2⟩:=jU h;rcases sU h2 with⟨rfl,r2,w2,h3,rfl,rfl⟩|⟨hne,rfl,rfl,rfl,rfl,rfl,rfl⟩
 ·have l1:=jS (P:=P) (E:=E) (Y:=Y) hY k _ _ _ _ _ _ _ _ _ _ h1;have l2:=jS (P:=P) (E:=E) (Y:=Y) hY k _ _ _ _ _ _ _ _ _ _ h3;have hwp:=ih nt res x c ctx Γh Γb e m n .norm e1 m1 n1 r1 w1 hchk h1 ρ V w B F a hd hs he (Sub.trans (Sub.lor (Sub.trans (Sub.left r1 r2) (Sub.left _ _)) (Sub.trans (Sub.left w1 w2) (Sub.right _ _))) hF) hag hm hfree;have next:∀a' w' ρ',a'.defers=D->a'.tmps.size=nt->Post ρ V w B n m1 n1 w1 ρ' w'->(∃Γ2,Γb=some Γ2/\gZ ρ' Γ2 e1 a'.tmps)->X≠.norm/\Round P c (Leaves P res ctx Γo nt D B ρ V w n m' n' (OF w1 w2) X e') a' w':=by intro a' w' ρ' g1 g2 g3 ⟨Γ2,hΓ,g4⟩;obtain⟨q1,q2⟩:=ihl nt res x c ctx Γh Γb Γo e1 m1 n1 X e' m' n' r2 w2 hchk hle h3 ρ' (upd V w1 m1) w' B F a' g1 g2 (g4.le (hle Γ2 hΓ)) (Sub.trans (Sub.lor (Sub.trans (Sub.right r1 r2) (Sub.left _ _)) (Sub.trans (Sub.right w1 w2) (Sub.right _ _))) hF) (hag.step l1) g3.mrel (hfree.next g3);exact⟨q1,q2.mono λex a'' w'' hq=>Leaves.map g3 l2 hq λ_ h=>h⟩
  have hX:X≠.norm:=by intro hX;subst hX;obtain⟨ex,a',w',⟨ρ',g1,g2,g3,_,g4⟩,_⟩:=hwp default [] [];exact(next a' w' ρ' g1 g2 g3 g4).1 rfl
  refine⟨hX,DG (wp_mono hwp λex a' w' hq=>?_)⟩;obtain⟨ρ',g1,g2,g3,rfl,g4⟩:=hq;exact(next a' w' ρ' g1 g2 g3 g4).2
 ·have hwp:=ih nt res x c ctx Γh Γb e m n X e' m' n' r wm hchk h1 ρ V w B F a hd hs he hF hag hm hfree;refine⟨hne,DG (wp_mono hwp λex a' w' hq=>?_)⟩;obtain⟨ρ',g1,g2,g3,g4⟩:=hq;obtain⟨g5,g6⟩:=g4.N4 (Γo:=Γo) hne;have hl:Leaves P res ctx Γo nt D B ρ V w n m' n' wm X e' ex a' w':=⟨ρ',g1,g2,g3,g5⟩;cases ex<;>first|exact hl|exact absurd rfl g6
set_option maxHeartbeats 1000000 in
theorem OM{nt:Nat}{res:Array ResultVar}{ctx:List (Nat×Ctx)}{Γ:Ctx}{Γo:Option Ctx}{c:Code}{c0:Opd}{x y:AC}(hst:¬∃t,c0=.c (.tuple t))(h:chk P nt res ctx Γ c (.cond c0 x y)=some Γo):
  ∃o c1 c2,c=.cond o c1 c2/\cond (gT Γ o c0) (match chk P nt res ctx Γ c1 x,chk P nt res ctx Γ c2 y with
   |some r,some s=>some (acH r s)
   |_,_=>none) none=some Γo:=by
 cases c0 with
 |v i=>cases c<;>simp only[chk,reduceCtorEq]at h<;>exact⟨_,_,_,rfl,h⟩
 |c v=>
  cases v with
  |tuple t=>exact absurd ⟨_,rfl⟩ hst
  |_=>cases c<;>simp only[chk,reduceCtorEq]at h<;>exact⟨_,_,_,rfl,h⟩
theorem uN(hmix:P.follows .mixedOrders=true)(hdraw:Jm μ P){E:Nat->Option AFn}{Y:Nat->List AT->μ->Nat->OR μ}(hY:il Y)(hYs:iw P Y)(hE:∀f af,E f=some af->∃fn,P.funcs[f]?=some fn/\zE P fn af=true):∀k,th μ P E Y k/\De μ P E Y k
 |0=>by refine⟨?_,λnt res x c ctx Γh Γb Γo e m n X e' m' n' r wm hchk hle h=>by cases h⟩;intro nt res x c ctx Γ Γo e m n X e' m' n' r wm hchk h;cases h
 |k+1=>by
  obtain⟨ih,ihl⟩:=uN hmix hdraw hY hYs hE k;have hloop:=Ny hY ih ihl;refine⟨?_,hloop⟩;have hcall:=zJ hY hYs hE ih;have hloc:il (im (μ:=μ) E Y (exec P E Y k)):=λf args m n v m' n' r wm h=>uT hY (jS (P:=P) (E:=E) (Y:=Y) hY k) h;intro nt res x c ctx Γ Γo e m n X e' m' n' r wm hchk h D ρ V w B F a hd hs he hF hag hm hfree;replace h:IM P E Y (exec P E Y k) x e m n=.ok X e' m' n' r wm:=h;have same:∀{Γ0:Ctx},gZ ρ Γ0 e a.tmps->Leaves P res ctx (some Γ0) nt D B ρ V w n m n 0 .norm e .normal a w:=λh0=>⟨ρ,hd,hs,Post.same hm n m,rfl,_,rfl,h0⟩
  cases x with
  |pre sel d x=>
   have hchk:chk P nt res ctx (fixC sel d Γ) c x=some Γo:=by cases c<;>simpa[chk]using hchk
   exact ih nt res x c ctx _ Γo _ m n X e' m' n' r wm hchk h ρ V w B F a hd hs (he.fix sel d) hF hag hm hfree
  |post x sel d=>
   have hchk:acD sel d (chk P nt res ctx Γ c x)=some Γo:=by cases c<;>simpa[chk]using hchk
   obtain⟨X1,e1,m1,n1,r1,w1,h1,h2⟩:=jU h;have sub:∀Γ1,chk P nt res ctx Γ c x=some Γ1->r=r1->wm=w1->c.wp P (Leaves P res ctx Γ1 nt D B ρ V w n m1 n1 w1 X1 e1) a w:=by intro Γ1 hc e1 e2;subst e1 e2;exact ih nt res x c ctx Γ Γ1 e m n X1 _ m1 n1 _ _ hc h1 ρ V w B F a hd hs he hF hag hm hfree
   unfold rz at h2
   cases hc:chk P nt res ctx Γ c x with
   |none=>rw[hc]at hchk;cases hchk
   |some Γ1=>
    rw[hc]at hchk;split at h2
    ·injection h2 with q1 q2 q3 q4 q5 q6
     subst q1 q2;subst q3 q4;refine wp_mono (sub Γ1 hc q5.symm q6.symm) λex a' w' hq=>?_;obtain⟨ρ',g1,g2,g3,rfl,Γ2,rfl,g4⟩:=hq;injection hchk with hchk;subst hchk
     rw[<-q6];exact⟨ρ',g1,g2,g3,rfl,_,rfl,g4.fix sel d⟩
    ·rename_i hne;injection h2 with q1 q2 q3 q4 q5 q6
     subst q1 q2;subst q3 q4;refine wp_mono (sub Γ1 hc q5.symm q6.symm) λex a' w' hq=>?_;obtain⟨ρ',g1,g2,g3,g4⟩:=hq;rw[<-q6];exact⟨ρ',g1,g2,g3,(g4.N4 hne).1⟩
  |skip=>
   cases c<;>simp[chk]at hchk
   all_goals
    subst hchk;injection h with q1 q2 q3 q4 q5 q6
    subst q1 q2;subst q3 q4 q6
   ·exact wp_skip (same he)
   ·exact wp_label (same he)
  |reg l=>
   have hc:∃id ops,c=.region id ops false:=by
    cases c with
    |region id ops draw=>cases draw with
     |false=>exact⟨id,ops,rfl⟩
     |true=>simp[chk]at hchk
    |_=>simp[chk]at hchk
   obtain⟨id,ops,rfl⟩:=hc;simp only[chk,Option.map_eq_some_iff]at hchk;obtain⟨Γe,hch,rfl⟩:=hchk;obtain⟨rfl,W,hW,hl,hwp⟩:=Ir hcall hloc l ops.toList 0 Γ e m n 0 0 X e' m' n' r wm (by simp) hch h;rw[j']at hW;subst hW;refine wp_region ?_;have:=hwp ρ V w B F a hd hs he hF hag hm hfree;rw[show List.range ops.size=TX 0 ops.toList.length by rw[List.range_eq_range'];simp];refine tE (λex a' w' hq=>?_) _ _ _ this;obtain⟨ρ',g1,g2,g3,g4,g5⟩:=hq;exact⟨ρ',g2,g3,g5,g1,Γe,rfl,g4⟩
  |regD l bs=>
   have hc:∃id ops,c=.region id ops true:=by
    cases c with
    |region id ops draw=>cases draw with
     |true=>exact⟨id,ops,rfl⟩
     |false=>simp[chk]at hchk
    |_=>simp[chk]at hchk
   obtain⟨id,ops,rfl⟩:=hc;simp only[chk]at hchk;cases ho:ur ops bs
   ·rw[ho]at hchk;cases hchk
   rw[ho]at hchk;simp only[cond_true,Option.map_eq_some_iff]at hchk;obtain⟨Γe,hch,rfl⟩:=hchk;obtain⟨rfl,hwp⟩:=hdraw _ nt ops bs l Γ Γe e m n X e' m' n' r wm hcall hloc ho hch h;refine wp_mono (wp_region_any hmix (hwp ρ V w.drew B F a hd hs he hF hag hm.drew hfree)) λex a' w' hq=>?_;obtain⟨ρ',g1,g2,g3,g4,g5⟩:=hq;exact⟨ρ',g2,g3,g5.Iy,g1,Γe,rfl,g4⟩
  |seq x y=>
   by_cases hsc:∃c1,c=.scope c1
   ·obtain⟨c1,rfl⟩:=hsc
    have hx:x=.skip:=by
     cases x with
     |skip=>rfl
     |_=>simp[chk]at hchk
    subst hx;replace hchk:chk P nt res ctx Γ c1 y=some Γo:=by simpa[chk]using hchk
    obtain⟨X1,e1,m1,n1,r1,w1,h1,h2⟩:=jU h
    have hk:∃k',k=k'+1:=by
     cases k with
     |zero=>cases h1
     |succ k'=>exact⟨k',rfl⟩
    obtain⟨k',rfl⟩:=hk;have h1:CR.ok .norm e m n 0 0=.ok X1 e1 m1 n1 r1 w1:=h1;injection h1 with q1 q2 q3 q4 q5 q6
    subst q1 q2;subst q3 q4;subst q5 q6;rcases sU h2 with⟨_,r2,w2,h3,rfl,rfl⟩|⟨hne,_⟩
    ·rw[j',j']at *;refine wp_scope_straight (wp_mono (ih nt res y c1 ctx Γ Γo e m n X e' m' n' _ _ hchk h3 ρ V w B F a hd hs he hF hag hm hfree) λex a' w' hq=>?_)
     cases ex with
     |goto l=>
      obtain⟨_,_,_,_,g4⟩:=hq
      cases X with
      |norm=>exact absurd g4.1 (by simp)
      |exit i=>exact absurd g4.1 (by simp)
      |ret v=>exact absurd g4.1 (by simp)
     |_=>exact hq
    ·exact absurd rfl hne
   have hcc:∃c1 c2,c=.seq c1 c2:=by
    cases c with
    |seq c1 c2=>exact⟨_,_,rfl⟩
    |scope c1=>exact absurd ⟨_,rfl⟩ hsc
    |_=>simp[chk]at hchk
   obtain⟨c1,c2,rfl⟩:=hcc;simp[chk]at hchk;obtain⟨X1,e1,m1,n1,r1,w1,h1,h2⟩:=jU h
   cases hc:chk P nt res ctx Γ c1 x with
   |none=>rw[hc]at hchk;cases hchk
   |some Γ1=>
    rw[hc]at hchk
    cases Γ1 with
    |none=>cases hchk
    |some Γ1=>
     replace hchk:chk P nt res ctx Γ1 c2 y=some Γo:=hchk;refine wp_seq ?_;rcases sU h2 with⟨rfl,r2,w2,h3,rfl,rfl⟩|⟨hne,rfl,rfl,rfl,rfl,rfl,rfl⟩
     ·have l1:=jS (P:=P) (E:=E) (Y:=Y) hY k _ _ _ _ _ _ _ _ _ _ h1;have l2:=jS (P:=P) (E:=E) (Y:=Y) hY k _ _ _ _ _ _ _ _ _ _ h3;have hwp:=ih nt res x c1 ctx Γ (some Γ1) e m n .norm e1 m1 n1 r1 w1 hc h1 ρ V w B F a hd hs he (Sub.trans (Sub.lor (Sub.trans (Sub.left r1 r2) (Sub.left _ _)) (Sub.trans (Sub.left w1 w2) (Sub.right _ _))) hF) hag hm hfree;refine wp_mono hwp λex a' w' hq=>?_;obtain⟨ρ',g1,g2,g3,rfl,Γ2,hΓ,g4⟩:=hq;injection hΓ with hΓ;subst hΓ
      have hwp2:=ih nt res y c2 ctx Γ1 Γo e1 m1 n1 X e' m' n' r2 w2 hchk h3 ρ' (upd V w1 m1) w' B F a' g1 g2 g4 (Sub.trans (Sub.lor (Sub.trans (Sub.right r1 r2) (Sub.left _ _)) (Sub.trans (Sub.right w1 w2) (Sub.right _ _))) hF) (hag.step l1) g3.mrel (hfree.next g3);exact wp_mono hwp2 λex a'' w'' hq=>Leaves.map g3 l2 hq λ_ h=>h
     ·have hwp:=ih nt res x c1 ctx Γ (some Γ1) e m n X e' m' n' r wm hc h1 ρ V w B F a hd hs he hF hag hm hfree;refine wp_mono hwp λex a' w' hq=>?_;obtain⟨ρ',g1,g2,g3,g4⟩:=hq;obtain⟨g5,g6⟩:=g4.N4 (Γo:=Γo) hne;have hl:Leaves P res ctx Γo nt D B ρ V w n m' n' wm X e' ex a' w':=⟨ρ',g1,g2,g3,g5⟩;cases ex<;>first|exact hl|exact absurd rfl g6
  |cond c0 x y=>
   by_cases hst:∃t,c0=.c (.tuple t)
   ·obtain⟨t,rfl⟩:=hst;replace h:lJ (exec P E Y k x e m n) (exec P E Y k y e m n) (.tuple t)=.ok X e' m' n' r wm:=h;cases h
   have hq:=OM hst hchk;clear hchk;obtain⟨o,c1,c2,rfl,hchk⟩:=hq;cases ho:gT Γ o c0
   ·rw[ho]at hchk;cases hchk
   rw[ho,cond_true]at hchk;replace h:lJ (exec P E Y k x e m n) (exec P E Y k y e m n) (ev e c0)=.ok X e' m' n' r wm:=h;have hval:=gB he ho
   cases hc1:chk P nt res ctx Γ c1 x with
   |none=>rw[hc1]at hchk;cases hchk
   |some Γa=>
    cases hc2:chk P nt res ctx Γ c2 y with
    |none=>rw[hc1,hc2]at hchk;cases hchk
    |some Γb=>
     rw[hc1,hc2]at hchk;injection hchk with hchk;subst hchk
     unfold lJ at h;split at h
     ·rename_i t ht;rw[ht]at hval;have hval:=hval.gQ rfl;cases t
      ·refine wp_cond_false hval (wp_mono (ih nt res y c2 ctx Γ Γb e m n X e' m' n' r wm hc2 h ρ V w B F a hd hs he hF hag hm hfree) λex a' w' hq=>?_);obtain⟨ρ',g1,g2,g3,g4⟩:=hq;refine⟨ρ',g1,g2,g3,?_⟩
       cases X with
       |norm=>
        obtain⟨rfl,Γ2,rfl,g5⟩:=g4;refine⟨rfl,?_⟩
        cases Γa with
        |none=>exact⟨_,rfl,g5⟩
        |some Γa=>exact⟨_,rfl,λi t hn=>g5 i t (tM hn).2⟩
       |exit id=>exact g4
       |ret v=>exact g4
      ·refine wp_cond_true hval (wp_mono (ih nt res x c1 ctx Γ Γa e m n X e' m' n' r wm hc1 h ρ V w B F a hd hs he hF hag hm hfree) λex a' w' hq=>?_);obtain⟨ρ',g1,g2,g3,g4⟩:=hq;refine⟨ρ',g1,g2,g3,?_⟩
       cases X with
       |norm=>
        obtain⟨rfl,Γ2,rfl,g5⟩:=g4;refine⟨rfl,?_⟩
        cases Γb with
        |none=>exact⟨_,rfl,g5⟩
        |some Γb=>exact⟨_,rfl,λi t hn=>g5 i t (tM hn).1⟩
       |exit id=>exact g4
       |ret v=>exact g4
     ·cases h
  |block id Γt x=>
   cases c<;>simp[chk]at hchk;rename_i id' c1;cases hid:SF id' id
   ·rw[hid]at hchk;cases hchk
   rw[hid,cond_true]at hchk;have hid:id'=id:=SG hid;subst hid;obtain⟨X1,e1,m1,n1,r1,w1,h1,h2⟩:=jU h
   cases hc:chk P nt res ((id',Γt)::ctx) Γ c1 x with
   |none=>rw[hc]at hchk;cases hchk
   |some Γb=>
    rw[hc]at hchk
    have hle:Γo=some Γt/\∀Γ2,Γb=some Γ2->leC Γt Γ2=true:=by
     cases Γb with
     |none=>injection hchk with hchk;exact⟨hchk.symm,λ_ h=>by cases h⟩
     |some Γ2=>
      replace hchk:cond (leC Γt Γ2) (some (some Γt)) none=some Γo:=hchk;cases hl:leC Γt Γ2
      ·rw[hl]at hchk;cases hchk
      ·rw[hl,cond_true]at hchk;injection hchk with hchk
       exact⟨hchk.symm,λ_ h=>by injection h with h;subst h;exact hl⟩
    obtain⟨rfl,hle⟩:=hle
    have hmask:r=r1/\wm=w1/\m'=m1/\n'=n1/\e'=e1/\((X1=.norm/\X=.norm)\/(X1=.exit id'/\X=.norm)\/(∃i,i≠id'/\X1=.exit i/\X=.exit i)\/(∃v,X1=.ret v/\X=.ret v)):=by
     unfold oR at h2;split at h2
     ·rename_i i;cases hi:SF i id'
      ·rw[hi,cond_false]at h2;injection h2 with q1 q2 q3 q4 q5 q6
       exact⟨q5.symm,q6.symm,q3.symm,q4.symm,q2.symm,.inr (.inr (.inl ⟨i,by intro e;subst e;simp at hi,rfl,q1.symm⟩))⟩
      ·rw[hi,cond_true]at h2;injection h2 with q1 q2 q3 q4 q5 q6
       exact⟨q5.symm,q6.symm,q3.symm,q4.symm,q2.symm,.inr (.inl ⟨by rw[SG hi],q1.symm⟩)⟩
     ·rename_i hne;injection h2 with q1 q2 q3 q4 q5 q6
      refine⟨q5.symm,q6.symm,q3.symm,q4.symm,q2.symm,?_⟩
      cases X1 with
      |norm=>exact .inl ⟨rfl,q1.symm⟩
      |exit i=>exact absurd rfl (hne i)
      |ret v=>exact .inr (.inr (.inr ⟨v,rfl,q1.symm⟩))
    obtain⟨rfl,rfl,rfl,rfl,rfl,hX⟩:=hmask;refine wp_block (wp_mono (ih nt res x c1 ((id',Γt)::ctx) Γ Γb e m n X1 e' m' n' r wm hc h1 ρ V w B F a hd hs he hF hag hm hfree) λex a' w' hq=>?_);obtain⟨ρ',g1,g2,g3,g4⟩:=hq;rcases hX with⟨rfl,rfl⟩|⟨rfl,rfl⟩|⟨i,hi,rfl,rfl⟩|⟨v,rfl,rfl⟩
    ·obtain⟨rfl,Γ2,hΓ2,g5⟩:=g4;exact⟨ρ',g1,g2,g3,rfl,Γt,rfl,g5.le (hle Γ2 hΓ2)⟩
    ·obtain⟨rfl,Γ2,hΓ2,g5⟩:=g4;have:some Γt=some Γ2:=by rw[<-hΓ2];simp[A9]
     injection this with this;subst this
     show(if id'=id' then Leaves P res ctx (some Γt) nt D B ρ V w n m' n' wm .norm e' .normal a' w' else _);rw[if_pos rfl];exact⟨ρ',g1,g2,g3,rfl,Γt,rfl,g5⟩
    ·obtain⟨rfl,Γ2,hΓ2,g5⟩:=g4
     have hΓ2:A9 ctx i=some Γ2:=by
      have hb:SF id' i=false:=by
       cases hb:SF id' i
       ·rfl
       ·exact absurd (SG hb).symm hi
      simpa[A9,hb]using hΓ2
     show(if i=id' then _ else Leaves P res ctx (some Γt) nt D B ρ V w n m' n' wm (.exit i) e' (.exit i) a' w');rw[if_neg hi];exact⟨ρ',g1,g2,g3,rfl,Γ2,hΓ2,g5⟩
    ·obtain⟨rfl,g5⟩:=g4;exact⟨ρ',g1,g2,g3,rfl,g5⟩
  |loop Γh x=>
   cases c<;>simp[chk]at hchk;rename_i c1;cases hle0:leC Γh Γ
   ·rw[hle0]at hchk;cases hchk
   rw[hle0,cond_true]at hchk
   cases hc:chk P nt res ctx Γh c1 x with
   |none=>rw[hc]at hchk;cases hchk
   |some Γb=>
    rw[hc]at hchk
    have hle:∀Γ2,Γb=some Γ2->leC Γh Γ2=true:=by
     intro Γ2 e2;subst e2;replace hchk:cond (leC Γh Γ2) (some none) none=some Γo:=hchk;cases hl:leC Γh Γ2
     ·rw[hl]at hchk;cases hchk
     ·rfl
    exact Dj (hloop nt res x c1 ctx Γh Γb Γo e m n X e' m' n' r wm hc hle h ρ V w B F a hd hs (he.le hle0) hF hag hm hfree).2
  |exit id=>
   cases c<;>simp[chk]at hchk;rename_i id';cases hid:SF id' id
   ·rw[hid]at hchk;cases hchk
   rw[hid,cond_true]at hchk;have hid:id'=id:=SG hid;subst hid;injection h with q1 q2 q3 q4 q5 q6
   subst q1 q2;subst q3 q4 q6;split at hchk
   ·rename_i Γt hl;cases hle:leC Γt Γ
    ·rw[hle]at hchk;cases hchk
    ·exact wp_exit ⟨ρ,hd,hs,Post.same hm n m,rfl,Γt,hl,he.le hle⟩
   ·cases hchk
  |ret rs=>
   cases c<;>simp[chk]at hchk;cases hres:mG P Γ res.toList rs
   ·rw[hres]at hchk;cases hchk
   replace h:tA e m n (pX e m n rs)=.ok X e' m' n' r wm:=h;unfold tA at h;split at h
   ·rename_i vs r' hra;injection h with q1 q2 q3 q4 q5 q6
    subst q1 q2;subst q3 q4;subst q5 q6;obtain⟨v',hrun,hv⟩:=tu (P:=P) he hm hag hres hra (Sub.trans (Sub.left _ _) hF);exact wp_ret ⟨ρ,hd,hs,Post.same hm n m,rfl,v',hrun,hv⟩
   ·cases h
end
section
variable{μ:Type}[AMem μ]{P:SZ}
structure St(μ:Type) where
 Γ:Ctx
 e:List AT
 m:μ
 n:Nat
def jV(ρ:Ren)(Γ:Ctx)(e:List AT)(t:Nat)(oy:Option AT):Prop:=∀i,named Γ i t=true->∃x y,e[i]?=some x/\oy=some y/\VRel ρ x y
theorem jV.mono{ρ ρ':Ren}(hl:ρ.le ρ'){Γ:Ctx}{e:List AT}{t:Nat}{oy:Option AT}(h:jV ρ Γ e t oy):jV ρ' Γ e t oy:=λi hn=>let⟨x,y,a,b,c⟩:=h i hn;⟨x,y,a,b,c.mono hl⟩
structure SStep(P:SZ)(ops:Array Oper)(nt:Nat)(o:Oper)(s s':St μ)(r wm:Nat):Prop where
 loc:Loc s.m s.n s'.m s'.n wm
 kZ:∀ρ t oy,o.dst≠some t->jV ρ s.Γ s.e t oy->jV ρ s'.Γ s'.e t oy
 sim:∀(ρ:Ren) (V:Nat->Option Blk) (w:SE) (B F:Nat) (a:VX),a.tmps.size=nt->(∀t∈looks ops o,jV ρ s.Γ s.e t a.tmps[t]?)->Sub (OF r wm) F->iX V s.m s.n F->MRel ρ V w B->lN ρ s.n->
  ∀(K:VX->SE->Prop) (Q:Xb->VX->SE->Prop),(∀v' ρ' w',(∀d,o.dst=some d->d<nt/\jV ρ' s'.Γ s'.e d (some v'))->Post ρ V w B s.n s'.m s'.n wm ρ' w'->K (a.put o.dst v') w')->
   if TN o (yielded ops a.tmps)then o.wp P a w K Q else K (a.put o.dst undef) w
def wq(l:List Nat)(Γ:Ctx):Ctx:=Γ.map λts=>ts.filter λt=>l.any (SF t)
theorem qj{l:List Nat}{Γ:Ctx}{i t:Nat}:named (wq l Γ) i t=true↔named Γ i t=true/\t∈l:=by
 rw[iU,iU];constructor
 ·rintro⟨x,h1,h2⟩;simp only[wq,To,Option.map_eq_some_iff]at h1;obtain⟨y,h1,rfl⟩:=h1;rw[TY,any_beq]at h2;exact⟨⟨y,h1,h2.1⟩,h2.2⟩
 ·rintro⟨⟨y,h1,h2⟩,h3⟩;refine⟨y.filter λt=>l.any (SF t),by simp[wq,h1],?_⟩;rw[TY,any_beq];exact⟨h2,h3⟩
theorem zy{ρ:Ren}{l:List Nat}{Γ:Ctx}{e:List AT}{tmps:Array AT}(h:∀t∈l,jV ρ Γ e t tmps[t]?):gZ ρ (wq l Γ) e tmps:=by intro i t hn;obtain⟨h1,h2⟩:=qj.1 hn;exact h t h2 i h1
section
variable{Γ Γ':Ctx}
theorem nX{x:Uz}{y:Opd}(hs:∀t,x=.tmp t->∀i,named Γ i t=true->named Γ' i t=true)(h:gT Γ x y=true):gT Γ' x y=true:=by
 unfold gT at h ⊢;split at h
 ·exact hs _ rfl _ h
 ·exact h
 ·exact h
 ·cases h
theorem wo:∀{xs:List Uz} {ys:List Opd},(∀t,.tmp t∈xs->∀i,named Γ i t=true->named Γ' i t=true)->my Γ xs ys=true->my Γ' xs ys=true
 |[],[],_,_=>rfl
 |[],_::_,_,h=>by cases h
 |_::_,[],_,h=>by cases h
 |x::xs,y::ys,hs,h=>by simp only[my,No]at h ⊢;exact⟨nX (λt e=>hs t (e▸Tk ..)) h.1,wo (λt e=>hs t (SQ _ e)) h.2⟩
theorem Gp{x:Option Uz}{y:Option Opd}(hs:∀t,x=some (.tmp t)->∀i,named Γ i t=true->named Γ' i t=true)(h:oQ Γ x y=true):oQ Γ' x y=true:=by
 unfold oQ at h ⊢;split at h
 ·rfl
 ·exact nX (λt e=>hs t (by rw[e])) h
 ·cases h
theorem p9{place:Nat->Option (Nat×Nat)}:∀{xs:List (Nat×Uz)} {ys:List (Nat×Nat×Opd)},(∀t,.tmp t∈xs.map (·.2)->∀i,named Γ i t=true->named Γ' i t=true)->oP Γ place xs ys=true->oP Γ' place xs ys=true
 |[],[],_,_=>rfl
 |[],_::_,_,h=>by cases h
 |_::_,[],_,h=>by cases h
 |x::xs,y::ys,hs,h=>by simp only[oP,No]at h ⊢;exact⟨⟨h.1.1,nX (λt e=>hs t (by rw[Uc,e];exact Tk ..)) h.1.2⟩,p9 (λt e=>hs t (by rw[Uc];exact SQ _ e)) h.2⟩
theorem tx:∀{xs:List (Nat×Uz)} {ys:List (Nat×Opd)},(∀t,.tmp t∈xs.map (·.2)->∀i,named Γ i t=true->named Γ' i t=true)->nU Γ xs ys=true->nU Γ' xs ys=true
 |[],[],_,_=>rfl
 |[],_::_,_,h=>by cases h
 |_::_,[],_,h=>by cases h
 |x::xs,y::ys,hs,h=>by simp only[nU,No]at h ⊢;exact⟨⟨h.1.1,nX (λt e=>hs t (by rw[Uc,e];exact Tk ..)) h.1.2⟩,tx (λt e=>hs t (by rw[Uc];exact SQ _ e)) h.2⟩
theorem Hr{op:Op}{x:AOp}(hs:∀t,.tmp t∈op.operands.toList->∀i,named Γ i t=true->named Γ' i t=true)(h:jI P Γ op x=true):jI P Γ' op x=true:=by
 have one:∀{y:Uz} {z:Opd},y∈op.operands.toList->gT Γ y z=true->gT Γ' y z=true:=λhy hz=>nX (λt e=>hs t (e▸hy)) hz;have many:∀{ys:List Uz} {zs:List Opd},(∀y∈ys,y∈op.operands.toList)->my Γ ys zs=true->my Γ' ys zs=true:=λhy hz=>wo (λt e=>hs t (hy _ e)) hz;have opt:∀{y:Option Uz} {z:Option Opd},(∀y',y=some y'->y'∈op.operands.toList)->oQ Γ y z=true->oQ Γ' y z=true:=λhy hz=>Gp (λt e=>hs t (hy _ e)) hz;unfold jI at h ⊢;split at h<;>simp only[Op.operands,Call.operands,No]at *
 all_goals revert h
 all_goals repeat' (first|exact id|exact one (by simp)|exact many (λy hy=>by simp at hy;simp[hy])|exact opt (λy hy=>by simp[hy])|exact tx hs|refine And.imp ?_ ?_)
 ·intro h;split at h
  ·rename_i hu;simp only[hu,No]at h ⊢;exact⟨h.1,p9 hs h.2⟩
  ·rename_i hu;split at h
   ·rename_i hi;exact p9 hs h
   ·cases h
  ·cases h
 ·intro h;split at h
  ·rename_i hx ht;simp only[hx,ht,No]at h ⊢;exact⟨one (by simp[hx]) h.1,h.2⟩
  ·cases h
 ·intro h;split at h
  ·rename_i hx;simp only[hx,No]at h ⊢;exact⟨one (by simp[hx]) h.1,one (by simp[hx]) h.2⟩
  ·cases h
 ·intro h;split at h
  ·rename_i hx ht;simp only[hx,ht,No]at h ⊢;exact⟨⟨one (by simp[hx]) h.1.1,one (by simp[hx]) h.1.2⟩,h.2⟩
  ·cases h
 ·intro h;split at h
  ·rename_i hx ht;simp only[hx,ht,No]at h ⊢;exact⟨⟨one (by simp[hx]) h.1.1,one (by simp[hx]) h.1.2⟩,h.2⟩
  ·cases h
 ·intro h;split at h
  ·rename_i hx;simp only[hx,No]at h ⊢;exact⟨one (by simp[hx]) h.1,one (by simp[hx]) h.2⟩
  ·cases h
 ·intro h;split at h
  ·rename_i hx ht;simp only[hx,ht,No]at h ⊢;exact⟨⟨one (by simp[hx]) h.1.1,one (by simp[hx]) h.1.2⟩,h.2⟩
  ·cases h
 ·intro h;split at h
  ·rename_i hx ht;simp only[hx,ht,No]at h ⊢;exact⟨one (by simp[hx]) h.1,h.2⟩
  ·cases h
end
theorem AU{ops:Array Oper}{o:Oper}{t:Nat}(h:Operand.tmp t∈o.op.operands.toList):t∈looks ops o:=List.mem_append_left _ (List.mem_filterMap.2 ⟨_,h,rfl⟩)
theorem wB{ops:Array Oper}{o:Oper}{j g:Nat}{w:Bool}(h:o.guard=some (j,w))(hj:(ops[j]?).bind (·.dst)=some g):g∈looks ops o:=by refine List.mem_append_right _ ?_;rw[h];simp[hj]
theorem jV.push{ρ:Ren}{Γ:Ctx}{e:List AT}{d t:Nat}{v:AT}{oy:Option AT}(hne:t≠d)(h:jV ρ Γ e t oy):jV ρ ([d]::tI d Γ) (v::e) t oy:=by
 intro i hn
 cases i with
 |zero=>
  obtain⟨l,h1,h2⟩:=iU.1 hn;have h1:some [d]=some l:=h1;injection h1 with h1;subst h1
  exact absurd (by simpa using h2) hne
 |succ i=>obtain⟨h1,h2⟩:=nO (i:=i) hn;obtain⟨x,y,a,b,c⟩:=h i h1;exact⟨x,y,by simpa using a,b,c⟩
theorem jV.top{ρ:Ren}{Γ:Ctx}{e:List AT}{d:Nat}{v v':AT}(hv:VRel ρ v v'):jV ρ ([d]::tI d Γ) (v::e) d (some v'):=by
 intro i hn
 cases i with
 |zero=>exact⟨v,v',rfl,rfl,hv⟩
 |succ i=>exact absurd rfl (nO (i:=i) hn).2
theorem jV.LG{ρ:Ren}{Γ:Ctx}{e:List AT}{d t i:Nat}{oy:Option AT}(hne:t≠d)(h:jV ρ Γ e t oy):jV ρ (CS d (tI d Γ) i) e t oy:=by
 intro j hn;rcases sW hn with hn|⟨_,h2⟩
 ·exact h j (nO hn).1
 ·exact absurd h2 hne
theorem jV.Pc{ρ:Ren}{Γ:Ctx}{e:List AT}{d i:Nat}{x v':AT}(hx:e[i]?=some x)(hv:VRel ρ x v'):jV ρ (CS d (tI d Γ) i) e d (some v'):=by
 intro j hn;rcases sW hn with hn|⟨rfl,_⟩
 ·exact absurd rfl (nO hn).2
 ·exact⟨x,v',hx,rfl,hv⟩
theorem pV{rec:Nat->List AT->μ->Nat->OR μ}{nt:Nat}{ops:Array Oper}(hcall:iw P rec)(hloc:il rec){o:Oper}{x:AOp}{Γ Γ1:Ctx}{e e1:List AT}{m m1:μ}{n n1 r1 w1:Nat}{v:AT}
  (hx:jI P Γ o.op x=true) (h:gV P rec e m n x=.ok v m1 n1 r1 w1) (hw:∀(ρ:Ren) (tmps:Array AT),(∀t∈looks ops o,jV ρ Γ e t tmps[t]?)->TN o (yielded ops tmps)=true)
  (hkeep:∀ρ t oy,o.dst≠some t->jV ρ Γ e t oy->jV ρ Γ1 e1 t oy) (hput:∀ρ v' d,VRel ρ v v'->o.dst=some d->d<nt/\jV ρ Γ1 e1 d (some v')):
  SStep P ops nt o ⟨Γ,e,m,n⟩ ⟨Γ1,e1,m1,n1⟩ r1 w1:=by
 refine⟨ud (P:=P) hloc h,hkeep,λρ V w B F a hs ht hF hag hm hfree K Q hK=>?_⟩;rw[if_pos (hw ρ a.tmps ht)];refine yW (Γ:=wq (looks ops o) Γ) hcall (Hr (λt hm i hn=>qj.2 ⟨hn,AU hm⟩) hx) (zy ht) h hF hm hag hfree λv' ρ' w' hv hp=>?_;exact hK v' ρ' w' (λd hd=>hput ρ' v' d hv hd) hp
theorem qZ{nt:Nat}{ops:Array Oper}{o:Oper}{Γ Γ1:Ctx}{e e1:List AT}(m:μ)(n:Nat)
  (hkeep:∀ρ t oy,o.dst≠some t->jV ρ Γ e t oy->jV ρ Γ1 e1 t oy)
  (hsim:∀(ρ:Ren) (w:SE) (a:VX),a.tmps.size=nt->(∀t∈looks ops o,jV ρ Γ e t a.tmps[t]?)->∀(K:VX->SE->Prop) (Q:Xb->VX->SE->Prop),(∀v',(∀d,o.dst=some d->d<nt/\jV ρ Γ1 e1 d (some v'))->K (a.put o.dst v') w)->
   if TN o (yielded ops a.tmps)then o.wp P a w K Q else K (a.put o.dst undef) w):
  SStep P ops nt o ⟨Γ,e,m,n⟩ ⟨Γ1,e1,m,n⟩ 0 0:=
 ⟨Loc.refl _ _,hkeep,λρ V w B F a hs ht _ _ hm _ K Q hK=>hsim ρ w a hs ht K Q λv' hv=>hK v' ρ w hv (Post.same hm n m)⟩
end
section
variable{μ:Type}[AMem μ]{P:SZ}
def qQ(bef r w:Nat)(x:Nat×Nat×Nat):Prop:=bef.testBit x.1=true\/∀b,(w.testBit b=true->x.2.1.testBit b=false/\x.2.2.testBit b=false)/\(x.2.2.testBit b=true->r.testBit b=false)
theorem Bc{a b:Nat}(h:SF (Nat.land a b) 0=true)(k:Nat)(hk:a.testBit k=true):b.testBit k=false:=by
 have h:=SG h;have h2:(a &&& b).testBit k=false:=by have:a &&& b=0:=h;rw[this];exact Nat.zero_testBit k
 rw[Nat.testBit_and,hk]at h2;simpa using h2
theorem apart_spec{bef r w:Nat}:∀{done:List (Nat×Nat×Nat)},apart bef r w done=true->∀x∈done,qQ bef r w x
 |[],_,x,hx=>by cases hx
 |(i,r',w')::l,h,x,hx=>by
  simp only[apart,No,Uw]at h;rcases List.mem_cons.1 hx with rfl|hx
  ·rcases h.1 with h1|⟨h1,h2⟩
   ·exact .inl h1
   ·refine .inr λb=>⟨λhb=>?_,λhb=>Bc h2 b hb⟩;have:=Bc h1 b hb;rw[gv,Bool.or_eq_false_iff]at this;exact this
  ·exact apart_spec h.2 x hx
theorem qQ.none{bef:Nat}(x:Nat×Nat×Nat):qQ bef 0 0 x:=.inr λb=>⟨λh=>by simp at h,λ_=>by simp⟩
theorem qQ.none'{bef r w i:Nat}:qQ bef r w (i,0,0):=.inr λb=>⟨λ_=>by simp,λh=>by simp at h⟩
def nF(P:SZ)(ops:Array Oper)(nt k len:Nat)(s s':St μ)(done:List (Nat×Nat×Nat))(bs:List Nat)(r0 w0 r wm:Nat):Prop:=
 Sub r0 r/\Sub w0 wm/\∃(G:Nat->St μ) (R W:Nat->Nat),G k=s/\G (k+len)=s'/\(∀b,wm.testBit b=true->w0.testBit b=true\/∃j,k<=j/\j<k+len/\(W j).testBit b=true)/\
  ∀j o,k<=j->j<k+len->ops[j]?=some o->SStep P ops nt o (G j) (G (j+1)) (R j) (W j)/\Sub (R j) r/\Sub (W j) wm/\(∀x∈done,qQ (bs.getD (j-k) 0) (R j) (W j) x)/\∀i,k<=i->i<j->qQ (bs.getD (j-k) 0) (R j) (W j) (i,R i,W i)
theorem nF.nil{ops:Array Oper}{nt k:Nat}(s:St μ)(done:List (Nat×Nat×Nat))(bs:List Nat)(r w:Nat):nF P ops nt k 0 s s done bs r w r w:=⟨Sub.refl _,Sub.refl _,λ_=>s,λ_=>0,λ_=>0,rfl,rfl,λb h=>.inl h,λj o h1 h2=>by omega⟩
def ins{α:Type}(k:Nat)(a:α)(f:Nat->α):Nat->α:=λj=>if j=k then a else f j
theorem tR{α:Type}(k:Nat)(a:α)(f:Nat->α):ins k a f k=a:=if_pos rfl
theorem qu{α:Type}{k j:Nat}(a:α)(f:Nat->α)(h:j≠k):ins k a f j=f j:=if_neg h
theorem nF.cons{ops:Array Oper}{nt k len:Nat}{s0 s s':St μ}{done done':List (Nat×Nat×Nat)}{bs:List Nat}{r0 w0 r1 w1 r wm:Nat}{o:Oper}(ho:ops[k]?=some o)(hs:SStep P ops nt o s0 s r1 w1)
  (hap:∀x∈done,qQ (bs.headD 0) r1 w1 x) (hd:∀x∈done,x∈done') (hk:(r1=0/\w1=0)\/(k,r1,w1)∈done')
  (h:nF P ops nt (k+1) len s s' done' bs.tail (OF r0 r1) (OF w0 w1) r wm):nF P ops nt k (len+1) s0 s' done bs r0 w0 r wm:=by
 obtain⟨h1,h2,G,R,W,h3,h4,h5,h6⟩:=h
 have hget:∀j,k+1<=j->bs.tail.getD (j-(k+1)) 0=bs.getD (j-k) 0:=by
  intro j hj;have:j-k=(j-(k+1))+1:=by omega
  rw[this];cases bs<;>simp
 refine⟨Sub.trans (Sub.left _ _) h1,Sub.trans (Sub.left _ _) h2,ins k s0 G,ins k r1 R,ins k w1 W,tR ..,?_,λb hb=>?_,λj o' hj hlt ho'=>?_⟩
 ·rw[qu _ _ (by omega),<-h4];congr 1;omega
 ·rcases h5 b hb with h7|⟨j,h7,h8,h9⟩
  ·rw[gv,Uw]at h7;rcases h7 with h7|h7
   ·exact .inl h7
   ·exact .inr ⟨k,IN _,by omega,by rw[tR];exact h7⟩
  ·exact .inr ⟨j,by omega,by omega,by rw[qu _ _ (by omega)];exact h9⟩
 ·by_cases e:j=k
  ·subst e;rw[ho]at ho';injection ho' with ho';subst ho'
   rw[tR,tR,tR,qu _ _ (by omega),h3];refine⟨hs,Sub.trans (Sub.right _ _) h1,Sub.trans (Sub.right _ _) h2,?_,λi hi hi2=>by omega⟩;rw[Nat.sub_self];intro x hx;have:=hap x hx;cases bs<;>exact this
  ·obtain⟨a1,a2,a3,a4,a5⟩:=h6 j o' (by omega) (by omega) ho';rw[hget j (by omega)]at a4 a5;rw[qu _ _ e,qu _ _ e,qu _ _ e,qu _ _ (by omega)];refine⟨a1,a2,a3,λx hx=>a4 x (hd x hx),λi hi hi2=>?_⟩;by_cases e2:i=k
   ·subst e2;rw[tR,tR];rcases hk with⟨rfl,rfl⟩|hk
    ·exact qQ.none'
    ·exact a4 _ hk
   ·rw[qu _ _ e2,qu _ _ e2];exact a5 i (by omega) hi2
theorem Mf{rec:Nat->List AT->μ->Nat->OR μ}{nt:Nat}{ops:Array Oper}(hcall:iw P rec)(hloc:il rec){Γe:Ctx}:
  ∀(l:List AI) (os:List Oper) (k:Nat) (done:List (Nat×Nat×Nat)) (bs:List Nat) (Γ:Ctx) (e:List AT) (m:μ) (n r0 w0:Nat) (X:AX) (e':List AT) (m':μ) (n' r wm:Nat),ops.toList.drop k=os->rN P nt ops os Γ l=some Γe->
   jY P rec l bs k done e m n r0 w0=.ok X e' m' n' r wm->X=.norm/\nF P ops nt k os.length ⟨Γ,e,m,n⟩ ⟨Γe,e',m',n'⟩ done bs r0 w0 r wm
 |[],os,k,done,bs,Γ,e,m,n,r0,w0,X,e',m',n',r,wm,hos,hchk,h=>by
  obtain⟨rfl,rfl,rfl,rfl,rfl,rfl⟩:=pO h
  cases os with
  |cons o os=>cases hchk
  |nil=>
   injection hchk with hchk;subst hchk
   exact⟨rfl,nF.nil _ _ _ _ _⟩
 |i::l,os,k,done,bs,Γ,e,m,n,r0,w0,X,e',m',n',r,wm,hos,hchk,h=>by
  cases os with
  |nil=>cases hchk
  |cons o os=>
   simp only[rN]at hchk
   cases hai:uP P nt ops Γ o i with
   |none=>rw[hai]at hchk;cases hchk
   |some Γ1=>
    rw[hai]at hchk;simp only at hchk;have hok:ops[k]?=some o:=by have:=congrArg (λl:List Oper=>l[0]?) hos;simpa using this
    have hos':ops.toList.drop (k+1)=os:=by have:=congrArg List.tail hos;simpa using this
    have ih:=Mf (nt:=nt) (ops:=ops) (Γe:=Γe) hcall hloc l os (k+1)
    have quiet:∀{e2:List AT},jY P rec l bs.tail (Nat.succ k) done e2 m n r0 w0=.ok X e' m' n' r wm->SStep P ops nt o (⟨Γ,e,m,n⟩:St μ) ⟨Γ1,e2,m,n⟩ 0 0->
      X=.norm/\nF P ops nt k (o::os).length ⟨Γ,e,m,n⟩ ⟨Γe,e',m',n'⟩ done bs r0 w0 r wm:=by
     intro e2 h hs;obtain⟨hX,ht⟩:=ih _ _ _ _ _ _ _ _ _ _ _ _ _ _ hos' hchk h;exact⟨hX,nF.cons hok hs (λx _=>qQ.none x) (λx hx=>hx) (.inl ⟨rfl,rfl⟩) (by rw[ju,ju];exact ht)⟩
    have loud:∀{x:AOp} {e2:AT->List AT},(okD (bs.headD 0) k done (iQ P rec e m n x) λv m n r' w' done=>jY P rec l bs.tail (Nat.succ k) done (e2 v) m n (OF r0 r') (OF w0 w'))=.ok X e' m' n' r wm->
      (∀v m1 n1 r1 w1,gV P rec e m n x=.ok v m1 n1 r1 w1->SStep P ops nt o (⟨Γ,e,m,n⟩:St μ) ⟨Γ1,e2 v,m1,n1⟩ r1 w1)->
      X=.norm/\nF P ops nt k (o::os).length ⟨Γ,e,m,n⟩ ⟨Γe,e',m',n'⟩ done bs r0 w0 r wm:=by
     intro x e2 h hs;obtain⟨v,m1,n1,r1,w1,h1,h2⟩:=Gq h;have hst:=hs _ _ _ _ _ (yw h1).2;rcases h2 with⟨h0,h2⟩|⟨ha,h2⟩
     ·obtain⟨hX,ht⟩:=ih _ _ _ _ _ _ _ _ _ _ _ _ _ _ hos' hchk h2
      have hz:r1=0/\w1=0:=by
       constructor<;>refine Nat.eq_of_testBit_eq λb=>?_
       ·cases hb:r1.testBit b
        ·simp
        ·have:=Sub.left r1 w1 b hb;rw[h0]at this;simp at this
       ·cases hb:w1.testBit b
        ·simp
        ·have:=Sub.right r1 w1 b hb;rw[h0]at this;simp at this
      refine⟨hX,nF.cons hok hst (λx _=>?_) (λx hx=>hx) (.inl hz) ht⟩;obtain⟨rfl,rfl⟩:=hz;exact qQ.none x
     ·obtain⟨hX,ht⟩:=ih _ _ _ _ _ _ _ _ _ _ _ _ _ _ hos' hchk h2;exact⟨hX,nF.cons hok hst (apart_spec ha) (λx hx=>SQ _ hx) (.inr (Tk ..)) ht⟩
    have noguard:o.guard=none->∀tmps,TN o (yielded ops tmps)=true:=by intro hg tmps;unfold TN;rw[hg]
    rcases zF hai with⟨j,d,t,rfl,hg,hd,hop,hn,hlt,rfl⟩|⟨x,d,rfl,hg,hd,hx,hlt,rfl⟩|⟨x,gi,gw,j,ww,d,g,rfl,hg,hd,hj,hx,hlt,hw,hn,rfl⟩|⟨x,rfl,hg,hd,hx,rfl⟩|⟨x,gi,gw,j,ww,g,rfl,hg,hd,hj,hx,hw,hn,rfl⟩
    ·refine quiet (e2:=e) h (qZ m n (λρ s oy hne hs=>hs.LG (λe=>hne (e▸hd))) λρ w a hs ht K Q hK=>?_);rw[if_pos (noguard hg _)];have hr:(execOp a.eval o).run P w=.ok (.value (a.eval (.tmp t))) w:=by unfold execOp;rcases hop with hop|hop<;>rw[hop]<;>rfl
     unfold Oper.wp;rw[hr,Oper.upon_value];have hl:t∈looks ops o:=AU (by rcases hop with hop|hop<;>rw[hop]<;>exact Tk ..);obtain⟨y,y',e1,e2,hv⟩:=ht t hl _ hn;have he:a.eval (.tmp t)=y':=by show a.tmps.getD t undef=y';rw[Tp,e2];rfl
     rw[he];refine hK y' λd' hd'=>?_;rw[hd]at hd';injection hd' with hd';subst hd'
     exact⟨hlt,jV.Pc e1 hv⟩
    ·refine loud (e2:=λv=>v::e) h λv m1 n1 r1 w1 h1=>?_;refine pV hcall hloc hx h1 (λρ tmps _=>noguard hg tmps) (λρ s oy hne hs=>hs.push (λe=>hne (e▸hd))) λρ v' d' hv hd'=>?_;rw[hd]at hd';injection hd' with hd';subst hd'
     exact⟨hlt,jV.top hv⟩
    ·replace h:cond (ia gw (iA e gi)) (okD (bs.headD 0) k done (iQ P rec e m n x) λv m n r' w' done=>jY P rec l bs.tail (Nat.succ k) done (v::e) m n (OF r0 r') (OF w0 w')) (jY P rec l bs.tail (Nat.succ k) done (undef::e) m n r0 w0)=.ok X e' m' n' r wm:=h;have hwant:∀(ρ:Ren) (tmps:Array AT),(∀t∈looks ops o,jV ρ Γ e t tmps[t]?)->TN o (yielded ops tmps)=ia gw (iA e gi):=λρ tmps ht=>mK (zy ht) hg hj (qj.2 ⟨hn,wB hg hj⟩) hw;cases hwt:ia gw (iA e gi)
     ·rw[hwt,cond_false]at h;refine quiet (e2:=undef::e) h (qZ m n (λρ s oy hne hs=>hs.push (λe=>hne (e▸hd))) λρ w a hs ht K Q hK=>?_);rw[if_neg (by rw[hwant ρ a.tmps ht,hwt];simp)];refine hK undef λd' hd'=>?_;rw[hd]at hd';injection hd' with hd';subst hd'
      exact⟨hlt,jV.top (.undef ρ)⟩
     ·rw[hwt,cond_true]at h;refine loud (e2:=λv=>v::e) h λv m1 n1 r1 w1 h1=>?_;refine pV hcall hloc hx h1 (λρ tmps ht=>by rw[hwant ρ tmps ht,hwt]) (λρ s oy hne hs=>hs.push (λe=>hne (e▸hd))) λρ v' d' hv hd'=>?_;rw[hd]at hd';injection hd' with hd';subst hd'
      exact⟨hlt,jV.top hv⟩
    ·refine loud (e2:=λ_=>e) h λv m1 n1 r1 w1 h1=>?_;exact pV hcall hloc hx h1 (λρ tmps _=>noguard hg tmps) (λρ s oy hne hs=>hs) λρ v' d' hv hd'=>by rw[hd]at hd';cases hd'
    ·replace h:cond (ia gw (iA e gi)) (okD (bs.headD 0) k done (iQ P rec e m n x) λv m n r' w' done=>jY P rec l bs.tail (Nat.succ k) done e m n (OF r0 r') (OF w0 w')) (jY P rec l bs.tail (Nat.succ k) done e m n r0 w0)=.ok X e' m' n' r wm:=h;have hwant:∀(ρ:Ren) (tmps:Array AT),(∀t∈looks ops o,jV ρ Γ1 e t tmps[t]?)->TN o (yielded ops tmps)=ia gw (iA e gi):=λρ tmps ht=>mK (zy ht) hg hj (qj.2 ⟨hn,wB hg hj⟩) hw;cases hwt:ia gw (iA e gi)
     ·rw[hwt,cond_false]at h;refine quiet (e2:=e) h (qZ m n (λρ s oy hne hs=>hs) λρ w a hs ht K Q hK=>?_);rw[if_neg (by rw[hwant ρ a.tmps ht,hwt];simp)];exact hK undef λd' hd'=>by rw[hd]at hd';cases hd'
     ·rw[hwt,cond_true]at h;refine loud (e2:=λ_=>e) h λv m1 n1 r1 w1 h1=>?_;exact pV hcall hloc hx h1 (λρ tmps ht=>by rw[hwant ρ tmps ht,hwt]) (λρ s oy hne hs=>hs) λρ v' d' hv hd'=>by rw[hd]at hd';cases hd'
end
end Go.Am
