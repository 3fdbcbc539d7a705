/- The machine and its runs, part 19. -/
import Derived.Lib.SlTrimSet
import Derived.Shelf.SlSortCmp.NoneTotal
import Derived.Recover
import Derived.Deep.WholeRow
import Derived.Test.YtiibhndkoknmnaaGreatDoorB18
set_option linter.unusedVariables false
set_option linter.unusedSimpArgs false
open Go renaming Program→SZ,Value→AT,World→SE,Act→VX
open Nat renaming lor→OF,le_refl→IN,add_sub_cancel_left→VG,le_trans→Tz,lt_of_lt_of_le→TC,zero_add→TU,beq→SF,mul→Vu,eq_of_beq_eq_true→SG,le_succ→Tf,lt_succ_self→Td,le_of_ble_eq_true→Uo,zero_le→Tq,ble→Tj,mod→SL,eq_zero_or_pos→Ug,zero_mod→Wa,reduceAdd→to
open List renaming mem_of_getElem?→TF,getElem?_eq_some_iff→S',getElem?_eq_getElem→SH,ext_getElem?→Vl,all_eq_true→Tv,dropWhile_cons→Yg,mem_cons→TG,mem_cons_self→Tk,mem_reverse→Wh,getElem_mem→Tb,length_eq_zero_iff→SV,length_append→IT,cons_append→SK,nil_append→SJ,getElem?_eq_none→Wz,pairwise_cons→Ue,getElem?_append_left→TA
open Array renaming ext'→US,getElem?_eq_some_iff→SB,getElem?_eq_getElem→SM,getElem?_modify→XZ,getElem?_append_left→Xt,replicate→TS,getD_eq_getD_getElem?→Tp
open Bool renaming or_eq_true→Uw,and_eq_true→No
open Go.Proofs.Tryz renaming prog→SR,prog→SI,isAgg28→W8,sizeOf28→WM,f13→TT
open Go.Proofs.AnyW renaming maps_Clone_nil→WW,maps_Clone→Xo
open Go.RowKit.Below renaming refl→S0
open Go.Lib renaming trimS→VW,compareInt→Vh
open Go.Builtin renaming zeroCells→U1
open Go.World renaming cell?→Ts,frozen?→Wc,farLoad→XC
open Go.Region renaming schedule→Vq,ready→Tt,wanted→TN
open Go.Region.linearise renaming go→TQ
open Go.Am.AMem renaming put→If
noncomputable section
namespace Go.Am.V
open Go Go.Am Go.RowKit
structure Env0(P:SZ)(tab:List (Nat×AFn))(Y:Nat->List AT->FM->Nat->OR FM):Prop where
 mix:P.follows .mixedOrders=true
 Cq:Good P tab
 loc:il Y
 sim:iw P Y
theorem Env0.calls{P:SZ}{tab:List (Nat×AFn)}{Y:Nat->List AT->FM->Nat->OR FM}(h:Env0 P tab Y)(k:Nat):iw P (im (look tab) Y (exec P (look tab) Y k)):=zJ h.loc h.sim h.Cq.look (uN h.mix zB h.loc h.sim h.Cq.look k).1
theorem Env0.topA{P:SZ}{tab:List (Nat×AFn)}{Y:Nat->List AT->FM->Nat->OR FM}(h:Env0 P tab Y){k f:Nat}{args:List AT}{m0 m:FM}{n r wm:Nat}(ha:∀ρ,∀a∈args,VRel ρ a a)(hrun:im (look tab) Y (exec P (look tab) Y k) f args m0 0=.ok (.bool true) m n r wm)(w:SE)(hgl:pt w.heap.size w):
  Calls P f args.toArray w λe w'=>e=.returned (.bool true)/\Below w.heap.size w w':=by
 obtain⟨_,hc⟩:=h.calls k f args m0 0 (.bool true) m n r wm hrun (λ_=>none) (λ_=>none) w w.heap.size (OF r wm) args.toArray ⟨rfl,λi x y hx hy=>by
   have:x=y:=by simp at hy;rw[hx]at hy;injection hy
   subst this
   exact ha _ x (TF hx)⟩ (Sub.refl _) (λb hb=>by omega) (AQ w hgl) (λ_ _=>rfl)
 refine hc.mono λe w' hh=>?_;obtain⟨ρ',v',rfl,hv,hp⟩:=hh;rw[hv.gQ rfl];exact⟨rfl,hp.below⟩
theorem Env0.lawA{P:SZ}{tab:List (Nat×AFn)}{Y:Nat->List AT->FM->Nat->OR FM}(h:Env0 P tab Y){k f:Nat}{args:List AT}(ha:∀ρ,∀a∈args,VRel ρ a a)(hrun:GZ (im (look tab) Y (exec P (look tab) Y k) f args FM0 0)=true)(w:SE)(hgl:pt w.heap.size w):
  Calls P f args.toArray w λe w'=>e=.returned (.bool true)/\Below w.heap.size w w':=by
 obtain⟨m,n,r,wm,he⟩:=KB hrun;exact h.topA ha he w hgl
end Go.Am.V
namespace Go.Am
open Go Go.Am.V Go.RowKit
theorem Env0.topW{P:SZ}{tab:List (Nat×AFn)}{Y:Nat->List AT->FM->Nat->OR FM}(h:Env0 P tab Y){f:Nat}{args:List AT}{m0 m:FM}{n0 n r wm:Nat}(hrun:fL P (look tab) Y f args m0 n0=.ok (.bool true) m n r wm)
  {ρ:Ren} {w:SE} {args':Array AT} (ha:gY ρ args args'.toList) (hm:MRel ρ m0 w w.heap.size) (hf:lN ρ n0):
  Calls P f args' w λe w'=>e=.returned (.bool true)/\Below w.heap.size w w':=by
 obtain⟨k,hk⟩:=uS f args m0 n0 _ _ _ _ _ hrun;obtain⟨_,hc⟩:=h.calls k f args m0 n0 (.bool true) m n r wm (hk k (IN _)) ρ m0 w w.heap.size (OF r wm) args' ha (Sub.refl _) (λb hb _=>rfl) hm hf;refine hc.mono λe w' hh=>?_;obtain⟨ρ',v',rfl,hv,hp⟩:=hh;rw[hv.gQ rfl];exact⟨rfl,hp.below⟩
end Go.Am
namespace Go.Am.CR
open Go Go.Am Go.Am.V Go.RowKit
variable{n base e r:Nat}{args':Array AT}{x v y:AT}{m:FM}{args ys:List AT}
def tk(bs:List Blk)(n:Nat)(m:FM):FM:=λb=>if n<=b/\b<n+bs.length then bs[b-n]? else m b
theorem NC{bs:List Blk}{i:Nat}(h:i<bs.length):tk bs n m (n+i)=bs[i]?:=by unfold tk;rw[if_pos (by omega),VG]
theorem uy(bs:List Blk)(n:Nat)(m:FM):Loc (μ:=FM) m n (tk bs n m) (n+bs.length) (vE n bs.length):=by refine⟨Nat.le_add_right _ _,λb hb=>?_,λb h1 h2=>by rw[pE];simp;omega⟩;rw[pE]at hb;show tk bs n m b=m b;unfold tk;rw[if_neg];intro hh;simp at hb;omega
theorem sS{ρ:Ren}{V:Nat->Option Blk}{w w':SE}{B:Nat}(hm:MRel ρ V w B)(hfree:lN ρ n)(m:FM)(bs:List Blk)(ps:List Place)(hl:ps.length=bs.length)(hbw:Below w.heap.size w w')
  (hps:∀p∈ps,w.heap.size<=p.blk/\p.blk<w'.heap.size) (hnw:∀O∈bs,O.wr=false)
  (hr:∀ρ':Ren,ρ.le ρ'->(∀(i:Nat) p,ps[i]?=some p->ρ' (n+i)=some p)->∀(i:Nat) p O,ps[i]?=some p->bs[i]?=some O->nA ρ' w' B p O):
  ∃ρ':Ren,(∀(i:Nat) p,ps[i]?=some p->ρ' (n+i)=some p)/\Post ρ V w B n (tk bs n m) (n+bs.length) (vE n bs.length) ρ' w':=by
 obtain⟨ρ',hρ'⟩:∃ρ':Ren,ρ'=λb=>if b<n then ρ b else ps[b-n]?:=⟨_,rfl⟩
 have hold:∀b,b<n->ρ' b=ρ b:=λb hb=>by rw[hρ'];simp[hb]
 have hnew:∀(i:Nat) p,ps[i]?=some p->ρ' (n+i)=some p:=λi p hi=>by rw[hρ'];simp only[if_neg (show¬n+i<n by omega),VG];exact hi
 have hle:ρ.le ρ':=λb p hb=>by
  by_cases hbn:b<n
  ·rw[hold b hbn];exact hb
  ·rw[hfree b (by omega)]at hb;cases hb
 have hinv:∀b p,ρ' b=some p->(b<n/\ρ b=some p)\/(∃i,i<bs.length/\b=n+i/\ps[i]?=some p):=λb p hb=>by
  by_cases h1:b<n
  ·exact .inl ⟨h1,by rw[<-hold b h1];exact hb⟩
  ·rw[hρ']at hb;simp only[if_neg h1]at hb;have:=(S'.1 hb).1;exact .inr ⟨b-n,by omega,by omega,hb⟩
 have hupo:∀b,b<n->upd V (vE n bs.length) (tk bs n m) b=V b:=λb hb=>by unfold upd;rw[pE,if_neg (by simp;omega)]
 have hupn:∀i,i<bs.length->upd V (vE n bs.length) (tk bs n m) (n+i)=bs[i]?:=λi hi=>by unfold upd;rw[pE,if_pos (by simp;omega)];exact NC hi
 refine⟨ρ',hnew,hle,λb p hb=>?_,⟨λb p O hb hO=>?_,λb1 b2 p1 p2 O1 O2 h1 h2 hO1 hO2 hne hw1=>?_,λb p hb'=>?_,Tz hm.le hbw.size,hm.gl.mono (hbw.mono hm.le)⟩,hbw.mono hm.le,Nat.le_add_right _ _,λk hk _=>hbw.block k hk,λb p hb'=>?_,λb hb'=>?_⟩
 ·rcases hinv b p hb with⟨h1,h2⟩|⟨i,hi,rfl,h2⟩
  ·exact .inl h2
  ·exact .inr ⟨by omega,by omega⟩
 ·rcases hinv b p hb with⟨h1,h2⟩|⟨i,hi,rfl,h2⟩
  ·rw[hupo b h1]at hO;exact(hm.blk b p O h2 hO).mono hle (hbw.block _ (hm.fresh b p h2))
  ·rw[hupn i hi]at hO;exact hr ρ' hle hnew i p O h2 hO
 ·rcases hinv b1 p1 h1 with⟨k1,k2⟩|⟨i1,hi1,rfl,k2⟩<;>rcases hinv b2 p2 h2 with⟨q1,q2⟩|⟨i2,hi2,rfl,q2⟩
  ·rw[hupo b1 k1]at hO1;rw[hupo b2 q1]at hO2;exact hm.ij b1 b2 p1 p2 O1 O2 k2 q2 hO1 hO2 hne hw1
  ·have:=hm.fresh b1 p1 k2;have:=(hps p2 (TF q2)).1;omega
  ·have:=hm.fresh b2 p2 q2;have:=(hps p1 (TF k2)).1;omega
  ·rw[hupn i1 hi1]at hO1;have:=hnw O1 (TF hO1);rw[this]at hw1;cases hw1
 ·rcases hinv b p hb' with⟨h1,h2⟩|⟨i,hi,rfl,h2⟩
  ·exact TC (hm.fresh b p h2) hbw.size
  ·exact(hps p (TF h2)).2
 ·rcases hinv b p hb' with⟨h1,h2⟩|⟨i,hi,rfl,h2⟩
  ·exact .inl h2
  ·exact .inr (.inl (hps p (TF h2)).1)
 ·rw[pE]at hb';simp at hb';have hi:b-n<ps.length:=by omega
  refine⟨⟨ps[b-n],?_⟩,λh=>by omega⟩;have:=hnew (b-n) _ (SH hi)
  rwa [show n+(b-n)=b by omega]at this
def placeOf:AT->Place
 | .slice (some a) _ c=>⟨a.block,0,c,1⟩
 |_=>⟨0,0,0,1⟩
theorem yi{ρ:Ren}(h:gY ρ [x,y] args'.toList):∃x' y',args'=#[x',y']/\VRel ρ x x'/\VRel ρ y y':=by
 obtain⟨l⟩:=args'
 match l,h with
 |[x',y'],h=>exact⟨x',y',rfl,h.2 0 _ _ rfl rfl,h.2 1 _ _ rfl rfl⟩
 |[],h=>exact absurd h.1 (by simp)
 |[_],h=>exact absurd h.1 (by simp)
 |_::_::_::_,h=>exact absurd h.1 (by simp)
theorem qg{ρ:Ren}(h:gY ρ [x] args'.toList):∃x',args'=#[x']/\VRel ρ x x':=by
 obtain⟨l⟩:=args'
 match l,h with
 |[x'],h=>exact⟨x',rfl,h.2 0 _ _ rfl rfl⟩
 |[],h=>exact absurd h.1 (by simp)
 |_::_::_,h=>exact absurd h.1 (by simp)
theorem tg{ρ:Ren}(hargs:gY ρ args args'.toList)(h1:args.all flat=true):args'=args.toArray:=by
 apply US;apply Vl;intro i;show args'.toList[i]?=args[i]?
 cases ha:args[i]? with
 |none=>have hl:=hargs.1;rw[List.getElem?_eq_none_iff]at ha ⊢;omega
 |some x=>
  have hi:i<args'.toList.length:=by rw[<-hargs.1];exact(S'.1 ha).1
  have hy:args'.toList[i]?=some args'.toList[i]:=SH hi;have:=(hargs.2 i _ _ ha hy).gQ (Tv.1 h1 x (TF ha));rw[hy,this]
theorem oD{ρ:Ren}{w:SE}{B:Nat}{xs:List AT}(h:w.ownsRow base e 1 v n ys)(hn:n≠0)(hxy:gY ρ xs ys):
  nA ρ w B (placeOf v) (.cells xs 1 false false)/\∃g cap,v=.slice (some ⟨g,0,none⟩) n cap/\n<=cap/\base<=g/\g<w.heap.size:=by
 obtain⟨hl,h2⟩:=h;rcases h2 with⟨_,h0⟩|⟨g,cap,cur,rfl,hb,hg,hc,_,hs,ht⟩
 ·exact absurd h0 hn
 ·refine⟨⟨rfl,cur,e,(0,0),hg,λi x hx=>?_,(λh=>by cases h),(λh=>by cases h),?_⟩,g,cap,rfl,hc,hb,(SB.1 hg).1⟩
  ·obtain⟨y,hy,hr⟩:=hxy.get hx;refine⟨y,?_,hr⟩;rw[<-ht,List.getElem?_take]at hy;split at hy
   ·show cur[0+i]?=some y;rw[TU,<-Array.getElem?_toList];exact hy
   ·cases hy
  ·have:=hxy.1;show 0+xs.length<=cur.size;omega
theorem nV{w:SE}(h:w.ownsRow base e 1 v n ys)(hn:n≠0):∃g cap,v=.slice (some ⟨g,0,none⟩) n cap/\n<=cap/\base<=g/\g<w.heap.size:=by
 obtain⟨hl,h2⟩:=h;rcases h2 with⟨_,h0⟩|⟨g,cap,cur,rfl,hb,hg,hc,_,hs,ht⟩
 ·exact absurd h0 hn
 ·exact⟨g,cap,rfl,hc,hb,(SB.1 hg).1⟩
section
variable{μ:Type}[AMem μ]{ρ:Ren}{V:Nat->Option Blk}{w w':SE}{B:Nat}
theorem Mz{m:μ}{sz F:Nat}{x':AT}{l:List AT}(hm:MRel ρ V w B)(hx:VRel ρ x x')(h:shown m n sz x=some (l,r))(hag:iX V m n F)(hF:Sub r F):
  (∃a c,x'=.slice a 0 c/\l=[])\/∃b o len c,x'=.slice (some ⟨b,o,none⟩) len c/\b<w.heap.size/\l.length=len*sz/\∀(j:Nat) v,l[j]?=some v->∃y,w.cell? ⟨b,o+j,none⟩=some y/\VRel ρ v y:=by
 unfold shown at h;split at h
 ·injection h with h;injection h with e1 e2;subst e1 e2
  exact .inl ⟨_,_,hx.gQ rfl,rfl⟩
 ·rename_i b o ln c;cases h0:SF ln 0
  ·rw[h0,cond_false]at h;have hne:ln≠0:=by intro e;subst e;simp at h0
   have hsh:∃p c',x'=.slice (some ⟨p.blk,p.base+o,none⟩) ln c'/\ρ b=some p:=by
    cases hx with
    |flat hf=>simp[flat]at hf
    |slice hp _ _ _ _=>exact⟨_,_,rfl,hp⟩
    |vag=>exact absurd rfl hne
   obtain⟨p,c',rfl,hp⟩:=hsh;unfold pW at h;split at h
   ·rename_i c1 s _ _ hg;cases hs:szF s sz
    ·rw[hs,cond_false]at h;cases h
    ·rw[hs,cond_true]at h
     cases hc:je c1 o (Vu ln sz)with
     |none=>rw[hc]at h;cases h
     |some l1=>
      rw[hc]at h;have h:some (l1,bit b)=some (l,r):=h;injection h with h;injection h with e1 e2;subst e1 e2
      obtain⟨_,hb⟩:=ji hm hag (hF b (by rw[gx];simp)) hg hp;obtain⟨_,h2,h3⟩:=uR hc;refine .inr ⟨_,_,_,_,rfl,hm.fresh b p hp,h2,λj v hv=>?_⟩;have hj:j<Vu ln sz:=by have:=(S'.1 hv).1;omega
      rw[h3 j hj]at hv;obtain⟨y,hy,hr⟩:=nP hb hv;exact⟨y,by rw[<-hy,Nat.add_assoc],hr⟩
   ·cases h
  ·rw[h0,cond_true]at h;injection h with h;injection h with e1 e2;subst e1 e2
   have h0:ln=0:=SG h0;subst h0
   have hsh:∃a c',x'=.slice a 0 c':=by
    cases hx with
    |flat hf=>simp[flat]at hf
    |slice hp _ _ _ _=>exact⟨_,_,rfl⟩
    |vag=>exact⟨_,_,rfl⟩
   obtain⟨a,c',rfl⟩:=hsh;exact .inl ⟨_,_,rfl,rfl⟩
 ·cases h
end
theorem Pd{ρ:Ren}{cs:Array AT}(hf:cs.toList.all flat=true)(h:VRel ρ (.agg cs) y):y=.agg cs:=by
 cases h with
 |flat h=>rfl
 |agg h1 h2=>
  rename_i cs';have e:cs'=cs:=by apply Array.ext (by omega);intro i hi hj;have hx:cs[i]?=some cs[i]:=SM hj;have hy:cs'[i]?=some cs'[i]:=SM hi;have hfl:flat cs[i]=true:=Tv.1 hf _ (by rw[<-Array.mem_def];exact Array.getElem_mem hj);exact((h2 i _ _ hx hy).gQ hfl)
  rw[e]
theorem Env0.BH{P:SZ}{tab:List (Nat×AFn)}{Y:Nat->List AT->FM->Nat->OR FM}(h:Env0 P tab Y){k f:Nat}{wm:Nat}(ha:args.all gy=true)(hv:∀ρ y,VRel ρ v y->y=v)
  (hrun:im (look tab) Y (exec P (look tab) Y k) f args FM0 0=.ok v m n r wm) (w:SE) (hgl:pt w.heap.size w):Calls P f args.toArray w λe w'=>e=.returned v/\Below w.heap.size w w':=by
 obtain⟨_,hc⟩:=h.calls k f args FM0 0 v m n r wm hrun (λ_=>none) (λ_=>none) w w.heap.size (OF r wm) args.toArray ⟨rfl,λi x y hx hy=>by
   have:x=y:=by simp at hy;rw[hx]at hy;injection hy
   subst this
   exact Bf ha _ x (TF hx)⟩ (Sub.refl _) (λb hb=>by omega) (AQ w hgl) (λ_ _=>rfl)
 refine hc.mono λe w' hh=>?_;obtain⟨ρ',v',rfl,hv',hp⟩:=hh;rw[hv _ _ hv'];exact⟨rfl,hp.below⟩
end Go.Am.CR
namespace Go.Am.CR
set_option maxRecDepth 100000
open Go Go.Am Go.RowKit
variable{v:AT}{f n' r wm n0 N:Nat}{m' M:FM}{args:List AT}{L:List Ex}{tab:List (Nat×AFn)}
section
variable{ρ:Ren}{V:Nat->Option Blk}{w:SE}{B:Nat}
theorem sT{m:FM}{n:Nat}(hm:MRel ρ V w B)(hfree:lN ρ n)(O:Blk){w':SE}(hbw:Below w.heap.size w w')(p:Place)(hp1:w.heap.size<=p.blk)(hp2:p.blk<w'.heap.size)(hO:∀ρ':Ren,ρ.le ρ'->nA ρ' w' B p O):
  ∃ρ':Ren,ρ' n=some p/\Post ρ V w B n (If m n (some O)) (n+1) (bit n) ρ' w':=by
 have hle:Ren.le ρ (λb=>if b=n then some p else ρ b):=by
  intro b q h;have:b≠n:=by intro e;subst e;rw[hfree b (IN _)]at h;cases h
  simp[this,h]
 have hinv:∀b q,(if b=n then some p else ρ b)=some q->(b=n/\q=p)\/(b≠n/\ρ b=some q):=λb q h=>by
  by_cases e:b=n
  ·rw[if_pos e]at h;injection h with h;exact .inl ⟨e,h.symm⟩
  ·rw[if_neg e]at h;exact .inr ⟨e,h⟩
 have hun:upd V (bit n) (If m n (some O)) n=some O:=by unfold upd;rw[gx,decide_eq_true rfl,if_pos rfl,AMem.get_put m n n _ rfl,if_pos rfl]
 have huo:∀b,b≠n->upd V (bit n) (If m n (some O)) b=V b:=λb hb=>by unfold upd;rw[gx,decide_eq_false (Ne.symm hb)];simp
 refine⟨λb=>if b=n then some p else ρ b,if_pos rfl,hle,λb q h=>?_,⟨λb q O' h hV=>?_,λb1 b2 p1 p2 O1 O2 h1 h2 hV1 hV2 hne hw=>?_,λb q h=>?_,Tz hm.le hbw.size,hm.gl.mono (hbw.mono hm.le)⟩,hbw.mono hm.le,Tf _,λk hk _=>hbw.block k hk,λb q h=>?_,λb hb=>?_⟩
 ·rcases hinv b q h with⟨rfl,_⟩|⟨_,h⟩
  ·exact .inr ⟨IN _,Td _⟩
  ·exact .inl h
 ·rcases hinv b q h with⟨rfl,rfl⟩|⟨hne,h⟩
  ·rw[hun]at hV;injection hV with hV
   subst hV;exact hO _ hle
  ·rw[huo b hne]at hV;exact(hm.blk b q O' h hV).mono hle (hbw.block q.blk (hm.fresh b q h))
 ·rcases hinv b1 p1 h1 with⟨rfl,rfl⟩|⟨hn1,k1⟩<;>rcases hinv b2 p2 h2 with⟨rfl,rfl⟩|⟨hn2,k2⟩
  ·exact absurd rfl hne
  ·have:=hm.fresh b2 p2 k2;omega
  ·have:=hm.fresh b1 p1 k1;omega
  ·rw[huo b1 hn1]at hV1;rw[huo b2 hn2]at hV2;exact hm.ij b1 b2 p1 p2 O1 O2 k1 k2 hV1 hV2 hne hw
 ·rcases hinv b q h with⟨rfl,rfl⟩|⟨_,h⟩
  ·exact hp2
  ·exact TC (hm.fresh b q h) hbw.size
 ·rcases hinv b q h with⟨rfl,rfl⟩|⟨_,h⟩
  ·exact .inr (.inl hp1)
  ·exact .inl h
 ·rw[gx]at hb;have hb:=of_decide_eq_true hb;subst hb;exact⟨⟨_,if_pos rfl⟩,λh=>absurd h (Nat.lt_irrefl _)⟩
end
def mcB(m:FM)(n b:Nat):Option Blk->OR FM
 |some (.map es)=>.ok (.map (some n)) (If m n (some (.map es))) (n+1) (bit b) (bit n)
 |_=>.no
def mcV(m:FM)(n:Nat):List AT->OR FM
 |[.map none]=>.ok (.map none) m n 0 0
 |[.map (some b)]=>mcB m n b (jc m n b)
 |_=>.no
def mcA(f:Nat)(args:List AT)(m:FM)(n:Nat):OR FM:=cond (SF f 164 || SF f 56) (mcV m n args) .no
theorem GF{m:FM}{n:Nat}(h:mcA f args m n=.ok v m' n' r wm):
  (f=164\/f=56)/\((args=[.map none]/\v=.map none/\m'=m/\n'=n/\r=0/\wm=0)\/∃b es,args=[.map (some b)]/\jc m n b=some (.map es)/\v=.map (some n)/\m'=If m n (some (.map es))/\n'=n+1/\r=bit b/\wm=bit n):=by
 unfold mcA at h;cases hb:(SF f 164 || SF f 56)
 ·rw[hb]at h;cases h
 rw[hb,cond_true]at h;rw[Uw]at hb;refine⟨hb.imp SG SG,?_⟩;unfold mcV at h;split at h
 ·injection h with e1 e2 e3 e4 e5
  exact .inl ⟨rfl,e1.symm,e2.symm,e3.symm,e4.symm,e5.symm⟩
 ·rename_i b;unfold mcB at h;split at h
  ·rename_i es hg;injection h with e1 e2 e3 e4 e5
   exact .inr ⟨b,es,rfl,hg,e1.symm,e2.symm,e3.symm,e4.symm,e5.symm⟩
  ·cases h
 ·cases h
theorem aaw:il (μ:=FM) mcA:=λf args m n v m' n' r wm h=>by
 rcases(GF h).2 with⟨_,_,rfl,rfl,_,rfl⟩|⟨b,es,_,_,_,rfl,rfl,_,rfl⟩
 ·exact Loc.refl _ _
 ·exact qk _ rfl
theorem Nu{ρ:Ren}{V:Nat->Option Blk}{w:SE}{B F:Nat}{m:FM}{n b:Nat}{es:List (AT×AT)}{x:AT}(hm:MRel ρ V w B)(hag:iX V m n F)(hF:F.testBit b=true)(hg:jc m n b=some (.map es))(hx:VRel ρ (.map (some b)) x):
  ∃p es' clock,x=.map (some p.blk)/\ρ b=some p/\w.heap[p.blk]?=some (.map es' clock)/\es'.toList.map (·.key)=es.map (·.1)/\gY ρ (es.map (·.2)) (es'.toList.map (·.val))/\Bn es' clock:=by
 cases hx with
 |flat h=>simp[flat]at h
 |map hp=>rename_i p;obtain⟨_,hb⟩:=rB hm hag hF hg hp;obtain⟨h1,es',clock,h2,h3,h4,h5⟩:=hb;exact⟨p,es',clock,rfl,hp,h2,h3,h4,h5⟩
theorem aav:iw (μ:=FM) SR mcA:=by
 intro f args m n v m' n' r wm h ρ V w B F args' hargs hF hag hm hfree;obtain⟨hf,h⟩:=GF h;refine⟨?_,?_⟩
 ·rcases hf with rfl|rfl
  ·exact⟨_,_,Proofs.Tryz.func164,by decide +kernel,rfl⟩
  ·exact⟨_,_,Proofs.Tryz.func56,by decide +kernel,rfl⟩
 rcases h with⟨rfl,rfl,rfl,rfl,rfl,rfl⟩|⟨b,es,rfl,hg,rfl,rfl,rfl,rfl,rfl⟩
 ·obtain⟨x',rfl,hx⟩:=qg hargs;obtain rfl:=hx.gQ rfl
  have hc:Calls SR f #[.map none] w λe w'=>e=.returned (.map none)/\w'=w:=by
   rcases hf with rfl|rfl
   ·exact WW Proofs.Tryz.OC w
   ·exact WW Proofs.Tryz.OE w
  refine hc.mono ?_;rintro e w' ⟨rfl,rfl⟩;exact⟨ρ,_,rfl,.flat rfl,Post.same hm _ _⟩
 ·obtain⟨x',rfl,hx⟩:=qg hargs;obtain⟨p,es',clock,rfl,hp,h2,h3,h4,h5⟩:=Nu hm hag (hF b (by rw[gv,gx];simp)) hg hx
  have hc:Calls SR f #[.map (some p.blk)] w λe w'=>e=.returned (.map (some w.heap.size))/\w'=w.alloc (.map es' clock):=by
   rcases hf with rfl|rfl
   ·exact Xo Proofs.Tryz.OC p.blk es' clock w h2
   ·exact Xo Proofs.Tryz.OE p.blk es' clock w h2
  refine hc.mono ?_;rintro e w' ⟨rfl,rfl⟩;obtain⟨ρ',hρ,hpost⟩:=sT (m:=m) hm hfree (.map es) ((S0 _ w).alloc (IN _) (.map es' clock)) ⟨w.heap.size,0,0,0⟩ (IN _) (by simp) λρ' hle=>⟨hm.le,es',clock,heap_alloc w _,h3,h4.mono hle,h5⟩;exact⟨ρ',_,rfl,.map hρ,hpost⟩
theorem adV:YUp mcA:=λf args m n v m' n' r wm h=>by
 rcases(GF h).2 with⟨_,_,rfl,rfl,rfl,rfl⟩|⟨b,es,_,hg,_,rfl,rfl,rfl,rfl⟩
 ·exact⟨IN _,λb hb=>⟨by simp,by simp⟩⟩
 ·have hb:b<n:=by
   unfold jc at hg;cases hl:Nat.blt b n
   ·rw[hl]at hg;cases hg
   ·exact Uo hl
  exact⟨Tf _,λc hc=>⟨by rw[gx];simp;omega,by rw[gx];simp;omega⟩⟩
theorem ze(hf:f=164\/f=56){Y:Nat->List AT->FM->Nat->OR FM}(hY:∀args m n v m' n' r w,mcA f args m n=.ok v m' n' r w->Y f args m n=.ok v m' n' r w):lL Y f:=by
 have hfb:(SF f 164 || SF f 56)=true:=by rcases hf with rfl|rfl<;>rfl
 refine⟨λm n=>⟨0,hY _ _ _ _ _ _ _ _ ?_⟩,λm n b es hb hm=>?_⟩
 ·unfold mcA;rw[hfb];rfl
 ·have h:mcA f [.map (some b)] m n=.ok (.map (some n)) (If m n (some (.map es))) (n+1) (bit b) (bit n):=by unfold mcA;rw[hfb];show mcB m n b (jc m n b)=_;rw[ig hb,hm];rfl
  rw[hY _ _ _ _ _ _ _ _ h];exact⟨Tf _,λc hc=>gu,λj hj=>mZ λi hi=>by rw[gx];simp;omega,n,rfl,IN _,Td _,eB _ _ _⟩
theorem Ey{p:UInt8->Bool}:∀{l:List UInt8},(∀x∈l.dropWhile p,p x=true)->∀x∈l,p x=true
 |[],_,x,hx=>by cases hx
 |a::l,h,x,hx=>by
  rw[Yg]at h
  cases ha:p a with
  |true=>
   rw[if_pos ha]at h;rcases TG.1 hx with rfl|hx
   ·exact ha
   ·exact Ey h x hx
  |false=>rw[ha,if_neg (by decide)]at h;rw[h a (Tk ..)]at ha;cases ha
theorem drop_nil{p:UInt8->Bool}:∀{l:List UInt8},l.dropWhile p=[]↔∀x∈l,p x=true
 |[]=>by simp
 |a::l=>by
  rw[Yg]
  cases ha:p a with
  |true=>rw[if_pos rfl,drop_nil (l:=l)];simp[ha]
  |false=>simp[ha]
theorem JD{l cs:List UInt8}:VW l cs=[]↔∀x∈l,cs.contains x=true:=by
 unfold VW Lib.trimLeftS;rw[drop_nil];constructor
 ·intro h x hx;refine Ey (p:=(cs.contains ·)) (l:=l.reverse) (λy hy=>h y ?_) x (Wh.2 hx);unfold Lib.trimRightS;exact Wh.2 hy
 ·intro h x hx;unfold Lib.trimRightS at hx;have:=(List.dropWhile_sublist (cs.contains ·)).subset (Wh.1 hx);exact h x (Wh.1 this)
theorem aa9:∀n:Fin 256,tT.data.toList.contains (UInt8.ofNat n.val)=II n.val:=by decide
theorem Og(x:UInt8):tT.data.toList.contains x=II x.toNat:=by
 have:=aa9 ⟨x.toNat,x.toNat_lt⟩
 rwa [UInt8.ofNat_toNat]at this
theorem Md(s:ByteArray):(⟨(VW s.data.toList tT.data.toList).toArray⟩:ByteArray)=⟨#[]⟩↔Rg s 0 s.size:=by
 have h1:(⟨(VW s.data.toList tT.data.toList).toArray⟩:ByteArray)=⟨#[]⟩↔VW s.data.toList tT.data.toList=[]:=by
  constructor
  ·intro h;injection h with h
   simpa using h
  ·intro h;rw[h]
 rw[h1,JD];have hl:s.data.toList.length=s.size:=rfl;have hb:∀i (h:i<s.size),bt s i=(s.data.toList[i]'h).toNat:=λi h=>by unfold bt;rw[List.getD_eq_getElem?_getD,SH h];rfl
 constructor
 ·intro h i _ hi;rw[hb i hi,<-Og];exact h _ (Tb _)
 ·intro h x hx;obtain⟨i,hi,rfl⟩:=List.mem_iff_getElem.1 hx;rw[Og,<-hb i hi];exact h i (Tq _) hi
def trV(m:FM)(n:Nat):List AT->OR FM
 |[.string s,.string c]=>if c=tT/\s.size<=16 then .ok (.string ⟨(VW s.data.toList tT.data.toList).toArray⟩) m n 0 0 else .no
 |_=>.no
def trA(f:Nat)(args:List AT)(m:FM)(n:Nat):OR FM:=cond (SF f 116) (trV m n args) .no
theorem FP{m:FM}{n:Nat}(h:trA f args m n=.ok v m' n' r wm):f=116/\∃s:ByteArray,args=[.string s,.string tT]/\s.size<=16/\v=.string ⟨(VW s.data.toList tT.data.toList).toArray⟩/\m'=m/\n'=n/\r=0/\wm=0:=by
 unfold trA at h;cases hb:SF f 116
 ·rw[hb]at h;cases h
 rw[hb,cond_true]at h;refine⟨SG hb,?_⟩;unfold trV at h;split at h
 ·split at h
  ·rename_i s c hc;obtain⟨rfl,hs⟩:=hc;injection h with e1 e2 e3 e4 e5
   exact⟨s,rfl,hs,e1.symm,e2.symm,e3.symm,e4.symm,e5.symm⟩
  ·cases h
 ·cases h
theorem RA:il (μ:=FM) trA:=λf args m n v m' n' r wm h=>by obtain⟨_,s,_,_,_,rfl,rfl,_,rfl⟩:=FP h;exact Loc.refl _ _
theorem adk:YUp trA:=λf args m n v m' n' r wm h=>by obtain⟨_,s,_,_,_,rfl,rfl,rfl,rfl⟩:=FP h;exact⟨IN _,λb hb=>⟨by simp,by simp⟩⟩
theorem Rz:iw (μ:=FM) SR trA:=by intro f args m n v m' n' r wm h ρ V w B F args' hargs hF hag hm hfree;obtain⟨rfl,s,rfl,hs,rfl,rfl,rfl,rfl,rfl⟩:=FP h;obtain rfl:=tg hargs rfl;refine⟨⟨_,_,Proofs.Tryz.func116,by decide +kernel,rfl⟩,?_⟩;have hc:Calls SR 116 #[.string s,.string tT] w λe w'=>e=.returned (.string ⟨(VW s.data.toList tT.data.toList).toArray⟩)/\Below w.heap.size w w':=Proofs.Any.strings_Trim_laid Proofs.Tryz.aaG (by kernel_rfl) s tT w (by omega) (by decide) (Proofs.ascii_of_all (by decide));refine hc.mono ?_;rintro e w' ⟨rfl,hb⟩;exact⟨ρ,_,rfl,.flat rfl,Post.rA hm hb⟩
theorem Mg{Y:Nat->List AT->FM->Nat->OR FM}(hY:∀args m n v m' n' r w,trA 116 args m n=.ok v m' n' r w->Y 116 args m n=.ok v m' n' r w):nK Y:=by intro m n s hs;refine⟨_,Md s,0,hY _ _ _ _ _ _ _ _ ?_⟩;show(if tT=tT/\s.size<=16 then _ else _)=_;rw[if_pos ⟨rfl,hs⟩]
def oI:AC:=
(.post (.seq (.reg [.op (.bin .lss 3 (.v 1) (.v 3))])
(.seq (.cond (.v 0) .skip
(.pre [1] 3 (.exit 0)))
(.seq (.block 1 [[3],[12],[],[11],[],[10],[],[2],[0,9]] (.post (.seq (.reg [.op (.idx 1 (.v 7) (.v 2)),
 .op (.ld1 (.v 0)),
 .nop 0])
(.seq (.reg [.nop 3,
 .nop 0,
 .op (.len false (.v 0)),
 .op (.bin .add 3 (.v 4) (.v 0)),
 .nop 0])
(.seq (.reg [.nop 0,
 .op (.bin .lss 3 (.v 0) (.c (.int .i64 0)))])
(.cond (.v 0) (.cond (.c (.tuple #[])) .skip .skip)
.skip)))) [1] 5))
(.reg [.op (.bin .add 3 (.v 3) (.c (.int .i64 1))),
 .nop 0])))) [1,0] 5)
def qJ:AC:=.loop [[3],[11],[],[10],[],[2],[0,9]] oI
def oH:AC:=
(.post (.seq (.reg [.op (.bin .lss 3 (.v 1) (.v 3))])
(.seq (.cond (.v 0) .skip
(.pre [1] 3 (.exit 2)))
(.seq (.block 3 [[6],[28],[],[27],[],[26],[24],[3,23],[],[10],[],[2],[0,9,25]] (.post (.seq (.reg [.op (.idx 1 (.v 11) (.v 2)),
 .op (.ld1 (.v 0)),
 .nop 0])
(.reg [.nop 3,
 .nop 0,
 .op (.app 3 24 (.v 3) (.v 0)),
 .nop 0])) [0] 3))
(.reg [.op (.bin .add 3 (.v 3) (.c (.int .i64 1))),
 .nop 0])))) [1,0] 5)
def qI:AC:=.loop [[6],[27],[],[26],[24],[3,23],[],[10],[],[2],[0,9,25]] oH
def FA:AFn:=⟨1,[],
(.seq (.reg [.op (.mov (.c (.slice none 0 0)))])
(.seq (.reg [.op (.mov (.c (.int .i64 0)))])
(.seq (.seq (.reg [.nop 2,
 .op (.len false (.v 2)),
 .op (.mov (.c (.int .i64 0)))])
(.block 0 [[3],[],[10],[],[2],[0,9]] (.pre [2,0] 0 qJ)))
(.seq (.reg [.nop 0,
 .op (.call 388 [(.c (.slice none 0 0)),(.v 0)]),
 .nop 0])
(.seq (.seq (.reg [.nop 6,
 .op (.len false (.v 6)),
 .op (.mov (.c (.int .i64 0)))])
(.block 2 [[6],[],[26],[24],[3,23],[],[10],[],[2],[0,9,25]] (.pre [2,0] 0 qI)))
(.seq (.reg [.nop 0,
 .nop 0])
(.ret [.v 0])))))))⟩
theorem aet:zE SR Proofs.Tryz.f350 FA=true:=by kernel_rfl
def Df:Nat->Option AFn:=look [(350,FA)]
theorem e350':Df 350=some FA:=rfl
def grK(m:FM)(n:Nat):Nat->OR FM
 |0=>.ok (.slice none 0 0) m n 0 0
 |j+1=>cond (Tj j 1000000) (.ok (.slice (some ⟨n,0,none⟩) 0 UNK) (If m n (some (.cells [] 3 true true))) (n+1) 0 (bit n)) .no
def grV(m:FM)(n:Nat):List AT->OR FM
 |[.slice none 0 0,.int .i64 (.ofNat k)]=>grK m n k
 |_=>.no
def grA(f:Nat)(args:List AT)(m:FM)(n:Nat):OR FM:=cond (SF f 388) (grV m n args) .no
def Gr(M:FM)(n0 N:Nat)(v:AT)(L:List Ex):Prop:=(L=[]/\v=.slice none 0 0)\/∃b,v=.slice (some ⟨b,0,none⟩) L.length UNK/\n0<=b/\b<N/\M b=some (.cells (exC L) 3 true true)
theorem Gr.one(h:Gr M n0 N v L):Am.one v=true:=by rcases h with⟨_,rfl⟩|⟨b,rfl,_⟩<;>rfl
theorem OZ{K:List Ex}(h:Gr M n0 N v L)(ya:Option Addr)(yc ry:Nat)(h0:n0<=N)(hl:L.length+K.length<=1000000):
  Rt (nl 3 24 M N v (.slice ya K.length yc) (shown M N 3 v) (some (exC K,ry))) λv' M' N' w=>N<=N'/\Gr M' n0 N' v' (L++K)/\(∀b,b<n0->M' b=M b)/\(∀j,j<=n0->SL w (bit j)=0):=by
 rcases h with⟨rfl,rfl⟩|⟨bx,rfl,hbx,hbN,hM⟩
 ·rw[mg,j9,j8,show(exC K,ry).1.all Am.one=true from tb K,gI (show 0<3 by omega),gI (show 0<24 by omega),iq (show(0+K.length)*24<=140737488355328 by simp only[List.length_nil]at hl;omega)];rcases Ug K.length with h1|h1
  ·obtain rfl:=SV.1 h1;exact⟨IN _,.inl ⟨rfl,rfl⟩,λ_ _=>rfl,λj _=>Wa _⟩
  ·show Rt (xd M N 3 0 K.length 0 [] (exC K) _ none) _;rw[nu h1];refine⟨Tf _,.inr ⟨N,?_,h0,Td _,eB _ _ _⟩,λb hb=>gu,λj hj=>eS (by omega)⟩;rw[TU];rfl
 ·have hsh:shown M N 3 (.slice (some ⟨bx,0,none⟩) L.length UNK)=some (exC L,bit bx)\/(L=[]/\shown M N 3 (.slice (some ⟨bx,0,none⟩) L.length UNK)=some ([],0)):=by
   rcases Ug L.length with h1|h1
   ·obtain rfl:=SV.1 h1;exact .inr ⟨rfl,rfl⟩
   ·refine .inl ?_;rw[jL h1,ig hbN,hM,jr,Nat.beq_refl,ja,kT,lD (jA L).symm];rfl
  have key:∀r,Rt (nl 3 24 M N (.slice (some ⟨bx,0,none⟩) L.length UNK) (.slice ya K.length yc) (some (exC L,r)) (some (exC K,ry))) λv' M' N' w=>N<=N'/\Gr M' n0 N' v' (L++K)/\(∀b,b<n0->M' b=M b)/\(∀j,j<=n0->SL w (bit j)=0):=λr=>by rw[j9,j8,show(exC K,ry).1.all Am.one=true from tb K,gI (show 0<3 by omega),gI (show 0<24 by omega),iq (show(L.length+K.length)*24<=140737488355328 by omega),np,ig hbN,hM,pd];exact⟨Tf _,.inr ⟨N,by rw[IT],h0,Td _,by rw[nM];exact eB _ _ _⟩,λb hb=>by rw[en _ _ _ _ (by omega),en _ _ _ _ (by omega)],λj hj=>(by simp(disch:=omega)only[fB,eS,eR,and_self])⟩
  rcases hsh with h1|⟨rfl,h1⟩
  ·rw[h1];exact key _
  ·rw[h1];exact key _
theorem Kx{E:Nat->Option AFn}(hE:E 388=none){m:FM}{n k:Nat}(hk:k<=1000000):Rt (fL PG E grA 388 [.slice none 0 0,.int .i64 (k:Int)] m n) λv m' n' w=>n<=n'/\Gr m' n n' v []/\(∀b,b<n->m' b=m b)/\(∀j,j<=n->SL w (bit j)=0):=by
 rw[kU hE]
 cases k with
 |zero=>exact⟨IN _,.inl ⟨rfl,rfl⟩,λ_ _=>rfl,λj _=>Wa _⟩
 |succ k=>
  have:grA 388 [.slice none 0 0,.int .i64 ((k+1:Nat):Int)] m n=.ok (.slice (some ⟨n,0,none⟩) 0 UNK) (If m n (some (.cells [] 3 true true))) (n+1) 0 (bit n):=by show(cond (Tj k 1000000) _ OR.no)=_;rw[iq (by omega)];rfl
  rw[this];exact⟨Tf _,.inr ⟨n,rfl,IN _,Td _,eB _ _ _⟩,λb hb=>gu,λj hj=>eS (by omega)⟩
theorem abk{m:FM}{n:Nat}(x2 x4 x5 x6:AT)(z:Nat):Gv (gD PG Df grA qJ [.int .i64 (z:Int),.int .i64 ((2:Nat):Int),x2,.int .i64 ((2:Nat):Int),x4,x5,x6] m n) λX e M N w=>M=m/\N=n/\w=0/\X=.exit 0/\e=[.int .i64 (z:Int),x2,.int .i64 ((2:Nat):Int),x4,x5,x6]:=by refine gA (L:=qJ) (b:=oI) rfl ?_;simp only[oI];simp(disch:=omega)only[W_,eu,to]
theorem abh{m:FM}{n:Nat}(acc x2:AT)(tl:List AT):Gv (gD PG Df grA qI ([acc,.int .i64 ((2:Nat):Int),x2,.int .i64 ((2:Nat):Int)]++tl) m n) λX e M N w=>M=m/\N=n/\w=0/\X=.exit 2/\e=[acc,x2,.int .i64 ((2:Nat):Int)]++tl:=by refine gA (L:=qI) (b:=oH) rfl ?_;simp only[oH,SK,SJ];simp(disch:=omega)only[W_,eu,to]
theorem abi{m:FM}{n lb k:Nat}{v1 v2:AT}{L1 L2:List Ex}{opn wr:Bool}(hlb:lb<n)(hm:m lb=some (.cells [v1,v2] 1 opn wr))(h2:Exs m n v2 L2)(hl:L1.length+L2.length<=200000)(x2 x4 x5 x6 x7 x8 x9:AT)(M:FM)(N:Nat)(hN:n<=N)(hf:∀b,b<n->M b=m b)(acc:AT)(hG:Gr M n N acc L1):Gv (gD PG Df grA qI ([acc,.int .i64 ((1:Nat):Int),x2,.int .i64 ((2:Nat):Int)]++[x4,x5,x6,x7,x8,x9,.slice (some ⟨lb,0,none⟩) 2 k]) M N) λX e M' N' w=>X=.exit 2/\N<=N'/\(∀b,b<n->M' b=m b)/\(∀j,j<=n->SL w (bit j)=0)/\∃acc',e=[acc',x2,.int .i64 ((2:Nat):Int)]++[x4,x5,x6,x7,x8,x9,.slice (some ⟨lb,0,none⟩) 2 k]/\Gr M' n N' acc' (L1++L2):=by refine gA (L:=qI) (b:=oH) rfl ?_;simp only[oH,SK,SJ];have o2:=h2.one;have og:=hG.one;have hm':=(hf lb hlb).trans hm;obtain⟨ya,yc,ry,e4,e5⟩:=(h2.frame hN hf).shown;have hap:=OZ (K:=L2) hG ya yc ry hN (by omega);rw[<-e4,<-e5]at hap;simp(disch:=omega)only[W_,eu,to,hm',o2,og];refine fI hap λv1 M1 n1 r1 w1 ⟨k1,G1,f1,g1⟩=>?_;have o1:=G1.one;simp(disch:=omega)only[W_,eu,to,o1];refine gR (abh _ _ [x4,x5,x6,x7,x8,x9,.slice (some ⟨lb,0,none⟩) 2 k]) λX e m' n' w ⟨hM,hN',hw,hX,he⟩=>?_;subst hM hN' hw;exact⟨hX,k1,λb hb=>(f1 b (by omega)).trans (hf b hb),λj hj=>(by simp(disch:=omega)only[fB,eS,eR,and_self,g1]),_,he,G1⟩
section
variable{m:FM}{n lb k:Nat}{v1 v2:AT}{L1 L2:List Ex}{opn wr:Bool}(hlb:lb<n)(hm:m lb=some (.cells [v1,v2] 1 opn wr))(h1:Exs m n v1 L1)(h2:Exs m n v2 L2)(hl:L1.length+L2.length<=200000)
include hlb hm h1 h2 hl
theorem abl(x2 x4 x5:AT):Gv (gD PG Df grA qJ [.int .i64 (L1.length:Int),.int .i64 ((1:Nat):Int),x2,.int .i64 ((2:Nat):Int),x4,x5,.slice (some ⟨lb,0,none⟩) 2 k] m n) λX e M N w=>M=m/\N=n/\w=0/\X=.exit 0/\e=[.int .i64 ((L1.length+L2.length:Nat):Int),x2,.int .i64 ((2:Nat):Int),x4,x5,.slice (some ⟨lb,0,none⟩) 2 k]:=by refine gA (L:=qJ) (b:=oI) rfl ?_;simp only[oI];have o2:=h2.one;simp(disch:=omega)only[W_,eu,to,hm,h2.len];refine gR (abk _ _ _ _ _) λX e m' n' w ⟨hM,hN,hw,hX,he⟩=>?_;subst hM hN hw;exact⟨rfl,rfl,by simp,hX,he⟩
theorem abm(x2 x4 x5:AT):Gv (gD PG Df grA qJ [.int .i64 0,.int .i64 0,x2,.int .i64 ((2:Nat):Int),x4,x5,.slice (some ⟨lb,0,none⟩) 2 k] m n) λX e M N w=>M=m/\N=n/\w=0/\X=.exit 0/\e=[.int .i64 ((L1.length+L2.length:Nat):Int),x2,.int .i64 ((2:Nat):Int),x4,x5,.slice (some ⟨lb,0,none⟩) 2 k]:=by refine gA (L:=qJ) (b:=oI) rfl ?_;simp only[oI];have o1:=h1.one;simp(disch:=omega)only[W_,eu,to,hm,h1.len];refine gR (abl hlb hm h1 h2 hl _ _ _) λX e m' n' w ⟨hM,hN,hw,hX,he⟩=>?_;subst hM hN hw;exact⟨rfl,rfl,by simp,hX,he⟩
theorem abj(x2 x4 x5 x6 x7 x8 x9:AT)(M:FM)(N:Nat)(hN:n<=N)(hf:∀b,b<n->M b=m b)(acc:AT)(hG:Gr M n N acc []):Gv (gD PG Df grA qI ([acc,.int .i64 0,x2,.int .i64 ((2:Nat):Int)]++[x4,x5,x6,x7,x8,x9,.slice (some ⟨lb,0,none⟩) 2 k]) M N) λX e M' N' w=>X=.exit 2/\N<=N'/\(∀b,b<n->M' b=m b)/\(∀j,j<=n->SL w (bit j)=0)/\∃acc',e=[acc',x2,.int .i64 ((2:Nat):Int)]++[x4,x5,x6,x7,x8,x9,.slice (some ⟨lb,0,none⟩) 2 k]/\Gr M' n N' acc' (L1++L2):=by refine gA (L:=qI) (b:=oH) rfl ?_;simp only[oH,SK,SJ];have o2:=h1.one;have og:=hG.one;have hm':=(hf lb hlb).trans hm;obtain⟨ya,yc,ry,e4,e5⟩:=(h1.frame hN hf).shown;have hap:=OZ (K:=L1) hG ya yc ry hN (by simp;omega);rw[<-e4,<-e5]at hap;simp(disch:=omega)only[W_,eu,to,hm',o2,og];refine fI hap λv1 M1 n1 r1 w1 ⟨k1,G1,f1,g1⟩=>?_;have o1:=G1.one;simp(disch:=omega)only[W_,eu,to,o1];refine gR (abi hlb hm h2 hl _ _ _ _ _ _ _ M1 n1 (by omega) (λb hb=>(f1 b (by omega)).trans (hf b hb)) _ G1) λX e m' n' w ⟨hX,hN',hf',hw,he⟩=>?_;exact⟨hX,by omega,hf',λj hj=>by have h3:=g1 j hj;have h4:=hw j hj;exact(by simp(disch:=omega)only[fB,eS,eR,and_self,h3,h4]),he⟩
end
theorem Oq{m:FM}{n lb k:Nat}{v1 v2:AT}{L1 L2:List Ex}{opn wr:Bool}(hlb:lb<n)(hm:m lb=some (.cells [v1,v2] 1 opn wr))(h1:Exs m n v1 L1)(h2:Exs m n v2 L2)(hl:L1.length+L2.length<=200000):
  Rt (fL PG Df grA 350 [.slice (some ⟨lb,0,none⟩) 2 k] m n) λv m' n' w=>n<=n'/\(∀b,b<n->m' b=m b)/\(∀j,j<=n->SL w (bit j)=0)/\Exs m' n' v (L1++L2):=by
 refine mT (R:=λv' m' n'=>Exs m' n' v' (L1++L2)) e350' rfl λQ hQ=>?_;simp only[FA];have o1:=h1.one;have o2:=h2.one;simp(disch:=omega)only[W_,eu,to];refine ic (abm hlb hm h1 h2 hl _ _ _) λX e M1 n1 r1 w1 ⟨hM,hN,hw,hX,he⟩=>?_;subst hM hN;subst hw hX he;simp(disch:=omega)only[W_,eu,to];refine fI (Kx rfl (by omega)) λv1' M1 n1 r1' w1 ⟨k1,G1,f1,g1⟩=>?_;have og:=G1.one;simp(disch:=omega)only[W_,eu,to,og];refine ic (abj hlb hm h1 h2 hl _ _ _ _ _ _ _ M1 n1 k1 f1 _ G1) λX e M2 n2 r2 w2 ⟨hX,k2,f2,g2,acc,he,G2⟩=>?_;subst hX he;have o2:=G2.one;simp only[SK,SJ];simp(disch:=omega)only[W_,eu,to,o2];refine hQ _ _ _ _ _ (by omega) f2 (by simp(disch:=omega)only[fB,eS,eR,and_self,g1,g2]) (λ_=>?_) (λhf=>?_)
 ·rcases G2 with⟨hL,rfl⟩|⟨b,rfl,_,hb,hM⟩
  ·exact .inl ⟨hL,rfl⟩
  ·exact .inr ⟨b,UNK,[],true,true,rfl,hb,by rw[List.append_nil];exact hM⟩
 ·rcases G2 with⟨hL,rfl⟩|⟨b,rfl,_,hb,hM⟩
  ·exact .inl ⟨hL,rfl⟩
  ·cases hf
theorem mixR:SR.follows .mixedOrders=true:=by kernel_rfl
def FR(E:Nat->Option AFn)(Yi:Nat->List AT->FM->Nat->OR FM)(f0 f:Nat)(args:List AT)(m:FM)(n:Nat):OR FM:=cond (SF f f0) (fL PG E Yi f args m n) .no
theorem BK{E:Nat->Option AFn}{Yi:Nat->List AT->FM->Nat->OR FM}{f0:Nat}{m:FM}{n w:Nat}(h:FR E Yi f0 f args m n=.ok v m' n' r w):f=f0/\fL PG E Yi f args m n=.ok v m' n' r w:=by
 unfold FR at h;cases hb:SF f f0
 ·rw[hb]at h;cases h
 ·rw[hb]at h;exact⟨SG hb,h⟩
theorem RG{Yi:Nat->List AT->FM->Nat->OR FM}(f0:Nat)(hl:il Yi)(hs:iw PG Yi)(hg:Am.Good SR tab):iw PG (FR (look tab) Yi f0):=by intro f args m n v m' n' r wm h;obtain⟨k,hk⟩:=zL (BK h).2;exact zJ hl hs hg.look (uN mixR zB hl hs hg.look k).1 f args m n v m' n' r wm hk
theorem RH{Yi:Nat->List AT->FM->Nat->OR FM}(f0:Nat)(hl:il Yi):il (FR (look tab) Yi f0):=by intro f args m n v m' n' r wm h;obtain⟨k,hk⟩:=zL (BK h).2;exact uT hl (jS hl k) hk
theorem adq{E:Nat->Option AFn}{Yi:Nat->List AT->FM->Nat->OR FM}(f0:Nat)(hu:YUp Yi):YUp (FR E Yi f0):=λf args m n v m' n' r wm h=>zK hu (BK h).2
theorem GY{m:FM}{n:Nat}(h:grA f args m n=.ok v m' n' r wm):f=388/\∃k:Nat,args=[.slice none 0 0,.int .i64 (k:Int)]/\k<=1000001/\((k=0/\v=.slice none 0 0/\m'=m/\n'=n/\r=0/\wm=0)\/(0<k/\v=.slice (some ⟨n,0,none⟩) 0 UNK/\m'=If m n (some (.cells [] 3 true true))/\n'=n+1/\r=0/\wm=bit n)):=by
 unfold grA at h;cases hb:SF f 388
 ·rw[hb]at h;cases h
 rw[hb,cond_true]at h;refine⟨SG hb,?_⟩;unfold grV at h;split at h
 ·rename_i k;unfold grK at h;split at h
  ·injection h with e1 e2 e3 e4 e5
   exact⟨0,rfl,by omega,.inl ⟨rfl,e1.symm,e2.symm,e3.symm,e4.symm,e5.symm⟩⟩
  ·rename_i j;cases hc:Tj j 1000000
   ·rw[hc]at h;cases h
   ·rw[hc,cond_true]at h;injection h with e1 e2 e3 e4 e5
    have:=Uo hc;exact⟨j+1,rfl,by omega,.inr ⟨by omega,e1.symm,e2.symm,e3.symm,e4.symm,e5.symm⟩⟩
 ·cases h
theorem IK:il (μ:=FM) grA:=λf args m n v m' n' r wm h=>by
 obtain⟨_,k,_,_,⟨_,_,rfl,rfl,_,rfl⟩|⟨_,_,rfl,rfl,_,rfl⟩⟩:=GY h
 ·exact Loc.refl _ _
 ·exact qk _ rfl
theorem aed:YUp grA:=λf args m n v m' n' r wm h=>by
 obtain⟨_,k,_,_,⟨_,_,rfl,rfl,rfl,rfl⟩|⟨_,_,rfl,rfl,rfl,rfl⟩⟩:=GY h
 ·exact⟨IN _,λb hb=>⟨by simp,by simp⟩⟩
 ·exact⟨Tf _,λc hc=>⟨by simp,by rw[gx];simp;omega⟩⟩
theorem Co:(SR.info? 231).map (λi=>(i.zero,i.size,i.bytes))=some (some (.agg #[.int .i64 0,.int .i64 0,.int .i64 0]),3,24):=by kernel_rfl
theorem aaQ:iw (μ:=FM) SR grA:=by
 intro f args m n v m' n' r wm h ρ V w B F args' hargs hF hag hm hfree;obtain⟨rfl,k,rfl,hk,h⟩:=GY h;obtain rfl:=tg hargs rfl;refine⟨⟨_,_,Proofs.Tryz.func388,by decide +kernel,rfl⟩,?_⟩;rcases h with⟨rfl,rfl,rfl,rfl,rfl,rfl⟩|⟨h0,rfl,rfl,rfl,rfl,rfl⟩
 ·have hc:Calls SR 388 #[.slice none 0 0,.int .i64 ((0:Nat):Int)] w λe w'=>e=.returned (.slice none 0 0)/\w'=w:=Proofs.Any8.slices_Grow_room Proofs.Tryz.acL none 0 0 0 w (by omega) (by omega) (by omega) (by omega);refine hc.mono ?_;rintro e w' ⟨rfl,rfl⟩;exact⟨ρ,_,rfl,.flat rfl,Post.same hm _ _⟩
 ·obtain⟨i0,hi,hz,hs,hb⟩:=info_parts Co;have hc:Calls SR 388 #[.slice none 0 0,.int .i64 (k:Int)] w λe w'=>e=.returned (.slice (some ⟨w.heap.size,0,none⟩) 0 (grownCap w (0+k) 0 231))/\w'=w.drew.alloc (.cells (([]:List AT).toArray++U1 (Value.agg #[.int .i64 0,.int .i64 0,.int .i64 0]).cells (0+k-0)++U1 (Value.agg #[.int .i64 0,.int .i64 0,.int .i64 0]).cells (grownCap w (0+k) 0 231-(0+k))) 231):=Proofs.Any8.slices_Grow_grow Proofs.Tryz.acL i0 _ hi hz (by rw[hs];decide) none 0 0 k [] w (by omega) (by omega) (by rw[hb];omega) (by omega) (by simp) (λ_=>rfl) (λa h=>by cases h);refine hc.mono ?_;rintro e w' ⟨rfl,rfl⟩;have hge:0+k<=grownCap w (0+k) 0 231:=grownCap_ge w _ _ _;generalize grownCap w (0+k) 0 231=cap at hge ⊢;obtain⟨cc,hcc⟩:∃cc:Array AT,cc=([]:List AT).toArray++U1 (Value.agg #[.int .i64 0,.int .i64 0,.int .i64 0]).cells (0+k-0)++U1 (Value.agg #[.int .i64 0,.int .i64 0,.int .i64 0]).cells (cap-(0+k)):=⟨_,rfl⟩;have hsz:cc.size=cap*3:=by rw[hcc];have h3:(Value.agg #[.int .i64 0,.int .i64 0,.int .i64 0]).cells.size=3:=rfl;simp[U1,h3];omega
  rw[<-hcc];obtain⟨ρ',hρ,hpost⟩:=sT (m:=m) hm hfree (.cells [] 3 true true) (w':=w.drew.alloc (.cells cc 231)) (((S0 _ w).drew).alloc (IN _) _) ⟨w.heap.size,0,cap*3,3⟩ (IN _) (by simp) λρ' hle=>⟨rfl,cc,231,(0,0),heap_alloc w.drew _,λi x hx=>(by simp at hx),λ_=>⟨hm.le,rfl⟩,λ_=>by show 0+cap*3<=cc.size;omega,Tq _⟩;exact⟨ρ',_,rfl,VRel.slice (p:=⟨w.heap.size,0,cap*3,3⟩) hρ (Tq _) (λ_=>by simp) (λh=>absurd rfl h) (by decide),hpost⟩
def Cy:Nat->List AT->FM->Nat->OR FM:=FR Df grA 350
theorem aaR:Am.Good SR [(350,FA)]:=.cons Proofs.Tryz.func350 aet .nil
theorem Ot:iw (μ:=FM) SR Cy:=RG 350 IK aaQ aaR
theorem Ou:il (μ:=FM) Cy:=RH 350 IK
theorem abn:YUp Cy:=adq 350 aed
theorem KW{Y:Nat->List AT->FM->Nat->OR FM}(hY:∀args m n v m' n' r w,Cy 350 args m n=.ok v m' n' r w->Y 350 args m n=.ok v m' n' r w):Ag Y:=by intro m n lb k v1 v2 L1 L2 opn wr hlb hm h1 h2 hl;obtain⟨v,m',n',r,w,he,hR⟩:=(Oq (k:=k) hlb hm h1 h2 hl).some;have:Cy 350 [.slice (some ⟨lb,0,none⟩) 2 k] m n=.ok v m' n' r w:=he;rw[hY _ _ _ _ _ _ _ _ this];exact hR
end Go.Am.CR
namespace Go.Proofs
open Go.Shelf Go.RowKit Go.Lib Go.Sort
set_option maxHeartbeats 1000000 in
theorem Tryz.Hl(x y:Am.CR.Ex)(W:SE):Calls SI 335 #[.agg x.cs.toArray,.agg y.cs.toArray] W λe w'=>e=.returned (.int .i64 (Vh (x.s:Int) (y.s:Int)))/\∃q os',w'=grow (W.drewN q) os':=by
 have hcon:=λW'=>AnyG.cmp_Compare_int Tryz.cmpI (x.s:Int) (y.s:Int) W'
 change ∀W',Calls SI 336 _ _ _ at hcon
 generalize Vh (x.s:Int) (y.s:Int)=r at hcon ⊢;unfold Am.CR.Ex.cs;go_enter Tryz.func335,Tryz.ntmps335
 go_wp2_with (go_at_call 336;refine(hcon _).mono ?_;rintro e w' ⟨rfl,rfl⟩)
 go_ret;exact⟨rfl,0,_,by rw[alloc_eq_grow,alloc_eq_grow,grow_grow];rfl⟩
theorem Tryz.IC(x y:Am.CR.Ex):ltOf (λx y:Am.CR.Ex=>Vh (x.s:Int) (y.s:Int)) x y=decide (x.s<y.s):=by
 unfold ltOf Vh;by_cases h1:x.s<y.s
 ·simp[h1]
 ·by_cases h2:y.s<x.s<;>simp[h1,h2]
theorem Tryz.adp:SWO (ltOf λx y:Am.CR.Ex=>Vh (x.s:Int) (y.s:Int)) where
 irrefl x:=by rw[Tryz.IC];simp
 trans x y z h1 h2:=by rw[Tryz.IC]at *;simp at *;omega
 ntrans x y z h1 h2:=by rw[Tryz.IC]at *;simp at *;omega
end Go.Proofs
namespace Go.Am.CR
set_option maxRecDepth 100000
open Go Go.Am Go.RowKit Go.Sort Go.Proofs
variable{n k n' f r blk off:Nat}{args:List AT}{m m':FM}{w:SE}{x v:AT}{L:List Ex}{F:Array AT}
instance:Inhabited Ex:=⟨⟨0,0,0⟩⟩
theorem uG:∀L:List Ex,(exC L).all flat=true
 |[]=>rfl
 |x::L=>by simp only[exC,List.all_cons,uG L];rfl
theorem IR:∀(L:List Ex) (j:Nat),j<L.length*3->(exC L)[j]?=some ((L[j / 3]!).cs[j % 3]!)
 |[],j,h=>by simp at h
 |x::L,0,_=>rfl
 |x::L,1,_=>rfl
 |x::L,2,_=>rfl
 |x::L,j+3,h=>by
  have h1:(j+3) / 3=j / 3+1:=by omega
  have h2:(j+3) % 3=j % 3:=by omega
  rw[h1,h2];show(exC L)[j]?=_;rw[IR L j (by simp at h;omega)];rfl
theorem zu(d:Array Ex):flatK Ex.cs 3 d=(exC d.toList).toArray:=by
 apply US;apply Vl;intro i;show(flatK Ex.cs 3 d).toList[i]?=(exC d.toList)[i]?;have hl:d.toList.length=d.size:=rfl;by_cases h:i<d.size*3
 ·rw[IR _ _ (by rw[hl];exact h)]
  have e:∀k,d.toList[k]! =d[k]!:=λk=>by
   by_cases hk:k<d.size
   ·rw[getElem!_pos d k hk,getElem!_pos d.toList k hk];rfl
   ·rw[getElem!_neg d k hk,getElem!_neg d.toList k hk]
  rw[e];simp[flatK,h]
 ·rw[Wz (by simp[flatK];omega),Wz (by rw[jA,hl];omega)]
theorem AD:∀{A B:List Ex},A.Perm B->A.Pairwise (λx y=>x.s<y.s)->B.Pairwise (λx y=>x.s<y.s)->A=B
 |[],B,h,_,_=>(List.nil_perm.1 h).symm
 |a::A,[],h,_,_=>by have:=h.length_eq;simp at this
 |a::A,b::B,h,h1,h2=>by
  have hab:a=b:=by
   have m1:a∈b::B:=h.mem_iff.1 (Tk ..);have m2:b∈a::A:=h.mem_iff.2 (Tk ..);rcases TG.1 m1 with e|m1
   ·exact e
   ·rcases TG.1 m2 with e|m2
    ·exact e.symm
    ·have:=(Ue.1 h2).1 a m1;have:=(Ue.1 h1).1 b m2;omega
  subst hab;rw[AD (List.Perm.cons_inv h) (Ue.1 h1).2 (Ue.1 h2).2]
theorem AA(h:L.Pairwise λx y=>x.s<=y.s)(hn:(L.map Ex.s).Nodup):L.Pairwise λx y=>x.s<y.s:=by have h2:L.Pairwise λx y=>x.s≠y.s:=List.pairwise_map.1 hn;exact(h.and h2).imp λ⟨a,b⟩=>by omega
theorem JJ(hn:(L.map Ex.s).Nodup){d':Array Ex}(hp:PermIn 0 L.toArray.size L.toArray d')(hs:SortedIn (ltOf λx y:Ex=>Vh (x.s:Int) (y.s:Int)) 0 L.toArray.size d'):d'.toList=iL L:=by
 obtain⟨h1,_,h3⟩:=hp
 have hperm:d'.toList.Perm L:=by
  have e1:(d'.extract 0 L.toArray.size)=d':=by rw[<-h1];simp
  have e2:(L.toArray.extract 0 L.toArray.size)=L.toArray:=by simp
  rw[e1,e2]at h3;exact h3
 refine AD (hperm.trans (ku L).symm) (AA ?_ ((hperm.map _).nodup_iff.2 hn)) (AA (ug L) (((ku L).map _).nodup_iff.2 hn));rw[List.pairwise_iff_getElem];intro i j hi hj hij;have:=hs i j (Tq _) hij (by rw[<-h1];exact hj);rw[Tryz.IC]at this;have hsz:d'.toList.length=d'.size:=rfl;have e1:d'[i]! =d'.toList[i]:=by rw[getElem!_pos d' i (by omega)];rfl
 have e2:d'[j]! =d'.toList[j]:=by rw[getElem!_pos d' j (by omega)];rfl
 rw[e1,e2]at this;have:=of_decide_eq_false this;omega
section
theorem Post.side{ρ ρ':Ren}{V:Nat->Option Blk}{w1 w2:SE}{B:Nat}{W:Nat}(h:Post ρ V w B n m' n' W ρ' w1)(hB:B<=w.heap.size)(hb:Below w.heap.size w1 w2)(hs:∀b p O,ρ' b=some p->upd V W m' b=some O->w2.heap[p.blk]?=w1.heap[p.blk]?):Post ρ V w B n m' n' W ρ' w2 where
 le:=h.le
 dom:=h.dom
 mrel:=⟨λb p O hp hV=>(h.mrel.blk b p O hp hV).mono ρ'.le_refl (hs b p O hp hV),h.mrel.ij,λb p hp=>TC (h.mrel.fresh b p hp) hb.size,Tz h.mrel.le hb.size,h.mrel.gl.mono (hb.mono hB)⟩
 below:=h.below.trans (hb.mono hB)
 num:=h.num
 frame:=λk hk hn=>(hb.block k hk).trans (h.frame k hk hn)
 newp:=h.newp
 wold:=h.wold
end
theorem Be{ρ:Ren}{g:Nat}(h:VRel ρ (.func (.func g) #[] #[]) x):x=.func (.func g) #[] #[]:=by
 cases h with
 |flat h=>rfl
 |func k1 k2 k3 k4=>rename_i a' c';obtain⟨la⟩:=a';obtain⟨lc⟩:=c';simp at k1 k3;rw[SV.1 k1.symm,SV.1 k3.symm]
theorem JM{ρ:Ren}{a:Option Addr}(h:VRel ρ (.slice a 0 k) x):∃a' c',x=.slice a' 0 c':=by
 cases h with
 |flat h=>exact⟨_,_,rfl⟩
 |slice _ _ _ _ _=>exact⟨_,_,rfl⟩
 |vag=>exact⟨_,_,rfl⟩
theorem Mx{ρ:Ren}{b o l:Nat}(h0:0<l)(h:VRel ρ (.slice (some ⟨b,o,none⟩) l k) x):∃p c',x=.slice (some ⟨p.blk,p.base+o,none⟩) l c'/\ρ b=some p:=by
 cases h with
 |flat h=>simp[flat]at h
 |slice hp _ _ _ _=>exact⟨_,_,rfl,hp⟩
 |vag=>omega
def acN:AT:=.func (.func 335) #[] #[]
def SoR(m:FM)(n:Nat)(args:List AT)(R:OR FM):Prop:=
 (∃a k,args=[.slice a 0 k,acN]/\R=.ok (.tuple #[]) m n 0 0)\/
 ∃(b k:Nat) (L:List Ex) (rest:List AT) (opn:Bool),0<L.length/\b<n/\m b=some (.cells (exC L++rest) 3 opn true)/\(L.map Ex.s).Nodup/\L.length<=100000/\args=[.slice (some ⟨b,0,none⟩) L.length k,acN]/\R=.ok (.tuple #[]) (If m b (some (.cells (exC (iL L)++rest) 3 opn true))) n (bit b) (bit b)
theorem IQ:∀{L L':List Ex} {r r':List AT},L.length=L'.length->exC L++r=exC L'++r'->L=L'/\r=r'
 |[],[],r,r',_,h=>⟨rfl,h⟩
 |x::L,y::L',r,r',hl,h=>by
  simp only[exC,SK]at h;injection h with h1 h;injection h with h2 h;injection h with h3 h
  obtain⟨e1,e2⟩:=IQ (by simpa using hl) h;injection h1 with _ h1;injection h2 with _ h2;injection h3 with _ h3
  obtain⟨xa,xn,xs⟩:=x;obtain⟨ya,yn,ys⟩:=y;simp only[Int.ofNat.injEq,Int.natCast_inj]at h1 h2 h3;subst h1 h2;subst h3 e1;exact⟨rfl,e2⟩
 |[],_::_,_,_,hl,_=>by simp at hl
 |_::_,[],_,_,hl,_=>by simp at hl
theorem SoR.same{R R':OR FM}(h:SoR m n args R)(h':SoR m n args R'):R=R':=by
 rcases h with⟨a,k,rfl,rfl⟩|⟨b,k,L,rest,opn,h1,h2,h3,h4,h5,rfl,rfl⟩<;>rcases h' with⟨a',k',e,rfl⟩|⟨b',k',L',rest',opn',g1,g2,g3,g4,g5,e,rfl⟩
 ·rfl
 ·injection e with e _;injection e with _ e _;omega
 ·injection e with e _;injection e with _ e _;omega
 ·injection e with e _;injection e with e1 e2 e3
  injection e1 with e1;injection e1 with e1
  subst e1;rw[h3]at g3;simp only[Option.some.injEq,Blk.cells.injEq,true_and,and_true]at g3;obtain⟨g3,q5⟩:=g3;obtain⟨rfl,rfl⟩:=IQ e2 g3;subst q5;rfl
open Classical in
def DJ(k:Nat)(S:FM->Nat->List AT->OR FM->Prop)(f:Nat)(args:List AT)(m:FM)(n:Nat):OR FM:=if f=k then(if h:∃R,S m n args R then h.choose else .no)else .no
theorem BW{S:FM->Nat->List AT->OR FM->Prop}{w:Nat}(h:DJ k S f args m n=.ok v m' n' r w):f=k/\S m n args (.ok v m' n' r w):=by
 unfold DJ at h;split at h
 ·rename_i hf;split at h
  ·rename_i hx;have:=hx.choose_spec;rw[h]at this;exact⟨hf,this⟩
  ·cases h
 ·cases h
theorem BX{S:FM->Nat->List AT->OR FM->Prop}{R:OR FM}(hS:∀{m n args R R'},S m n args R->S m n args R'->R=R')(h:S m n args R):DJ k S k args m n=R:=by unfold DJ;have hx:∃R,S m n args R:=⟨R,h⟩;rw[if_pos rfl,dif_pos hx];exact hS hx.choose_spec h
theorem Il{S:FM->Nat->List AT->OR FM->Prop}(h:f≠k):DJ k S f args m n=.no:=if_neg h
def soA:=DJ 334 SoR
theorem FW{w:Nat}(h:soA f args m n=.ok v m' n' r w):f=334/\SoR m n args (.ok v m' n' r w):=BW h
theorem Ms{R:OR FM}(h:SoR m n args R):soA 334 args m n=R:=BX SoR.same h
theorem RM:il (μ:=FM) soA:=λf args m n v m' n' r wm h=>by
 rcases(FW h).2 with⟨a,k,_,e⟩|⟨b,k,L,rest,opn,h1,h2,h3,h4,h5,_,e⟩
 ·injection e with e1 e2 e3 e4 e5
  subst e2 e3 e5;exact Loc.refl _ _
 ·injection e with e1 e2 e3 e4 e5
  subst e2 e3 e5;exact xu _ rfl
theorem R6{cc:Array AT}{e:TypeId}{fz:Nat×Nat}(h:w.heap[blk]?=some (.cells cc e fz)):(putRow id w blk off F).heap[blk]?=some (.cells (putCells id off F cc) e fz):=by unfold putRow mapBlock;simp[XZ,h,onCells]
theorem JU(h:k≠blk):(putRow id w blk off F).heap[k]?=w.heap[k]?:=by unfold putRow mapBlock;simp[XZ,Ne.symm h]
theorem RJ:iw (μ:=FM) SR soA:=by
 intro f args m n v m' n' r wm hh ρ V w B F args' hargs hF hag hm hfree;obtain⟨hf,h⟩:=FW hh;clear hh;subst hf;refine⟨⟨_,_,Proofs.Tryz.func334,by decide +kernel,rfl⟩,?_⟩;rcases h with⟨a,k,rfl,e⟩|⟨b,k,L,rest,opn,h0,hb,hmb,hn,hl,rfl,e⟩
 ·injection e with e1 e2 e3 e4 e5
  subst e1 e2;subst e3 e5;obtain⟨x1,x2,rfl,hr1,hr2⟩:=yi hargs;obtain rfl:=Be hr2;obtain⟨a',c',rfl⟩:=JM hr1;have hc:Calls SR 334 #[.slice a' 0 c',.func (.func 335) #[] #[]] w λe w'=>e=.returned (.tuple #[])/\w'=w:=AnyF.slices_SortFunc_none Proofs.Tryz.acB a' c' _ w;refine hc.mono ?_;rintro e w' ⟨rfl,rfl⟩;exact⟨ρ,_,rfl,(gY.nil ρ).tuple,Post.same hm _ _⟩
 ·injection e with e1 e2 e3 e4 e5
  subst e1 e2;subst e3 e4 e5;obtain⟨x1,x2,rfl,hr1,hr2⟩:=yi hargs;obtain rfl:=Be hr2;obtain⟨p,c',rfl,hp⟩:=Mx h0 hr1;have hg:jc m n' b=some (.cells (exC L++rest) 3 opn true):=by rw[ig hb];exact hmb
  obtain⟨hV,hbr⟩:=ji hm hag (hF b (by rw[gv,gx];simp)) hg hp;obtain⟨g1,cc,ety,fz,g2,g3,g4,g5,g6⟩:=id hbr;obtain⟨hB,rfl⟩:=g4 rfl;have hlen:(exC L).length=L.length*3:=jA L
  have hcell:∀j,j<L.length*3->cc[p.base+j]?=(exC L)[j]?:=λj hj=>by
   have hx:(exC L++rest)[j]?=some ((exC L)[j]'(by omega)):=by rw[TA (by omega),SH]
   obtain⟨y,hy,hr⟩:=g3 j _ hx;rw[hy,SH (by omega)];refine congrArg some (hr.gQ ?_);have hall:(exC L).all flat=true:=uG L;exact Tv.1 hall _ (Tb _)
  have hH:HoldsK Ex.cs 3 w p.blk (p.base+0) L.toArray:=by
   unfold HoldsK;rw[zu];intro j hj;have hj:j<L.length*3:=by rw[<-hlen];simpa using hj
   have hj2:j<(exC L).length:=by omega
   refine⟨?_,?_⟩
   ·show(w.cell? ⟨p.blk,p.base+0+j,none⟩)=_;rw[Nat.add_zero];simp[Ts,g2,hcell j hj,hj2]
   ·simp[Wc,g2]
  have hc:Calls SR 334 #[.slice (some ⟨p.blk,p.base+0,none⟩) L.toArray.size c',.func (.func 335) #[] #[]] w λe w'=>e=.returned (.tuple #[])/\∃d' n os,PermIn 0 L.toArray.size L.toArray d'/\SortedIn (ltOf λx y:Ex=>Vh (x.s:Int) (y.s:Int)) 0 L.toArray.size d'/\w'=sortWorldK Ex.cs 3 w p.blk (p.base+0) n d' os:=AnyQ.slices_SortFunc Proofs.Tryz.acB 3 Proofs.Tryz.isAgg231 Proofs.Tryz.sizeOf231 Ex.cs (λ_=>rfl) (λx v hv=>by simp[Ex.cs]at hv;rcases hv with rfl|rfl|rfl<;>rfl) _ Proofs.Tryz.adp 335 #[] p.blk (p.base+0) c' L.toArray w (enters_of Proofs.Tryz.func335 (by kernel_rfl) rfl) (λ_ _ _ _ x y=>Proofs.Tryz.Hl x y _) hH (hm.fresh b p hp) (by simp;omega);refine hc.mono ?_;rintro e w' ⟨rfl,d',q,os,h1,h2,rfl⟩;have hd:=JJ hn h1 h2;have hsl:(exC (iL L)).length=L.length*3:=by rw[jA,(ku L).length_eq]
  have hW1:Post ρ V w B n' (If m b (some (.cells (exC (iL L)++rest) 3 opn true))) n' (bit b) ρ (putRow id w p.blk (p.base+0) (exC (iL L)).toArray):=by
   refine Post.write hm rfl hp hV ⟨g1,_,ety,(0,0),R6 g2,λi x hx=>?_,λ_=>⟨hB,rfl⟩,λho=>?_,?_⟩ (λk hk=>JU hk) rfl rfl rfl (by simp[putRow,mapBlock])
   ·have hi:i<L.length*3+rest.length:=by have:=(S'.1 hx).1;rw[IT,hsl]at this;exact this
    have hci:p.base+i<cc.size:=by rw[IT,hlen]at g6;omega
    simp only[putCells,Array.getElem?_mapIdx,SM hci,Option.map_some,List.size_toArray,hsl];by_cases h3:i<L.length*3
    ·rw[if_pos (by omega)];rw[TA (by omega)]at hx;refine⟨_,rfl,?_⟩;have hk:p.base+i-(p.base+0)=i:=by omega
     rw[hk,getElem!_pos _ i (by simp;omega)];have hx2:=(S'.1 hx).2;show VRel ρ x ((exC (iL L))[i]'_);rw[hx2];exact .flat (Tv.1 (uG (iL L)) x (TF hx))
    ·rw[if_neg (by omega)];refine⟨_,rfl,?_⟩;have hx':(exC L++rest)[i]?=some x:=by rw[List.getElem?_append_right (by omega)]at hx ⊢;rw[hlen,<-hsl];exact hx
     obtain⟨y,hy,hr⟩:=g3 i x hx';rw[SM hci]at hy;injection hy with hy
     rw[hy];exact hr
   ·have:=g5 ho;simpa[putCells]using this
   ·rw[IT,hlen]at g6;rw[IT,hsl];simpa[putCells]using g6
  have hsz:(putRow id w p.blk (p.base+0) (exC (iL L)).toArray).heap.size=w.heap.size:=by simp[putRow,mapBlock]
  have hhp:∀k,k<w.heap.size->(sortWorldK Ex.cs 3 w p.blk (p.base+0) q d' os).heap[k]?=(putRow id w p.blk (p.base+0) (exC (iL L)).toArray).heap[k]?:=λk hk=>by unfold sortWorldK putRowK;rw[zu,hd];show((putRow id w p.blk (p.base+0) (exC (iL L)).toArray).heap++os)[k]?=_;rw[Xt (by omega)]
  refine⟨ρ,_,rfl,(gY.nil ρ).tuple,Post.side hW1 hm.le (w2:=sortWorldK Ex.cs 3 w p.blk (p.base+0) q d' os) ⟨rfl,rfl,rfl,?_,λk hk=>hhp k hk⟩ λb' p' O' hp' hV'=>hhp _ (hm.fresh b' p' hp')⟩;unfold sortWorldK putRowK;rw[zu,hd];show _<=((putRow id w p.blk (p.base+0) (exC (iL L)).toArray).heap++os).size;rw[Array.size_append];omega
theorem adu:YUp soA:=λf args m n v m' n' r wm h=>by
 rcases(FW h).2 with⟨a,k,_,e⟩|⟨b,k,L,rest,opn,h1,h2,h3,h4,h5,_,e⟩
 ·injection e with e1 e2 e3 e4 e5
  subst e2 e3;subst e4 e5;exact⟨IN _,λb hb=>⟨by simp,by simp⟩⟩
 ·injection e with e1 e2 e3 e4 e5
  subst e2 e3;subst e4 e5;exact⟨IN _,λc hc=>⟨by rw[gx];simp;omega,by rw[gx];simp;omega⟩⟩
theorem Dy{Y:Nat->List AT->FM->Nat->OR FM}(hY:∀args m n v m' n' r w,soA 334 args m n=.ok v m' n' r w->Y 334 args m n=.ok v m' n' r w):jf Y:=⟨λm n a k=>⟨0,hY _ _ _ _ _ _ _ _ (Ms (.inl ⟨a,k,rfl,rfl⟩))⟩,λm n b k L rest opn h0 hb hm hn hs hl=>⟨bit b,hY _ _ _ _ _ _ _ _ (Ms (.inr ⟨b,k,L,rest,opn,h0,hb,hm,hn,hl,rfl,rfl⟩))⟩⟩
end Go.Am.CR
namespace Go
theorem wS{P:SZ}{id:Nat}{ops:Array Oper}{Q:Exit->VX->List Frame->SE->Prop}{a:VX}{cs:List Frame}{w:SE}
  (h:∀t,wpOpsS P ops Q (Vq (P.follows .mixedOrders) ops t) a cs {w with drawn:=w.drawn+1}):(Code.region id ops true).wpS P Q a cs w:=
 λb k hb hr=>let⟨e,a',cs',w',q,r⟩:=wp_opsS _ a cs _ (h _) b k hb hr;⟨e,a',cs',w',q,.of_steps (.one step_region_draw) r⟩
end Go
namespace Go.Proofs
open Go.RowKit
set_option maxHeartbeats 1000000 in
theorem Tryz.Fc(y:AT)(w:SE):Calls SI 39 #[.nilIface,y] w λe w'=>e=.returned y/\w'=w:=by
 have hnil:∀w:SE,(binOp BinOp.eql 20 .nilIface .nilIface).run SI w=.ok (.bool true) w:=λ_=>by kernel_rfl
 go_enter Tryz.func39,Tryz.ntmps39
 go_wp2
 go_ret;exact⟨rfl,rfl⟩
theorem oW{md:Region.Mode}{ops:Array Oper}{listed:Array Bool}{r:List Nat}{fuel t i:Nat}{acc:List Nat}(h:Tt md ops listed=r)(hi:r[t % r.length]?=some i):TQ md ops (fuel+1) t listed acc=TQ md ops fuel (t / r.length) (listed.setIfInBounds i true) (i::acc):=by subst h;show(match(Tt md ops listed)[t % (Tt md ops listed).length]? with|some i=>TQ md ops fuel (t / (Tt md ops listed).length) (listed.setIfInBounds i true) (i::acc)|none=>acc.reverse)=_;rw[hi]
theorem Kg(t:Nat)(i:Nat):([i]:List Nat)[t % ([i]:List Nat).length]?=some i:=by rw[show t % ([i]:List Nat).length=0 from Nat.mod_one t];rfl
theorem Tryz.Sy(ops:Array Oper)(h0:Tt .any ops #[false,false,false,false]=[0,1])(h1:Tt .any ops #[true,false,false,false]=[1])(h2:Tt .any ops #[false,true,false,false]=[0])(h3:Tt .any ops #[true,true,false,false]=[2])(h4:Tt .any ops #[true,true,true,false]=[3])(hs:ops.size=4)(t:Nat):Vq true ops t=[0,1,2,3]\/Vq true ops t=[1,0,2,3]:=by
 have e:Vq true ops t=TQ .any ops 4 t #[false,false,false,false] []:=by simp only[Vq,Bool.true_or,if_true];unfold Region.linearise;rw[hs];rfl
 rw[e];rcases(show t % 2=0\/t % 2=1 by omega)with h|h
 ·left;rw[oW h0 (i:=0) (by show([0,1]:List Nat)[t % 2]?=_;rw[h];rfl)];show TQ .any ops 3 _ #[true,false,false,false] _=_;rw[oW h1 (Kg _ _)];show TQ .any ops 2 _ #[true,true,false,false] _=_;rw[oW h3 (Kg _ _)];show TQ .any ops 1 _ #[true,true,true,false] _=_;rw[oW h4 (Kg _ _)];rfl
 ·right;rw[oW h0 (i:=1) (by show([0,1]:List Nat)[t % 2]?=_;rw[h];rfl)];show TQ .any ops 3 _ #[false,true,false,false] _=_;rw[oW h2 (Kg _ _)];show TQ .any ops 2 _ #[true,true,false,false] _=_;rw[oW h3 (Kg _ _)];show TQ .any ops 1 _ #[true,true,true,false] _=_;rw[oW h4 (Kg _ _)];rfl
theorem Tryz.RU{P:SZ}{ops:Array Oper}{Q:Exit->VX->List Frame->SE->Prop}{a:VX}{cs:List Frame}{w:SE}{t:Nat}(h0:Tt .any ops #[false,false,false,false]=[0,1])(h1:Tt .any ops #[true,false,false,false]=[1])(h2:Tt .any ops #[false,true,false,false]=[0])(h3:Tt .any ops #[true,true,false,false]=[2])(h4:Tt .any ops #[true,true,true,false]=[3])(hs:ops.size=4)(ha:wpOpsS P ops Q [0,1,2,3] a cs w)(hb:wpOpsS P ops Q [1,0,2,3] a cs w):wpOpsS P ops Q (Vq true ops t) a cs w:=by
 rcases Tryz.Sy ops h0 h1 h2 h3 h4 hs t with h|h<;>rw[h]
 ·exact ha
 ·exact hb
theorem Tryz.abz(a0:Addr)(z:Int)(w:SE)(hc:w.cell? a0=some (.int .i64 z))(hf:w.frozen? a0=false):
  CallsD SI 38 #[.pointer (some a0)] .returning w λe u' w'=>e=.returned (.tuple #[])/\u'=.returning/\w'=(w.setCell a0 (.int .i64 z)).drew:=by
 refine callsD_of_wpS Tryz.func38 rfl λc₀ cs hu=>?_;apply wS;intro t;rw[show SI.follows .mixedOrders=true by kernel_rfl];refine Tryz.RU (by kernel_rfl) (by kernel_rfl) (by kernel_rfl) (by kernel_rfl) (by kernel_rfl) rfl ?_ ?_
 ·simp[wpOpsS,go_sem,recoverD,hu,Tryz.ntmps38,hc,hf,W8,WM];refine(Tryz.Fc (.int .i64 z) _).mono ?_;rintro e w' ⟨rfl,rfl⟩;simp[go_sem,hc,hf,W8,WM,TS];cases c₀
  simp_all [bodyPostS,results,Tryz.results38]
 ·simp[wpOpsS,go_sem,recoverD,hu,Tryz.ntmps38,hc,hf,W8,WM];refine(Tryz.Fc (.int .i64 z) _).mono ?_;rintro e w' ⟨rfl,rfl⟩;simp[go_sem,hc,hf,W8,WM,TS];cases c₀
  simp_all [bodyPostS,results,Tryz.results38]
end Go.Proofs
namespace Go.Am.CR
set_option maxRecDepth 1000000
open Go Go.Am Go.RowKit
variable{v v0:AT}{n n' r n1 r0 w1 wm d:Nat}{m m' m1:FM}{args:List AT}{tmps:Array AT}{w':SE}
def Ad:AC:=
(.seq (.reg [.op (.new [(.int .i64 0)])])
(.seq (.seq (.reg [.nop 1,
 .op (.bin .eql 44 (.v 1) (.c (.pointer none)))])
(.cond (.v 0) (.seq (.reg [.eff (.st 1 (.v 1) (.c (.int .i64 8)))])
(.ret [.cell 1]))
.skip))
(.seq (.post (.reg [.nop 3,
 .op (.len false (.v 3)),
 .op (.bin .gtr 3 (.v 0) (.c (.int .i64 256)))]) [0] 2)
(.cond (.v 0) (.seq (.reg [.eff (.st 1 (.v 2) (.c (.int .i64 5)))])
(.ret [.cell 2]))
.skip))))
def FC:AC:=
(.seq (.post (.reg [.nop 4,
 .op (.call 40 [(.v 4)]),
 .op (.build [(.pointer none)] [(0,1,(.v 0))]),
 .op (.new [(.pointer none)]),
 .eff (.st 1 (.v 0) (.v 1))]) [0] 3)
(.seq (.post (.reg [.op (.fld 0 (.v 0)),
 .op (.ld1 (.v 0)),
 .op (.call 41 [(.v 0)]),
 .nop 0,
 .op (.extr 0 (.v 0)),
 .op (.extr 1 (.v 1)),
 .nop 1,
 .eff (.st 1 (.v 8) (.v 0))]) [1] 5)
(.seq (.post (.reg [.op (.ld1 (.v 4)),
 .op (.call 42 [(.v 0)])]) [] 2)
(.seq (.post (.reg [.op (.call 43 []),
 .nop 1,
 .op (.mp (.look 91 .nilFunc true) [(.v 0),(.v 1)]),
 .nop 0,
 .op (.extr 0 (.v 0)),
 .op (.extr 1 (.v 1)),
 .nop 1,
 .nop 0]) [0,1] 4)
(.seq (.seq (.reg [.nop 0,
 .op (.una .not (.v 0))])
(.cond (.v 0) (.seq (.reg [.eff (.st 1 (.v 7) (.c (.int .i64 5)))])
(.ret [.cell 7]))
.skip))
(.seq (.post (.regD [.nop 2,
 .nop 8,
 .op (.nilck (.v 8)),
 .op (.fld 0 (.v 0)),
 .op (.ldn 2 (.v 0)),
 .op (.ldn 1 (.v 7)),
 .op (.callv (.v 6) [(.v 1),(.v 0)]),
 .nop 0,
 .op (.extr 0 (.v 0)),
 .op (.extr 1 (.v 1)),
 .op (.new [(.slice none 0 0),(.map none)]),
 .eff (.st 2 (.v 0) (.v 2)),
 .eff (.st 1 (.v 15) (.v 1))] [0,0,2,6,14,0,63,127,255,255,0,1535,4095]) [0] 8)
(.seq (.block 0 [[9],[34],[32,8,33],[31,7,36],[23,6,29],[5],[14],[11],[4],[0,10,37],[1,12,16]] (.post (.seq (.post (.reg [.op (.ld1 (.v 8)),
 .op (.bin .neq 28 (.v 0) (.c (.int .i64 0))),
 .nop 0]) [0] 2)
(.cond (.v 0) (.seq (.post (.reg [.op (.ld1 (.v 9)),
 .eff (.st 1 (.v 10) (.v 0))]) [] 1)
(.ret [.cell 9]))
(.seq (.post (.reg [.op (.fld 0 (.v 6)),
 .op (.ld1 (.v 0)),
 .op (.call 44 [(.v 0)]),
 .op (.bin .neq 28 (.v 0) (.c (.int .i64 0))),
 .nop 0]) [0] 4)
(.cond (.v 0) (.seq (.reg [.eff (.st 1 (.v 10) (.c (.int .i64 5)))])
(.ret [.cell 10]))
(.seq (.post (.reg [.op (.ldn 2 (.v 2)),
 .op (.call 45 [(.v 0)]),
 .op (.bin .lss 3 (.v 0) (.c (.int .i64 0))),
 .nop 0]) [0] 3)
(.cond (.v 0) (.seq (.reg [.eff (.st 1 (.v 11) (.c (.int .i64 11)))])
(.ret [.cell 11]))
.skip)))))) [] 3))
(.seq (.post (.reg [.nop 9,
 .op (.ldn 2 (.v 0)),
 .op (.nilck (.v 10)),
 .op (.fld 0 (.v 0)),
 .eff (.st 2 (.v 0) (.v 2))]) [] 3)
(.seq (.reg [.eff (.st 1 (.v 8) (.c (.int .i64 0)))])
(.ret [.cell 8]))))))))))
def acx:Ctx:=[[14],[11],[4],[10,0],[12,1]]
def Az:Nat->Code->Code
 |0,.seq a _=>a
 |N+1,.seq a b=>.seq a (Az N b)
 |_,c=>c
def Oc:Nat->Code->Code
 |0,.seq _ b=>b
 |N+1,.seq _ b=>Oc N b
 |_,c=>c
def Mr:Nat->AC->Code->Bool
 |0,_,.seq _ _=>true
 |N+1,.seq _ z,.seq _ b=>Mr N z b
 |_,_,_=>false
def opAt(ops:Array Oper)(i d:Nat)(op:Go.Op):Prop:=∃o,ops[i]?=some o/\o.dst=some d/\o.op=op/\o.guard=none
def s13:Code:=TT.body.getD .skip
theorem ON:Mr 2 Ad s13=true/\chk PG 62 TT.results [] (CN 2) (Az 2 s13) Ad=some (some acx):=⟨by kernel_rfl,by kernel_rfl⟩
theorem RT:∃i1 o1 cB,Oc 2 s13=.seq (.region i1 o1 false) cB/\o1.size=2/\opAt o1 0 15 (.makeFunc (.func 38) #[] #[.tmp 4])/\(∃o,o1[1]?=some o/\o.dst=none/\o.op=.defer ⟨.value (.tmp 15),#[],#[]⟩/\o.guard=none)/\
  chk PG 62 TT.results [] acx cB FC=some none:=
 ⟨_,_,_,rfl,rfl,⟨_,rfl,rfl,rfl,rfl⟩,⟨_,rfl,rfl,rfl,rfl⟩,by kernel_rfl⟩
section
variable{P:SZ}{E:Nat->Option AFn}{Y:Nat->List AT->FM->Nat->OR FM}
theorem JI{nt:Nat}{res:Array ResultVar}(hY:il Y)(hC:∀k,th FM P E Y k):∀(N k:Nat) (x:AC) (c:Code) (Γ Γe:Ctx) (e:List AT) (m:FM) (n:Nat) (e':List AT) (m':FM) (n' r wm:Nat),Mr N x c=true->chk P nt res [] Γ (Az N c) x=some (some Γe)->exec P E Y k x e m n=.ok .norm e' m' n' r wm->
  ∀(ρ:Ren) (V:Nat->Option Blk) (w:SE) (B F:Nat) (a:VX),a.defers=[]->a.tmps.size=nt->gZ ρ Γ e a.tmps->Sub (OF r wm) F->iX V m n F->MRel ρ V w B->lN ρ n->
  ∀Q,(∀a' w' ρ',a'.defers=[]->a'.tmps.size=nt->Post ρ V w B n m' n' wm ρ' w'->gZ ρ' Γe e' a'.tmps->(Oc N c).wp P Q a' w')->c.wp P Q a w:=by
 intro N
 induction N with
 |zero=>
  intro k x c Γ Γe e m n e' m' n' r wm hsp hchk h ρ V w B F a hd hs he hF hag hm hfree Q hk;cases c<;>simp[Mr]at hsp;rename_i c1 c2;refine wp_seq (wp_mono (hC k nt res x c1 [] Γ _ e m n .norm e' m' n' r wm hchk h ρ V w B F a hd hs he hF hag hm hfree) λex a' w' hq=>?_);obtain⟨ρ',g1,g2,g3,rfl,Γ',g5,g6⟩:=hq;injection g5 with g5
  subst g5;exact hk a' w' ρ' g1 g2 g3 g6
 |succ N ih=>
  intro k x c Γ Γe e m n e' m' n' r wm hsp hchk h ρ V w B F a hd hs he hF hag hm hfree Q hk;cases x<;>cases c<;>simp[Mr]at hsp;rename_i y z c1 c2;rw[show Az (N+1) (.seq c1 c2)=.seq c1 (Az N c2)from rfl]at hchk;simp[chk]at hchk
  cases k with
  |zero=>cases h
  |succ k=>
  obtain⟨X1,e1,m1,n1,r1,w1,h1,h2⟩:=jU h
  cases hc:chk P nt res [] Γ c1 y with
  |none=>rw[hc]at hchk;cases hchk
  |some Γ1=>
   rw[hc]at hchk
   cases Γ1 with
   |none=>cases hchk
   |some Γ1=>
    replace hchk:chk P nt res [] Γ1 (Az N c2) z=some (some Γe):=hchk;rcases sU h2 with⟨rfl,r2,w2,h3,rfl,rfl⟩|⟨hne,e0,_⟩
    ·have l1:=jS (P:=P) (E:=E) (Y:=Y) hY k _ _ _ _ _ _ _ _ _ _ h1;have l2:=jS (P:=P) (E:=E) (Y:=Y) hY k _ _ _ _ _ _ _ _ _ _ h3;refine wp_seq (wp_mono (hC k nt res y c1 [] Γ _ e m n .norm e1 m1 n1 r1 w1 hc h1 ρ V w B F a hd hs he (Sub.trans (Sub.lor (Sub.trans (Sub.left r1 r2) (Sub.left _ _)) (Sub.trans (Sub.left w1 w2) (Sub.right _ _))) hF) hag hm hfree) λex a' w' hq=>?_);obtain⟨ρ',g1,g2,g3,rfl,Γ',g5,g6⟩:=hq;injection g5 with g5
     subst g5;refine ih k z c2 Γ1 Γe e1 m1 n1 e' m' n' r2 w2 hsp hchk h3 ρ' (upd V w1 m1) w' B F a' g1 g2 g6 (Sub.trans (Sub.lor (Sub.trans (Sub.right r1 r2) (Sub.left _ _)) (Sub.trans (Sub.right w1 w2) (Sub.right _ _))) hF) (hag.step l1) g3.mrel (hfree.next g3) Q λa2 w2' ρ2 q1 q2 q3 q4=>?_;exact hk a2 w2' ρ2 q1 q2 (g3.trans q3 l2) q4
    ·exact absurd e0.symm hne
theorem aa2{ρ:Ren}{Γ:Ctx}{e:List AT}(h:gZ ρ Γ e tmps)(hd:Γ.all (λl=>!l.contains d)=true)(v:AT):gZ ρ Γ e (tmps.setIfInBounds d v):=by
 intro i t hn;obtain⟨x,y,h1,h2,h3⟩:=h i t hn;refine⟨x,y,h1,?_,h3⟩;obtain⟨l,g1,g2⟩:=iU.1 hn;rw[Tv]at hd;have:=hd l (TF g1);have hne:d≠t:=by rintro rfl;simp[g2]at this
 rw[Array.getElem?_setIfInBounds_ne hne];exact h2
theorem acZ{ops:Array Oper}{Q:Exit->VX->SE->Prop}{i:Nat}{rest:List Nat}{a:VX}{w w':SE}{op:Go.Op}{v:AT}(h:opAt ops i d op)(hrun:∀o:Oper,o.op=op->(execOp a.eval o).run P w=.ok (.value v) w')(hk:wpOps P ops Q rest (a.put (some d) v) w'):wpOps P ops Q (i::rest) a w:=by
 obtain⟨o,h1,h2,h3,h4⟩:=h;simp only[wpOps,h1];have hw:TN o (yielded ops a.tmps)=true:=by simp[TN,h4]
 rw[if_pos hw];left;unfold Oper.wp;rw[hrun o h3,Oper.upon_value,h2];exact hk
end
theorem KC{ρ:Ren}{args':Array AT}(hargs:gY ρ args args'.toList)(na nt:Nat)(hla:args.length=na)(hle:na<=nt):gZ ρ (CN na) args (args'++TS (nt-args'.size) undef)/\(args'++TS (nt-args'.size) undef).size=nt:=by
 have hsz:args'.size=na:=by have:=hargs.1;simp at this;omega
 refine⟨λi t hn=>?_,by simp;omega⟩;obtain⟨l,h1,h2⟩:=iU.1 hn;simp only[CN,List.getElem?_map,Option.map_eq_some_iff]at h1;obtain⟨j,hj,rfl⟩:=h1;have hjr:=S'.1 hj;obtain⟨hlt,hje⟩:=hjr;simp at hlt hje;subst hje;have:t=i:=by simpa using h2
 subst this;have hx:args[t]?=some (args[t]'(by omega)):=SH _;obtain⟨y,hy,hv⟩:=hargs.get hx;refine⟨_,y,hx,?_,hv⟩;rw[Xt (by omega)];simpa using hy
section
variable{ρ:Ren}{V:Nat->Option Blk}{w:SE}{B:Nat}
theorem Cn{F:Nat}(h:iI m n v0 m1 n1 r0 w1=.ok v m' n' r wm)(hF:Sub (OF r wm) F)(hag:iX V m n F):iX V m n (OF r0 w1):=by
 unfold iI at h;cases hb:(gy v0&&SF (SL w1 (bit n)) 0)
 ·rw[hb,cond_false]at h;injection h with e1 e2 e3 e4 e5;subst e4 e5;exact hag.sub hF
 ·rw[hb,cond_true,gX]at h;injection h with e1 e2 e3 e4 e5
  rw[No]at hb;intro b hb1 hb2;refine hag b hb1 (hF b ?_);rw[gv]at hb2;rw[iO (SG hb.2) b hb1,Bool.or_false]at hb2;rw[gv,<-e4,oh,hb2];simp[hb1]
theorem Eb{v':AT}{ρ':Ren}(h:iI m n v0 m1 n1 r0 w1=.ok v m' n' r wm)(hm:MRel ρ V w B)(hfree:lN ρ n)(hv:VRel ρ' v0 v')(hp:Post ρ V w B n m1 n1 w1 ρ' w'):∃ρ'',VRel ρ'' v v'/\Post ρ V w B n m' n' wm ρ'' w':=by
 unfold iI at h;cases hb:(gy v0&&SF (SL w1 (bit n)) 0)
 ·rw[hb,cond_false]at h;injection h with e1 e2 e3 e4 e5;subst e1 e2;subst e3 e5;exact⟨ρ',hv,hp⟩
 ·rw[hb,cond_true,gX]at h;injection h with e1 e2 e3 e4 e5;subst e1 e2;subst e3 e5
  rw[No]at hb;have e:=hv.qy hb.1;subst e;have hw:=iO (SG hb.2)
  have same:∀k,k<w.heap.size->w'.heap[k]?=w.heap[k]?:=λk hk=>hp.frame k hk λb p hb1 hb2=>by
   have hbn:b<n:=by
    rcases Nat.lt_or_ge b n with h1|h1
    ·exact h1
    ·rw[hfree b h1]at hb1;cases hb1
   rw[hw b hbn]at hb2;cases hb2
  refine⟨ρ,kE ρ hb.1,ρ.le_refl,λ_ _ h=>.inl h,?_,hp.below,IN _,λk hk _=>same k hk,λ_ _ h=>.inl h,λb h=>by simp at h⟩;rw[qW];exact⟨λb p O h1 h2=>(hm.blk b p O h1 h2).mono ρ.le_refl (same _ (hm.fresh b p h1)),hm.ij,λb p h1=>TC (hm.fresh b p h1) hp.below.size,Tz hm.le hp.below.size,hm.gl.mono hp.below⟩
theorem qp(h:iI m n v0 m1 n1 r0 w1=.ok v m' n' r wm)(hl:Loc m n m1 n1 w1):Loc m n m' n' wm:=by
 unfold iI at h;cases hb:(gy v0&&SF (SL w1 (bit n)) 0)
 ·rw[hb,cond_false]at h;injection h with e1 e2 e3 e4 e5;subst e2 e3 e5;exact hl
 ·rw[hb,cond_true,gX]at h;injection h with e1 e2 e3 e4 e5;subst e2 e3 e5;exact Loc.refl _ _
theorem s6(h:iI m n v0 m1 n1 r0 w1=.ok v m' n' r wm)(hl:Up n n1 r0 w1):Up n n' r wm:=by
 unfold iI at h;cases hb:(gy v0&&SF (SL w1 (bit n)) 0)
 ·rw[hb,cond_false]at h;injection h with e1 e2 e3 e4 e5;subst e3 e4 e5;exact hl
 ·rw[hb,cond_true,gX]at h;injection h with e1 e2 e3 e4 e5;subst e3 e4 e5
  exact⟨IN _,λb hb'=>⟨by rw[oh];simp;omega,by simp⟩⟩
end
section
variable{Y:Nat->List AT->FM->Nat->OR FM}
def ApR(Y:Nat->List AT->FM->Nat->OR FM)(args:List AT)(m:FM)(n:Nat)(R:OR FM):Prop:=∃e1 m1 n1 r1 w1 rb v e2 m2 n2 r2 w2 z,gD PG EL Y Ad args m n=.ok .norm e1 m1 n1 r1 w1/\args.length=2/\e1[2]?=some (B7 rb)/\w1.testBit rb=true/\gD PG EL Y FC e1 m1 n1=.ok (.ret v) e2 m2 n2 r2 w2/\m2 rb=some (.cells [.int .i64 z] 0 false true)/\R=iI m n v m2 n2 (OF r1 r2) (OF w1 w2)
theorem ApR.same{R R':OR FM}(h:ApR Y args m n R)(h':ApR Y args m n R'):R=R':=by
 obtain⟨e1,m1,n1,r1,w1,rb,v,e2,m2,n2,r2,w2,z,a1,a2,a3,a4,a5,a6,rfl⟩:=h;obtain⟨e1',m1',n1',r1',w1',rb',v',e2',m2',n2',r2',w2',z',b1,b2,b3,b4,b5,b6,rfl⟩:=h';rw[a1]at b1;injection b1 with _ q2 q3 q4 q5 q6
 subst q2 q3;subst q4 q5 q6;rw[a5]at b5;injection b5 with q1 q2 q3 q4 q5 q6
 injection q1 with q1
 subst q1 q3;subst q4 q5 q6;rfl
open Classical in
def apA(Y:Nat->List AT->FM->Nat->OR FM)(f:Nat)(args:List AT)(m:FM)(n:Nat):OR FM:=if f=13 then(if h:∃R,ApR Y args m n R then h.choose else .no)else .no
theorem HV{f:Nat}{w:Nat}(h:apA Y f args m n=.ok v m' n' r w):f=13/\ApR Y args m n (.ok v m' n' r w):=by
 unfold apA at h;split at h
 ·rename_i hf;split at h
  ·rename_i hx;have:=hx.choose_spec;rw[h]at this;exact⟨hf,this⟩
  ·cases h
 ·cases h
theorem aeC{R:OR FM}(h:ApR Y args m n R):apA Y 13 args m n=R:=by unfold apA;have hx:∃R,ApR Y args m n R:=⟨R,h⟩;rw[if_pos rfl,dif_pos hx];exact hx.choose_spec.same h
theorem abL(hY:il Y):il (apA Y):=λf args m n v m' n' r wm h=>by obtain⟨_,e1,m1,n1,r1,w1,rb,v0,e2,m2,n2,r2,w2,z,a1,a2,a3,a4,a5,a6,e⟩:=HV h;obtain⟨kA,hkA⟩:=kx a1;obtain⟨kB,hkB⟩:=kx a5;have lA:=jS (P:=PG) (E:=EL) (Y:=Y) hY kA _ _ _ _ _ _ _ _ _ _ hkA;have lB:=jS (P:=PG) (E:=EL) (Y:=Y) hY kB _ _ _ _ _ _ _ _ _ _ hkB;exact qp e.symm (lA.trans lB)
theorem aeB(hY:YUp Y):YUp (apA Y):=λf args m n v m' n' r wm h=>by obtain⟨_,e1,m1,n1,r1,w1,rb,v0,e2,m2,n2,r2,w2,z,a1,a2,a3,a4,a5,a6,e⟩:=HV h;obtain⟨kA,hkA⟩:=kx a1;obtain⟨kB,hkB⟩:=kx a5;have lA:=xy (P:=PG) (E:=EL) (Y:=Y) hY kA _ _ _ _ _ _ _ _ _ _ hkA;have lB:=xy (P:=PG) (E:=EL) (Y:=Y) hY kB _ _ _ _ _ _ _ _ _ _ hkB;exact s6 e.symm (lA.trans lB)
theorem fn13:PG.funcs[13]?=some TT:=Proofs.Tryz.func13
theorem OT:TT.body=some s13:=rfl
theorem nt13:TT.ntmps=62:=rfl
theorem MA{w:SE}{b o:Nat}{cc:Array AT}{e:TypeId}{fz:Nat×Nat}(h:w.heap[b]?=some (.cells cc e fz))(hv:cc[o]?=some v):w.setCell ⟨b,o,none⟩ v=w:=by
 rw[Go.Sort.setCell_eq];refine Go.Sort.mapBlock_id _ _ _ λc e' fr hc=>?_;rw[h]at hc;injection hc with hc
 injection hc with hc
 subst hc;apply Array.ext_getElem?;intro k;rw[Array.getElem?_setIfInBounds];by_cases hk:o=k
 ·subst hk;rw[if_pos rfl,if_pos (SB.1 hv).1,hv]
 ·rw[if_neg hk]
theorem res13{w:SE}(h:(results TT tmps).run PG w=.ok v w):(results TT tmps).run PG w.drew=.ok v w.drew:=by
 simp[results,Proofs.Tryz.results13,go_sem,Proofs.Tryz.isAgg28]at h ⊢;generalize tmps[4]?.getD undef=x at h ⊢
 cases x with
 |pointer q=>
  cases q with
  |none=>simp[go_sem,Result.andThen]at h
  |some a=>
   simp[go_sem,Result.andThen]at h ⊢;have hc:w.drew.cell? a=w.cell? a:=rfl
   cases hq:w.cell? a with
   |some v1=>rw[hq]at h;simp at h ⊢;exact h
   |none=>
    rw[hq]at h;have hf:XC PG w.drew a (Mode.plain==Mode.atomic)=XC PG w a (Mode.plain==Mode.atomic):=rfl;simp at h ⊢;rw[hf];revert h
    cases XC PG w a (Mode.plain==Mode.atomic)with
    |ok r=>intro h;simp at h ⊢;exact h
    |error e=>intro h;simp at h
 |_=>simp[go_sem,Result.andThen,stuck]at h
theorem abK(hY:il Y)(hYs:iw PG Y)(hC:∀k,th FM PG EL Y k):iw PG (apA Y):=by
 intro f args m n v m' n' r wm h ρ V w B F args' hargs hF hag hm hfree;obtain⟨hf,e1,m1,n1,r1,w1,rb,v0,e2,m2,n2,r2,w2,z,hA,hlen,hrb,hwrb,hB,hm2,e⟩:=HV h;clear h;subst hf;refine⟨⟨_,_,fn13,by decide +kernel,OT⟩,calls_of_wp_defers fn13 OT ?_⟩;obtain⟨henv,hsz⟩:=KC hargs 2 62 hlen (by decide);obtain⟨kA,hkA⟩:=kx hA;obtain⟨kB,hkB⟩:=kx hB;have lA:=jS (P:=PG) (E:=EL) (Y:=Y) hY kA _ _ _ _ _ _ _ _ _ _ hkA;have lB:=jS (P:=PG) (E:=EL) (Y:=Y) hY kB _ _ _ _ _ _ _ _ _ _ hkB;obtain⟨i1,o1,cB,hsp,s1,s2,⟨od,d1,d2,d3,d4⟩,s3⟩:=RT;have hag2:=Cn e.symm hF hag;refine JI (nt:=62) (res:=TT.results) hY hC 2 kA Ad s13 (CN 2) acx args m n e1 m1 n1 r1 w1 ON.1 ON.2 hkA ρ V w B _ _ rfl (by rw[nt13];exact hsz) (by rw[nt13];exact henv) ?_ hag2 hm hfree _ λa1 W1 ρ1 g1 g2 g3 g4=>?_
 ·intro k hk;rw[gv,Uw]at hk;simp only[gv];rcases hk with hk|hk<;>simp[hk]
 rw[hsp];obtain⟨x4,y4,q1,q2,q3⟩:=g4 2 4 rfl;rw[hrb]at q1;injection q1 with q1
 subst q1
 obtain⟨p,rfl,hp⟩:∃p,y4=.pointer (some ⟨p.blk,p.base,none⟩)/\ρ1 rb=some p:=by
  cases q3 with
  |flat hf=>simp[flat,B7]at hf
  |ptr hq=>exact⟨_,rfl,hq⟩
 refine wp_seq (wp_region ?_);rw[s1,show List.range 2=[0,1]from rfl];have ev4:a1.eval (.tmp 4)=.pointer (some ⟨p.blk,p.base,none⟩):=by show a1.tmps.getD 4 undef=_;rw[Tp,q2];rfl
 refine acZ (v:=.func (.func 38) #[] #[.pointer (some ⟨p.blk,p.base,none⟩)]) (w':=W1) s2 (λo ho=>?_) ?_
 ·simp[execOp,ho,q2,Result.andThen,go_sem]
 have ev15:(a1.put (some 15) (.func (.func 38) #[] #[.pointer (some ⟨p.blk,p.base,none⟩)])).eval (.tmp 15)=.func (.func 38) #[] #[.pointer (some ⟨p.blk,p.base,none⟩)]:=by show(a1.tmps.setIfInBounds 15 _).getD 15 undef=_;rw[Tp];simp[g2]
 have hrun:(execOp (a1.put (some 15) (.func (.func 38) #[] #[.pointer (some ⟨p.blk,p.base,none⟩)])).eval od).run PG W1=.ok (.defer {target:=.fn (.func 38) #[.pointer (some ⟨p.blk,p.base,none⟩)],args:=#[]}) W1:=by
  have h15:15<a1.tmps.size:=by omega
  simp[execOp,d3,h15,resolve,Result.andThen,go_sem]
 simp only[wpOps,d1];have hw:TN od (yielded o1 (a1.put (some 15) (.func (.func 38) #[] #[.pointer (some ⟨p.blk,p.base,none⟩)])).tmps)=true:=by simp[TN,d4]
 rw[if_pos hw];left;unfold Oper.wp;rw[hrun,Oper.upon_defer,d2];have hD:(({a1.put (some 15) (.func (.func 38) #[] #[.pointer (some ⟨p.blk,p.base,none⟩)])with defers:={target:=.fn (.func 38) #[.pointer (some ⟨p.blk,p.base,none⟩)],args:=#[]}::(a1.put (some 15) (.func (.func 38) #[] #[.pointer (some ⟨p.blk,p.base,none⟩)])).defers}:VX).put none undef).defers=[{target:=.fn (.func 38) #[.pointer (some ⟨p.blk,p.base,none⟩)],args:=#[]}]:=by show _::a1.defers=_;rw[g1]
 have hT:(({a1.put (some 15) (.func (.func 38) #[] #[.pointer (some ⟨p.blk,p.base,none⟩)])with defers:={target:=.fn (.func 38) #[.pointer (some ⟨p.blk,p.base,none⟩)],args:=#[]}::(a1.put (some 15) (.func (.func 38) #[] #[.pointer (some ⟨p.blk,p.base,none⟩)])).defers}:VX).put none undef).tmps=a1.tmps.setIfInBounds 15 (.func (.func 38) #[] #[.pointer (some ⟨p.blk,p.base,none⟩)]):=rfl;generalize ({a1.put (some 15) (.func (.func 38) #[] #[.pointer (some ⟨p.blk,p.base,none⟩)])with defers:={target:=.fn (.func 38) #[.pointer (some ⟨p.blk,p.base,none⟩)],args:=#[]}::(a1.put (some 15) (.func (.func 38) #[] #[.pointer (some ⟨p.blk,p.base,none⟩)])).defers}:VX).put none undef=a2 at hD hT ⊢;show cB.wp PG _ a2 W1;refine wp_mono (hC kB 62 TT.results FC cB [] acx none e1 m1 n1 (.ret v0) e2 m2 n2 r2 w2 s3 hkB ρ1 (upd V w1 m1) W1 B _ a2 hD (by rw[hT];simp[g2]) (by rw[hT];exact aa2 g4 (by rfl) _) ?_ (hag2.step lA) g3.mrel (hfree.next g3)) λex a' w' hq=>?_
 ·intro k hk;rw[gv,Uw]at hk;simp only[gv];rcases hk with hk|hk<;>simp[hk]
 obtain⟨ρ3,t1,t2,t3,rfl,v',t5,t6⟩:=hq;have hpost:=g3.trans t3 lB
 have hbr:=hpost.mrel.blk rb p (.cells [.int .i64 z] 0 false true) (t3.le rb p hp) (by
  unfold upd;rw[gv,hwrb,Bool.true_or,if_pos rfl]
  exact hm2)
 obtain⟨_,cc,ety,fz,k2,k3,k4,_,_⟩:=hbr;obtain⟨_,rfl⟩:=k4 rfl;obtain⟨y,hy,hvy⟩:=k3 0 _ rfl;obtain rfl:=hvy.gQ rfl;have hy:cc[p.base]?=some (.int .i64 z):=hy;show Go.Leaves PG TT a'.tmps _ a'.defers .returning w';rw[t1];refine leaves_cons (f:=38) (args:=#[.pointer (some ⟨p.blk,p.base,none⟩)]) (by simp) (by simp[go_sem]) ?_;refine(Proofs.Tryz.abz ⟨p.blk,p.base,none⟩ z w' (by simp[Ts,k2,hy]) (by simp[Wc,k2])).mono ?_;rintro e u' w'' ⟨rfl,rfl,rfl⟩;rw[MA k2 hy];have hr:=t5 TT rfl;show Go.Leaves PG TT a'.tmps _ [] .returning w'.drew;obtain⟨ρ4,hv4,hp4⟩:=Eb e.symm hm hfree t6 hpost;refine⟨v',?_,ρ4,v',rfl,hv4,Post.side hp4 hm.le ((S0 _ w').drew) λ_ _ _ _ _=>rfl⟩;exact res13 hr
end
end Go.Am.CR
