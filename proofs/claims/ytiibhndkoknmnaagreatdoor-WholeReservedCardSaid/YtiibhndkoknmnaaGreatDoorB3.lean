/- The machine and its runs, part 3. -/
import Derived.Lib.ConvBytes
import Derived.Laws.AppendOwn
import Derived.Test.YtiibhndkoknmnaaGreatDoorB2
set_option linter.unusedVariables false
set_option linter.unusedSimpArgs false
open Go renaming World→SE,Value→AT,Addr→VD
open Nat renaming zero_add→TU,beq→SF,mul→Vu,eq_of_beq_eq_true→SG,lor→OF,le_refl→IN,add→U8,add_mul→Wy,blt→Te,ble→Tj,ble_eq→X6
open List renaming getElem?_map→To,getElem?_eq_some_iff→S',length_append→IT,getElem?_toArray→Wq,getElem?_append_left→TA,size_toArray→Ta,getElem?_append_right→UL,getElem?_eq_getElem→SH,getElem?_cons_succ→UD,getElem?_set→WY,length_eraseIdx→Yb,getElem?_eraseIdx→Wj,ext_getElem?→Vl,mem_singleton→SX,map_append→Uu,mem_map→Us,getElem?_modify→Wv,getElem?_eq_none_iff→XB
open Array renaming getElem?_toList→XT,toList_push→WS,toList_eraseIdxIfInBounds→UO,isEmpty→XM
open Go.Builtin renaming firstCells→TE,append_→Ty,lenOf→Xs,zeroCells→U1,delete_→Xa
open Go.World renaming cell?→Ts
open Bool renaming and_eq_true→No
open Go.MapEntry renaming key→Ul
open Go.Sem renaming run_bind→SU,run→X8
open Go.Am.AMem renaming put→If
namespace Go.Am
open Go Go.RowKit
section
variable{μ:Type}[AMem μ]{P:Program}{ρ:Ren}{V:Nat->Option Blk}{w:SE}{B:Nat}
theorem qi{m m':μ}{n n' r wm sz:Nat}{c c':List AT}{f:Nat->AT}{v:AT}{opn:Bool}(hm:MRel ρ V w B)(h:nD m n (.cells c sz opn true) f=.ok v m' n' r wm)(hfree:lN ρ n)
  (cap e:Nat) (hlen:c.length<=c'.length) (hr:∀(i:Nat) x,c[i]?=some x->∃y,c'[i]?=some y/\VRel ρ x y) (hcap:opn=true->cap<=c'.length):
  v=f n/\∃ρ':Ren,ρ' n=some ⟨w.heap.size,0,cap,sz⟩/\Post ρ V w B n m' n' wm ρ' (w.alloc (.cells c'.toArray e)):=by
 unfold nD at h;cases hl:AMem.lim m n
 ·rw[hl,cond_false]at h;cases h
 ·rw[hl,cond_true]at h;injection h with e1 e2 e3 e4 e5
  subst e1 e2;subst e3 e4 e5;refine⟨rfl,?_⟩;refine Post.new (n':=n+1) hm hl hfree (.cells c sz opn true) (.cells c'.toArray e) cap (λρ' hle=>?_) rfl;refine⟨rfl,c'.toArray,e,(0,0),heap_alloc w _,λi x hx=>?_,λ_=>⟨hm.le,rfl⟩,λho=>?_,?_⟩
  ·obtain⟨y,hy,hv⟩:=hr i x hx;exact⟨y,by simpa using hy,hv.mono hle⟩
  ·have:=hcap ho;simp;omega
  ·simp;omega
theorem Gx{m m':μ}{n n' r wm:Nat}{c:List AT}{f:Nat->AT}{v:AT}(hm:MRel ρ V w B)(h:nD m n (.cells c 1 false false) f=.ok v m' n' r wm)(hfree:lN ρ n)
  {w':SE} {c':Array AT} {e:Nat} {fz:Nat×Nat} (cap:Nat) (hb:Below w.heap.size w w') (hsz:w.heap.size<w'.heap.size) (hw:w'.heap[w.heap.size]?=some (.cells c' e fz)) (hr:∀(i:Nat) x,c[i]?=some x->∃y,c'[i]?=some y/\VRel ρ x y) (hlen:c.length<=c'.size):
  v=f n/\∃ρ':Ren,ρ' n=some ⟨w.heap.size,0,cap,1⟩/\Post ρ V w B n m' n' wm ρ' w':=by
 unfold nD at h;cases hl:AMem.lim m n
 ·rw[hl,cond_false]at h;cases h
 ·rw[hl,cond_true]at h;injection h with e1 e2 e3 e4 e5
  subst e1 e2;subst e3 e4 e5;refine⟨rfl,?_⟩;refine Post.newB (n':=n+1) hm hl hfree (.cells c 1 false false) hb hsz cap (λρ' hle=>?_) rfl;refine⟨rfl,c',e,fz,hw,λi x hx=>?_,(λh=>by cases h),(λh=>by cases h),by show 0+c.length<=_;omega⟩;obtain⟨y,hy,hv⟩:=hr i x hx;exact⟨y,by rw[TU];exact hy,hv.mono hle⟩
theorem Fh(w:SE)(e:TypeId)(s:ByteArray):Below w.heap.size w (Lib.bytesWorld w e s):=⟨rfl,rfl,rfl,by rw[Lib.bytesWorld_size];omega,λk hk=>Lib.bytesWorld_at_old w e s k hk⟩
theorem wL(w:SE)(e:TypeId)(s:ByteArray)(i:Nat)(x:AT)(hx:(bytesOf s)[i]?=some x):(Lib.bytesCells w e s)[i]?=some x/\flat x=true:=by
 rw[bytesOf,To]at hx
 cases hi:s.data.toList[i]? with
 |none=>rw[hi]at hx;cases hx
 |some b=>
  rw[hi]at hx;injection hx with hx
  subst hx;have hlt:i<s.data.size:=by have:=(S'.1 hi).1;simpa using this
  refine⟨?_,rfl⟩;rw[Lib.bytesCells,Array.getElem?_append_left (by simpa using hlt),Array.getElem?_map,<-XT,hi];rfl
theorem gY.aaT{ρ:Ren}{c c':List AT}(h:gY ρ c c'):∀(i:Nat) x,c[i]?=some x->∃y,c'[i]?=some y/\VRel ρ x y:=λ_ _ hx=>h.get hx
theorem rc{m:μ}{n sz F r len c':Nat}{x:AT}{a':Option VD}{l:List AT}(hm:MRel ρ V w B)(hx:VRel ρ x (.slice a' len c'))(h:shown m n sz x=some (l,r))(hag:iX V m n F)(hF:∀b,r.testBit b=true->F.testBit b=true):
  ∃l',gY ρ l l'/\l'.length=len*sz/\∀(size':Nat) (w2:SE),size'=sz->w2.heap=w.heap->(TE size' len (.slice a' len c')).run P w2=.ok l'.toArray w2:=by
 unfold shown at h;split at h
 ·injection h with h;injection h with e1 e2;subst e1 e2
  have e:=hx.gQ rfl;injection e with e1 e2 e3;subst e1 e2 e3
  exact⟨[],.nil ρ,by simp,λ_ w2 _ _=>by simp[TE]⟩
 ·rename_i b o ln c
  have hsh:len=ln/\(ln≠0->∃p,a'=some ⟨p.blk,p.base+o,none⟩/\ρ b=some p):=by
   cases hx with
   |flat hf=>simp[flat]at hf
   |slice hp _ _ _ _=>exact⟨rfl,λ_=>⟨_,rfl,hp⟩⟩
   |vag=>exact⟨rfl,λh=>absurd rfl h⟩
  obtain⟨rfl,ho⟩:=hsh;cases h0:SF len 0
  ·rw[h0,cond_false]at h;have hne:len≠0:=by intro e;subst e;simp at h0
   obtain⟨p,rfl,hp⟩:=ho hne;unfold pW at h;split at h
   ·rename_i c1 s _ _ hg;cases hs:szF s sz
    ·rw[hs,cond_false]at h;cases h
    ·rw[hs,cond_true]at h
     cases hc:je c1 o (Vu len sz)with
     |none=>rw[hc]at h;cases h
     |some l1=>
      rw[hc]at h;have h:some (l1,bit b)=some (l,r):=h;injection h with h;injection h with e1 e2;subst e1 e2
      obtain⟨_,hb⟩:=ji hm hag (hF b (by rw[gx];simp)) hg hp;obtain⟨l',hr,hl',hcell⟩:=oE hb hc;refine⟨l',hr,hl',λs2 w2 e hw=>?_⟩;subst e;refine run_firstCells_some w2 s2 len _ len c' l' hl' (λj v hv=>?_);have:=(hcell j v hv).2;simpa[Ts,hw]using this
   ·cases h
  ·rw[h0,cond_true]at h;injection h with h;injection h with e1 e2;subst e1 e2
   have h0:len=0:=SG h0;subst h0;exact⟨[],.nil ρ,by simp,λ_ w2 _ _=>by cases a'<;>simp[TE,loadCells,loadCellsFrom]⟩
 ·cases h
theorem wi{t u e ty:Nat}{el:Nat}{i:TypeInfo}{a:VD}{sLen sCap n xc:Nat}{xa:Option VD}{news:List AT}{w':SE}(ht:P.underlying t=some (.slice e))(hu:P.underlying u=some (.slice el))(hi:P.info? e=some i)
  (hf:(TE i.size n (.slice xa n xc)).run P w=.ok news.toArray w) (hroom:sLen+n<=sCap) (hst:(storeCells (a.add (sLen*i.size)) news).run P w=.ok () w'):
  (Ty #[t,u] ty #[.slice (some a) sLen sCap,.slice xa n xc]).run P w=.ok (.slice (some a) (sLen+n) sCap) w':=by
 simp[Ty,run_underlying ht,run_underlying hu,sizeOf,typeInfo,hi,Xs,hroom,hf,hst]
theorem BR{t u e ty:Nat}{el:Nat}{i:TypeInfo}{xc:Nat}{xa:Option VD}(ht:P.underlying t=some (.slice e))(hu:P.underlying u=some (.slice el))(hi:P.info? e=some i)
  (hf:(TE i.size 0 (.slice xa 0 xc)).run P w=.ok #[] w):
  (Ty #[t,u] ty #[.slice none 0 0,.slice xa 0 xc]).run P w=.ok (.slice none 0 0) w:=by
 simp[Ty,run_underlying ht,run_underlying hu,sizeOf,typeInfo,hi,Xs,hf]
theorem uk{t u e ty:Nat}{el:Nat}{i:TypeInfo}{z:AT}{base:Option VD}{sLen sCap n xc:Nat}{xa:Option VD}{olds news:List AT}(ht:P.underlying t=some (.slice e))(hu:P.underlying u=some (.slice el))(hi:P.info? e=some i)(hz:i.zero=some z)
  (hfo:(TE i.size sLen (.slice base sLen sCap)).run P w.drew=.ok olds.toArray w.drew) (hf:(TE i.size n (.slice xa n xc)).run P w.drew=.ok news.toArray w.drew) (hg:sCap<sLen+n) (hpos:0<i.bytes)
  (hb:(sLen+n)*i.bytes<=140737488355328):
  ∃rest:List AT,rest.length=(grownCap w (sLen+n) sCap e-(sLen+n))*z.cells.size/\
  (Ty #[t,u] ty #[.slice base sLen sCap,.slice xa n xc]).run P w =
   .ok (.slice (some ⟨w.heap.size,0,none⟩) (sLen+n) (grownCap w (sLen+n) sCap e)) (w.drew.alloc (.cells (olds++news++rest).toArray e)):=by
 have hn:¬(sLen+n<=sCap):=by omega
 have hle:sLen+n<=140737488355328:=Nat.le_trans (Nat.le_mul_of_pos_right _ hpos) hb;have h63':¬(9223372036854775807<((sLen:Int)+(n:Int))):=by omega
 have h48':¬(281474976710656<Builtin.nextslicecap (sLen+n) sCap*i.bytes):=by have:=growslice_fits hg hb;omega
 refine⟨(U1 z.cells (grownCap w (sLen+n) sCap e-(sLen+n))).toList,by simp[U1],?_⟩;simp[Ty,run_underlying ht,run_underlying hu,sizeOf,typeInfo,zeroValue,hi,hz,Xs,hn,h63',h48',Question.forced,hf,hfo,newRow,grownCap]
 congr 2
 apply Array.ext';simp
theorem Post.wZ{m:μ}{n b sz cap:Nat}{c':List AT}{p:Place}{w':SE}{O0:Blk}(hm:MRel ρ V w B)(hlim:AMem.lim m n=true)(hlimb:AMem.lim m b=true)(hbn:b<n)(hfree:lN ρ n)(hp:ρ b=some p)(hV:V b=some O0)(hwr:O0.wr=true)
  (hbase:B<=p.blk) (q:Place) (hq:q.sz=sz) (hqblk:q.blk=p.blk\/q.blk=w.heap.size) (hqlt:q.blk<w'.heap.size) (hcap:q.cap=cap)
  (hnew:∀ρ':Ren,ρ.le ρ'->nA ρ' w' B q (.cells c' sz true true)) (hother:∀k,k≠p.blk->k≠w.heap.size->w'.heap[k]?=w.heap[k]?) (hos:w'.os=w.os) (htape:w'.tape=w.tape) (hout:w'.output=w.output) (hsize:w.heap.size<=w'.heap.size):
  ∃ρ':Ren,ρ' n=some q/\Post ρ V w B n (If (If m b none) n (some (.cells c' sz true true))) (n+1) (OF (bit b) (bit n)) ρ' w':=by
 have hle:Ren.le ρ (λk=>if k=n then some q else ρ k):=by
  intro k p' h;have:k≠n:=by intro e;subst e;rw[hfree k (IN _)]at h;cases h
  simp[this,h]
 have hlim2:AMem.lim (If m b none) n=true:=by rw[AMem.lim_put];exact hlim
 have up:∀k,upd V (OF (bit b) (bit n)) (If (If m b none) n (some (.cells c' sz true true))) k=if k=n then some (.cells c' sz true true)else if k=b then none else V k:=by
  intro k;unfold upd;rw[gv,gx,gx,AMem.get_put _ _ _ _ hlim2,AMem.get_put _ _ _ _ hlimb];by_cases e1:k=n
  ·subst e1;simp
  ·have e1':¬n=k:=λh=>e1 h.symm;by_cases e2:k=b
   ·subst e2;simp[e1]
   ·have e2':¬b=k:=λh=>e2 h.symm;simp[e1,e1',e2,e2']
 refine⟨_,by simp,hle,?_,⟨?_,?_,?_,?_,hm.gl.mono ⟨hos,htape,hout,hsize,λk hk=>hother k (by omega) (by have:=hm.le;omega)⟩⟩,⟨hos,htape,hout,hsize,λk hk=>hother k (by omega) (by have:=hm.le;omega)⟩,Nat.le_succ _,λk hk1 hk=>hother k (λe=>hk b p hp (by rw[gv,gx];simp) e.symm) (by omega),?_,λk hk=>by
  rw[gv,gx,gx,Bool.or_eq_true]at hk;rcases hk with hk|hk
  ·have hk:b=k:=of_decide_eq_true hk;subst hk;exact⟨⟨p,hle b p hp⟩,λ_=>⟨_,hV,hwr⟩⟩
  ·have hk:n=k:=of_decide_eq_true hk;subst hk
   exact⟨⟨q,if_pos rfl⟩,λh=>absurd h (Nat.lt_irrefl _)⟩⟩
 ·intro k p' h;by_cases e:k=n
  ·subst e;exact .inr ⟨IN _,Nat.lt_succ_self _⟩
  ·simp[e]at h;exact .inl h
 ·intro k p' O hk hO;rw[up]at hO;by_cases e1:k=n
  ·subst e1;simp at hk hO;subst hk hO;exact hnew _ hle
  ·simp[e1]at hk hO;obtain⟨e2,hO⟩:=hO;have hx:=hm.ij b k p p' O0 O hp hk hV hO (λh=>e2 h.symm) hwr;have hf:=hm.fresh k p' hk;exact(hm.blk k p' O hk hO).mono hle (hother _ (λh=>hx h.symm) (by omega))
 ·intro b1 b2 p1 p2 O1 O2 h1 h2 hV1 hV2 hne hw;rw[up]at hV1 hV2;by_cases e1:b1=n
  ·subst e1;simp at h1;subst h1;have e2:¬b2=b1:=λh=>hne h.symm;simp[e2]at h2 hV2;have hx:=hm.ij b b2 p p2 O0 O2 hp h2 hV hV2.2 (λh=>hV2.1 h.symm) hwr;have hf:=hm.fresh b2 p2 h2;rcases hqblk with h|h
   ·rw[h];exact hx
   ·omega
  ·simp[e1]at h1 hV1;by_cases e2:b2=n
   ·subst e2;simp at h2;subst h2;have hx:=hm.ij b b1 p p1 O0 O1 hp h1 hV hV1.2 (λh=>hV1.1 h.symm) hwr;have hf:=hm.fresh b1 p1 h1;rcases hqblk with h|h
    ·rw[h];exact λe=>hx e.symm
    ·omega
   ·simp[e2]at h2 hV2;exact hm.ij b1 b2 p1 p2 O1 O2 h1 h2 hV1.2 hV2.2 hne hw
 ·intro k p' h;by_cases e:k=n
  ·subst e;simp at h;subst h;exact hqlt
  ·simp[e]at h;have:=hm.fresh k p' h;omega
 ·have:=hm.le;omega
 ·intro k p' h;by_cases e:k=n
  ·subst e;simp at h;subst h;rcases hqblk with h|h
   ·exact .inr (.inr ⟨b,p,hp,by rw[gv,gx];simp,h.symm⟩)
   ·exact .inr (.inl (by omega))
  ·simp[e]at h;exact .inl h
theorem oM{a:Option VD}{l c:Nat}{x':AT}(h:VRel ρ (.slice a l c) x'):∃a' c',x'=.slice a' l c':=by cases h<;>exact⟨_,_,rfl⟩
theorem MRel.drew(hm:MRel ρ V w B):MRel ρ V w.drew B:=⟨λb p O h1 h2=>by
  have:=hm.blk b p O h1 h2
  exact this.mono ρ.le_refl rfl,hm.ij,hm.fresh,hm.le,hm.gl.mono (Below.refl B w).drew⟩
theorem Post.Iy{m':μ}{n n' W:Nat}{ρ':Ren}{w':SE}(h:Post ρ V w.drew B n m' n' W ρ' w'):Post ρ V w B n m' n' W ρ' w':=⟨h.le,h.dom,h.mrel,⟨h.below.os,h.below.tape,h.below.output,h.below.size,h.below.block⟩,h.num,h.frame,h.newp,h.wold⟩
theorem zS{m m':μ}{n n' r r0 wm sz lx ly:Nat}{t u e el ty:Nat}{ti:TypeInfo}{z:AT}{c c':List AT}{v:AT}{base xa:Option VD}{sCap xc:Nat}{olds news:List AT}
  (hm:MRel ρ V w B) (h:zT m n sz (U8 lx ly) c r0=.ok v m' n' r wm) (hfree:lN ρ n) (ht:P.underlying t=some (.slice e)) (hu:P.underlying u=some (.slice el)) (hi:P.info? e=some ti) (hz:ti.zero=some z) (hsz:ti.size=sz) (hzs:z.cells.size=sz)
  (hc:c'=olds++news) (hr:gY ρ c c') (hlen:c'.length=(lx+ly)*sz)
  (hfo:(TE ti.size lx (.slice base lx sCap)).run P w.drew=.ok olds.toArray w.drew) (hf:(TE ti.size ly (.slice xa ly xc)).run P w.drew=.ok news.toArray w.drew) (hg:sCap<lx+ly) (hpos:0<ti.bytes) (hb:(lx+ly)*ti.bytes<=140737488355328):
  ∃v' w' ρ',(Ty #[t,u] ty #[.slice base lx sCap,.slice xa ly xc]).run P w=.ok v' w'/\VRel ρ' v v'/\Post ρ V w B n m' n' wm ρ' w':=by
 obtain⟨rest,hrest,hrun⟩:=uk (P:=P) (w:=w) (ty:=ty) ht hu hi hz hfo hf hg hpos hb;unfold zT at h;cases hl:AMem.lim m n
 ·rw[hl,cond_false]at h;cases h
 ·rw[hl,cond_true]at h;injection h with e1 e2 e3 e4 e5
  subst e1 e2;subst e3 e4 e5;have hge:lx+ly<=grownCap w (lx+ly) sCap e:=grownCap_ge w _ _ _;have hcl:(olds++news++rest).length=grownCap w (lx+ly) sCap e*sz:=by rw[IT,<-hc,hlen,hrest,hzs,<-Wy];congr 1;omega
  obtain⟨ρ',hn,hpost⟩:=Post.new (n':=n+1) (hm.drew) hl hfree (.cells c sz true true) (.cells (olds++news++rest).toArray e) (grownCap w (lx+ly) sCap e*sz) (λρ' hle=>by
   refine⟨rfl,_,e,(0,0),heap_alloc w.drew _,λi x hx=>?_,λ_=>⟨hm.le,rfl⟩,λ_=>?_,?_⟩
   ·obtain⟨y,hy,hv⟩:=hr.get hx;refine⟨y,?_,hv.mono hle⟩;rw[hc]at hy;have hi:=(S'.1 hy).1;simp only[TU,Wq];rw[TA hi];exact hy
   ·show 0+grownCap w (lx+ly) sCap e*sz<=(olds++news++rest).toArray.size;simp only[Ta,hcl];omega
   ·show 0+c.length<=(olds++news++rest).toArray.size;have h1:=hr.1;rw[hc]at h1
    simp only[Ta,IT]at h1 ⊢;omega) rfl
  refine⟨_,_,ρ',hrun,?_,hpost.Iy⟩;show VRel ρ' (.slice (some ⟨n,0,none⟩) (lx+ly) UNK) _;exact VRel.slice (p:=⟨w.heap.size,0,grownCap w (lx+ly) sCap e*sz,sz⟩) hn hge (λ_=>by simp) (λh=>absurd rfl h) (by decide)
theorem HQ{m m':μ}{n n' r r0 wm sz lx ly ox bx:Nat}{t u e el ty:Nat}{ti:TypeInfo}{z:AT}{a a' b b':List AT}{v:AT}{p:Place}{xa:Option VD}{c' xc F:Nat}
  (hm:MRel ρ V w B) (h:wZ m n sz (U8 lx ly) (a++b) r0 ⟨bx,ox,none⟩ (jc m n bx)=.ok v m' n' r wm) (hag:iX V m n F) (hF:F.testBit bx=true) (hfree:lN ρ n)
  (ht:P.underlying t=some (.slice e)) (hu:P.underlying u=some (.slice el)) (hi:P.info? e=some ti) (hz:ti.zero=some z) (hsz:ti.size=sz) (hzs:z.cells.size=sz)
  (hp:ρ bx=some p) (hcap:ox+c'*p.sz=p.cap) (ha:gY ρ a a') (hb:gY ρ b b') (hla:a'.length=lx*sz) (hlb:b'.length=ly*sz) (hone:∀v∈b',v.oneCell'=true) (hlc:lx<=c')
  (hfo:∀(size':Nat) (w2:SE),size'=sz->w2.heap=w.heap->(TE size' lx (.slice (some ⟨p.blk,p.base+ox,none⟩) lx c')).run P w2=.ok a'.toArray w2)
  (hf:∀(size':Nat) (w2:SE),size'=sz->w2.heap=w.heap->(TE size' ly (.slice xa ly xc)).run P w2=.ok b'.toArray w2) (hpos:0<ti.bytes) (hbb:(lx+ly)*ti.bytes<=140737488355328)
  (hcell:∀i,i<lx*sz->w.cell? ⟨p.blk,p.base+ox+i,none⟩=a'[i]?):
  ∃v' w' ρ',(Ty #[t,u] ty #[.slice (some ⟨p.blk,p.base+ox,none⟩) lx c',.slice xa ly xc]).run P w=.ok v' w'/\VRel ρ' v v'/\Post ρ V w B n m' n' wm ρ' w':=by
 unfold wZ at h;split at h
 ·rename_i c s hg;cases hl:(AMem.lim m n&&SF s sz)
  ·rw[hl,cond_false]at h;cases h
  ·rw[hl,cond_true]at h;injection h with e1 e2 e3 e4 e5
   subst e1 e2;subst e3 e4 e5;rw[No]at hl;have hs:s=sz:=SG hl.2;subst hs;obtain⟨hV,hb0⟩:=ji hm hag hF hg hp;obtain⟨hbn,hget⟩:=gW hg;obtain⟨hpsz,cc,ce,fz,hheap,hcells,hwr,hopn,hlen⟩:=hb0;obtain⟨hB,hfz⟩:=hwr rfl;subst hfz;have hopn:=hopn rfl;rw[hpsz]at hcap;by_cases hroom:lx+ly<=c'
   ·
    have hmul:(lx+ly)*s<=c'*s:=Nat.mul_le_mul_right _ hroom;rw[Wy]at hmul;have hfit:p.base+ox+lx*s+0+b'.length<=cc.size:=by rw[hlb];omega
    have hst:=run_storeCells_at P p.blk (p.base+ox+lx*s) ce b' 0 cc w hheap hfit hone;have hrun:=wi (P:=P) (w:=w) (ty:=ty) (a:=⟨p.blk,p.base+ox,none⟩) ht hu hi (hf ti.size w hsz rfl) hroom (by rw[addr_add,hsz];exact hst);obtain⟨ρ',hn,hpost⟩:=Post.wZ (n:=n) (b:=bx) (sz:=s) (cap:=c'*s) (c':=a++b) hm hl.1 (AMem.get_lim _ _ _ hget) hbn hfree hp hV rfl hB ⟨p.blk,p.base+ox,c'*s,s⟩ rfl (.inl rfl) (by rw[setRow_size];exact hm.fresh bx p hp) rfl
     (w':=w.setRow p.blk (List.take (p.base+ox+lx*s+0) cc.toList++b'++List.drop (p.base+ox+lx*s+0+b'.length) cc.toList).toArray) (λρ' hle=>by
      refine⟨rfl,_,ce,(0,0),setRow_heap w p.blk cc _ ce (0,0) hheap,λi x hx=>?_,λ_=>⟨hB,rfl⟩,λ_=>?_,?_⟩
      ·have hta:(cc.toList.take (p.base+ox+lx*s+0)).length=p.base+ox+lx*s:=by simp;omega
       simp only[Wq];rw[List.append_assoc];have hal:a.length=lx*s:=by rw[ha.1];exact hla
       by_cases hia:i<lx*s
       ·rw[TA (by omega)]at hx;obtain⟨y,hy,hv⟩:=ha.get hx;refine⟨y,?_,hv.mono hle⟩;rw[TA (by omega),List.getElem?_take,if_pos (by omega),<-hy,<-hcell i hia];simp[Ts,hheap]
       ·rw[UL (by omega),hal]at hx;obtain⟨y,hy,hv⟩:=hb.get hx;refine⟨y,?_,hv.mono hle⟩;have hilt:=(S'.1 hy).1;rw[UL (by omega),hta,TA (by omega),<-hy]
        congr 1;omega
      ·simp;omega
      ·have hal:=ha.1;have hbl:=hb.1
       simp;omega) (λk h1 _=>setRow_other w _ _ k h1) rfl rfl rfl (by rw[setRow_size];exact IN _)
    refine⟨_,_,ρ',hrun,?_,hpost⟩;show VRel ρ' (.slice (some ⟨n,0,none⟩) (lx+ly) UNK) _;exact VRel.slice (p:=⟨p.blk,p.base+ox,c'*s,s⟩) hn hroom (λ_=>by simp) (λh=>absurd rfl h) (by decide)
   ·
    have hg:c'<lx+ly:=by omega
    obtain⟨rest,hrest,hrun⟩:=uk (P:=P) (w:=w) (ty:=ty) ht hu hi hz (hfo ti.size w.drew hsz rfl) (hf ti.size w.drew hsz rfl) hg hpos hbb;have hge:lx+ly<=grownCap w (lx+ly) c' e:=grownCap_ge w _ _ _;have hcl:(a'++b'++rest).length=grownCap w (lx+ly) c' e*s:=by rw[IT,IT,hla,hlb,hrest,hzs,<-Wy,<-Wy];congr 1;omega
    obtain⟨ρ',hn,hpost⟩:=Post.wZ (n:=n) (b:=bx) (sz:=s) (cap:=grownCap w (lx+ly) c' e*s) (c':=a++b) hm hl.1 (AMem.get_lim _ _ _ hget) hbn hfree hp hV rfl hB ⟨w.heap.size,0,grownCap w (lx+ly) c' e*s,s⟩ rfl (.inr rfl) (by simp) rfl
     (w':=w.drew.alloc (.cells (a'++b'++rest).toArray e)) (λρ' hle=>by
      refine⟨rfl,_,e,(0,0),heap_alloc w.drew _,λi x hx=>?_,λ_=>⟨hm.le,rfl⟩,λ_=>?_,?_⟩
      ·obtain⟨y,hy,hv⟩:=(ha.append hb).get hx;refine⟨y,?_,hv.mono hle⟩;have hi:=(S'.1 hy).1;simp only[TU,Wq];rw[TA hi];exact hy
      ·show 0+grownCap w (lx+ly) c' e*s<=(a'++b'++rest).toArray.size;simp only[Ta,hcl];omega
      ·show 0+(a++b).length<=(a'++b'++rest).toArray.size;have h1:=(ha.append hb).1
       simp only[Ta,IT]at h1 ⊢;omega)
     (λk h1 h2=>by
      show(w.heap.push _)[k]?=_
      rw[Array.getElem?_push,if_neg (by omega)]) rfl rfl rfl (by simp)
    refine⟨_,_,ρ',hrun,?_,hpost⟩;show VRel ρ' (.slice (some ⟨n,0,none⟩) (lx+ly) UNK) _;exact VRel.slice (p:=⟨w.heap.size,0,grownCap w (lx+ly) c' e*s,s⟩) hn hge (λ_=>by simp) (λh=>absurd rfl h) (by decide)
 ·cases h
theorem abN{b b':List AT}(h:gY ρ b b')(hone:b.all one=true):∀v∈b',v.oneCell'=true:=by
 intro v hv;obtain⟨j,hj,rfl⟩:=List.getElem_of_mem hv;have hj':j<b.length:=by rw[h.1];exact hj
 have:=h.2 j _ _ (SH hj') (SH hj);refine this.one ?_;rw[List.all_eq_true]at hone;exact hone _ (List.getElem_mem hj')
theorem DC{m:μ}{n sz F r lx c' bx ox cx:Nat}{a:List AT}{p:Place}(hm:MRel ρ V w B)(hp:ρ bx=some p)(hx:VRel ρ (.slice (some ⟨bx,ox,none⟩) lx cx) (.slice (some ⟨p.blk,p.base+ox,none⟩) lx c'))
  (h:shown m n sz (.slice (some ⟨bx,ox,none⟩) lx cx)=some (a,r)) (hag:iX V m n F) (hF:∀b,r.testBit b=true->F.testBit b=true) {a':List AT} (hla:a'.length=lx*sz)
  (hfo:(TE sz lx (.slice (some ⟨p.blk,p.base+ox,none⟩) lx c')).run P w=.ok a'.toArray w):∀i,i<lx*sz->w.cell? ⟨p.blk,p.base+ox+i,none⟩=a'[i]?:=by
 intro i hi;unfold shown at h;cases h0:SF lx 0
 ·simp only[h0,cond_false]at h;unfold pW at h;split at h
  ·rename_i c1 s _ _ hg;cases hs:szF s sz
   ·rw[hs,cond_false]at h;cases h
   ·rw[hs,cond_true]at h
    cases hc:je c1 ox (Vu lx sz)with
    |none=>rw[hc]at h;cases h
    |some l1=>
     rw[hc]at h;have h:some (l1,bit bx)=some (a,r):=h;injection h with h;injection h with e1 e2;subst e1 e2
     obtain⟨_,hb⟩:=ji hm hag (hF bx (by rw[gx];simp)) hg hp;obtain⟨l',hr,hl',hcell⟩:=oE hb hc;have hl'':=run_firstCells_some (P:=P) w sz lx ⟨p.blk,p.base+ox,none⟩ lx c' l' hl' (λj v hv=>(hcell j v hv).2);rw[hl'']at hfo;have e:l'=a':=by injection hfo with e1;have:=congrArg Array.toList e1;simpa using this
     subst e;have hil:i<l'.length:=by rw[hla];exact hi
     rw[SH hil];have:=(hcell i _ (SH hil)).2
     rwa [addr_add]at this
  ·cases h
 ·have h0:lx=0:=SG h0;subst h0;simp at hi
theorem HR{m m':μ}{n n' r wm sz bytes:Nat}{t u e el ty:Nat}{ti:TypeInfo}{z:AT}{x y x' y' v:AT}
  (hm:MRel ρ V w B) (h:nl sz bytes m n x y (shown m n sz x) (shown m n sz y)=.ok v m' n' r wm) (hag:iX V m n (OF r wm)) (hfree:lN ρ n)
  (ht:P.underlying t=some (.slice e)) (hu:P.underlying u=some (.slice el)) (hi:P.info? e=some ti) (hz:ti.zero=some z) (hsz:ti.size=sz) (hzs:z.cells.size=sz) (hby:ti.bytes=bytes)
  (hx:VRel ρ x x') (hy:VRel ρ y y'):
  ∃v' w' ρ',(Ty #[t,u] ty #[x',y']).run P w=.ok v' w'/\VRel ρ' v v'/\Post ρ V w B n m' n' wm ρ' w':=by
 cases hsx:shown m n sz x with
 |none=>rw[hsx]at h;cases h
 |some pa=>
 cases hsy:shown m n sz y with
 |none=>rw[hsx,hsy]at h;cases h
 |some pb=>
 obtain⟨a,ra⟩:=pa;obtain⟨b,rb⟩:=pb;rw[hsx,hsy]at h;replace h:HP sz bytes m n (a,ra) (b,rb) x y=.ok v m' n' r wm:=h;unfold HP at h;split at h
 ·rename_i ax lx cx ay ly cy;cases hc:(b.all one&&Te 0 sz&&Te 0 bytes&&Tj (Vu (U8 lx ly) bytes) 140737488355328)
  ·simp only[hc,cond_false]at h;cases h
  ·simp only[hc,cond_true]at h;simp only[No,Nat.blt_eq,X6]at hc;obtain⟨⟨⟨hone,hszp⟩,hbyp⟩,hbb⟩:=hc;have hbb:(lx+ly)*bytes<=140737488355328:=hbb;obtain⟨ax',cx',rfl⟩:=oM hx;obtain⟨ay',cy',rfl⟩:=oM hy
   have hr:∀k,(OF ra rb).testBit k=true->(OF r wm).testBit k=true:=by
    intro k hk
    have e:r=OF ra rb:=by
     unfold xd at h;split at h
     ·cases hl:SF ly 0
      ·rw[hl,cond_false]at h;unfold zT at h;cases hl2:AMem.lim m n
       ·rw[hl2,cond_false]at h;cases h
       ·rw[hl2,cond_true]at h;injection h with _ _ _ e _;exact e.symm
      ·rw[hl,cond_true]at h;injection h with _ _ _ e _;exact e.symm
     ·rename_i bx ox;cases hl:SF cx VAG
      ·rw[hl,cond_false]at h;cases hl1:SF cx UNK
       ·rw[hl1,cond_false]at h;cases hl2:Tj (U8 lx ly) cx
        ·rw[hl2,cond_false]at h;unfold zT at h;cases hl3:AMem.lim m n
         ·rw[hl3,cond_false]at h;cases h
         ·rw[hl3,cond_true]at h;injection h with _ _ _ e _;exact e.symm
        ·rw[hl2,cond_true]at h;unfold LD at h;split at h
         ·unfold tJ at h;split at h
          ·injection h with _ _ _ e _;exact e.symm
          ·cases h
         ·cases h
       ·rw[hl1,cond_true]at h;unfold wZ at h;split at h
        ·rename_i s _;cases hl3:(AMem.lim m n&&SF s sz)
         ·rw[hl3,cond_false]at h;cases h
         ·rw[hl3,cond_true]at h;injection h with _ _ _ e _;exact e.symm
        ·cases h
      ·rw[hl,cond_true]at h;cases h
     ·cases h
    rw[gv,e,hk];rfl
   have hra:∀k,ra.testBit k=true->(OF r wm).testBit k=true:=λk hk=>hr k (by rw[gv,hk];rfl);have hrb:∀k,rb.testBit k=true->(OF r wm).testBit k=true:=λk hk=>hr k (by rw[gv,hk];simp);obtain⟨a',ha,hla,hfa⟩:=rc (P:=P) hm hx hsx hag hra;obtain⟨b',hb,hlb,hfb⟩:=rc (P:=P) hm hy hsy hag hrb;have hone':=abN hb hone;have hlen:(a'++b').length=(lx+ly)*sz:=by rw[IT,hla,hlb,<-Wy]
   unfold xd at h;split at h
   ·
    have e0:lx=0/\cx=0/\a=[]:=by
     unfold shown at hsx;split at hsx
     ·rename_i e1;injection e1 with _ e2 e3;injection hsx with hsx;injection hsx with e4 _
      exact⟨e2,e3,e4.symm⟩
     ·rename_i e1;injection e1 with e1;cases e1
     ·cases hsx
    obtain⟨rfl,rfl,rfl⟩:=e0;have ex:=hx.gQ rfl;injection ex with ex1 _ ex3;subst ex1 ex3
    cases hl:SF ly 0
    ·rw[hl,cond_false]at h;have hne:ly≠0:=by intro e;subst e;simp at hl
     have ha':a'=[]:=by have:=ha.1;cases a' with|nil=>rfl|cons=>simp at this
     exact zS hm h hfree ht hu hi hz hsz hzs rfl (ha.append hb) hlen (hfa _ _ hsz rfl) (hfb _ _ hsz rfl) (by omega) (by omega) (by rw[hby];exact hbb)
    ·rw[hl,cond_true]at h;injection h with e1 e2 e3 e4 e5
     subst e1 e2;subst e3 e5;have hl:ly=0:=SG hl;subst hl;have hb0:b'=[]:=by have:=hlb;simp at this;exact this
     have hrun:=hfb ti.size w hsz rfl;rw[hb0]at hrun;exact⟨_,w,ρ,BR ht hu hi hrun,.flat rfl,Post.same hm n m⟩
   ·rename_i bx ox;cases hl:SF cx VAG
    ·rw[hl,cond_false]at h;have hnv:cx≠VAG:=by intro e;subst e;simp at hl
     cases hx with
     |flat hf=>simp[flat]at hf
     |vag=>exact absurd rfl hnv
     |slice hp hn hun hk hv=>
      rename_i p;have hx':VRel ρ (.slice (some ⟨bx,ox,none⟩) lx cx) (.slice (some ⟨p.blk,p.base+ox,none⟩) lx cx'):=.slice hp hn hun hk hv;cases hl1:SF cx UNK
      ·rw[hl1,cond_false]at h;have hnu:cx≠UNK:=by intro e;subst e;simp at hl1
       have ec:=hk hnu;subst ec;cases hl2:Tj (U8 lx ly) cx'
       ·rw[hl2,cond_false]at h
        have hg:¬lx+ly<=cx':=by intro hh;have:Tj (U8 lx ly) cx'=true:=by rw[X6];exact hh
                                rw[this]at hl2;cases hl2
        exact zS hm h hfree ht hu hi hz hsz hzs rfl (ha.append hb) hlen (hfa _ _ hsz rfl) (hfb _ _ hsz rfl) (by omega) (by omega) (by rw[hby];exact hbb)
       ·rw[hl2,cond_true]at h;rw[X6]at hl2;have hroom:lx+ly<=cx':=hl2;unfold LD at h;split at h
        ·rename_i c s opn hg;unfold tJ at h;split at h
         ·rename_i c1 hs;injection h with e1 e2 e3 e4 e5
          subst e1 e2;subst e3 e4 e5;obtain⟨hV,hb0⟩:=ji hm hag (by rw[gv,gx];simp) hg hp;obtain⟨w',hw,hb',ho,h1,h2,h3,h4⟩:=zN (P:=P) hb0 hs hb hone';refine⟨_,w',ρ,wi (P:=P) (w:=w) (ty:=ty) ht hu hi (hfb _ _ hsz rfl) hroom (by rw[addr_add,hsz,Nat.add_assoc];exact hw),?_,Post.write hm (AMem.get_lim _ _ _ (gW hg).2) hp hV hb' ho h1 h2 h3 h4⟩;exact VRel.slice hp hroom hun (λ_=>rfl) hv
         ·cases h
        ·cases h
      ·rw[hl1,cond_true]at h;have ecu:cx=UNK:=SG hl1
       exact HQ hm h hag (by
         unfold wZ at h;split at h
         ·rename_i s _;cases hl3:(AMem.lim m n&&SF s sz)
          ·rw[hl3,cond_false]at h;cases h
          ·rw[hl3,cond_true]at h;injection h with _ _ _ _ e
           rw[gv,<-e,gv,gx];simp
         ·cases h) hfree ht hu hi hz hsz hzs hp (hun ecu) ha hb hla hlb hone' hn hfa hfb (by omega) (by rw[hby];exact hbb)
        (DC (P:=P) hm hp hx' hsx hag hra hla (hfa sz w rfl rfl))
    ·rw[hl,cond_true]at h;cases h
   ·cases h
 ·cases h
end
section
variable{μ:Type}[AMem μ]{P:Program}{ρ:Ren}{V:Nat->Option Blk}{w:SE}{B:Nat}
theorem Post.LO{m:μ}{n b:Nat}{O O':Blk}{p:Place}{w':SE}(hm:MRel ρ V w B)(hlim:AMem.lim m b=true)(hp:ρ b=some p)(hV:V b=some O)(hO:O.wr=true)(hO':O'.wr=true)(hBp:B<=p.blk)
  (hb:nA ρ w' B p O') (hother:∀k,k≠p.blk->w'.heap[k]?=w.heap[k]?) (hos:w'.os=w.os) (htape:w'.tape=w.tape) (hout:w'.output=w.output) (hsize:w'.heap.size=w.heap.size):
  Post ρ V w B n (If m b (some O')) n (bit b) ρ w':=by
 refine⟨ρ.le_refl,λ_ _ h=>.inl h,⟨?_,?_,?_,?_,hm.gl.mono ⟨hos,htape,hout,by omega,λk hk=>hother k (by omega)⟩⟩,⟨hos,htape,hout,by omega,λk hk=>hother k (by omega)⟩,IN _,λk _ hk=>hother k (λe=>hk b p hp (by rw[gx];simp) e.symm),λ_ _ h=>.inl h,λk hk=>by
  rw[gx]at hk;have hk:b=k:=of_decide_eq_true hk;subst hk
  exact⟨⟨p,hp⟩,λ_=>⟨_,hV,hO⟩⟩⟩
 ·intro b2 p2 O2 h2 hV2;by_cases e:b2=b
  ·subst e;rw[hp]at h2;injection h2 with h2;subst h2
   simp[upd,gx,AMem.get_put m b2 b2 _ hlim]at hV2;subst hV2;exact hb
  ·have hne:¬b=b2:=λh=>e h.symm;simp[upd,gx,hne]at hV2;have hx:=hm.ij b b2 p p2 _ O2 hp h2 hV hV2 hne hO;exact(hm.blk b2 p2 O2 h2 hV2).mono ρ.le_refl (hother _ (λh=>hx h.symm))
 ·intro b1 b2 p1 p2 O1 O2 h1 h2 hV1 hV2 hne hw
  have old:∀{b3:Nat} {O3:Blk},upd V (bit b) (If m b (some O')) b3=some O3->∃O4,V b3=some O4/\O4.wr=O3.wr:=by
   intro b3 O3 h;by_cases e:b3=b
   ·subst e;simp[upd,gx,AMem.get_put m b3 b3 _ hlim]at h;subst h;exact⟨_,hV,hO.trans hO'.symm⟩
   ·have hne:¬b=b3:=λh=>e h.symm;simp[upd,gx,hne]at h;exact⟨_,h,rfl⟩
  obtain⟨O1',h1',e1⟩:=old hV1;obtain⟨O2',h2',e2⟩:=old hV2;exact hm.ij b1 b2 p1 p2 O1' O2' h1 h2 h1' h2' hne (e1.trans hw)
 ·intro b2 p2 h2;have:=hm.fresh b2 p2 h2;omega
 ·have:=hm.le;omega
theorem yT{α β:Type}{x:Sem α}{f:α->Sem β}{v:β}(h:gM P (x >>= f)=some v):∃a,gM P x=some a/\gM P (f a)=some v:=by
 induction x with
 |pure a=>exact⟨a,rfl,h⟩
 |program k ih=>exact ih P h
 |_=>cases h
theorem tB(d:TypeDesc)(k:AT):∀(l:List MapEntry) (i:Nat),Instr.findNow d k l i=(Instr.findNow d k (nJ (l.map Ul)) i).map λr=>r.map λq=>(q.1,((l[q.1-i]?).map (·.val)).getD undef)
 |[],i=>rfl
 |e::l,i=>by
  show(match Instr.sameNow d k e.key with|some true=>some (some (i,e.val))|some false=>Instr.findNow d k l (i+1)|none=>none)=_;show _=(match Instr.sameNow d k e.key with|some true=>some (some (i,undef))|some false=>Instr.findNow d k (nJ (l.map Ul)) (i+1)|none=>none).map _
  cases hs:Instr.sameNow d k e.key with
  |none=>rfl
  |some t=>
   cases t with
   |true=>simp
   |false=>
    show Instr.findNow d k l (i+1)=(Instr.findNow d k (nJ (l.map Ul)) (i+1)).map _;rw[tB d k l (i+1)]
    cases hf:Instr.findNow d k (nJ (l.map Ul)) (i+1)with
    |none=>rfl
    |some r=>
     cases r with
     |none=>rfl
     |some q=>have hq:i+1<=q.1:=findNow_ge hf;show some (some (q.1,_))=some (some (q.1,_));rw[show q.1-i=(q.1-(i+1))+1 by omega,UD]
where
 findNow_ge {d:TypeDesc} {k:AT}:∀{l:List MapEntry} {i:Nat} {q:Nat×AT},Instr.findNow d k l i=some (some q)->i<=q.1
 |[],i,q,h=>by cases h
 |e::l,i,q,h=>by
  unfold Instr.findNow at h;split at h
  ·injection h with h;injection h with h;subst h;exact IN _
  ·have:=findNow_ge h;omega
  ·cases h
theorem pM(kt:Nat)(k:AT):∀(l:List MapEntry) (i:Nat) (r:Option (Nat×AT)),gM P (Instr.findAsking kt k (nJ (l.map Ul)) i)=some r->
  (Instr.findAsking kt k l i).run P w=.ok (r.map λq=>(q.1,((l[q.1-i]?).map (·.val)).getD undef)) w/\∀q,r=some q->i<=q.1
 |[],i,r,h=>by injection h with h;subst h;exact⟨rfl,λq h=>by cases h⟩
 |e::l,i,r,h=>by
  replace h:gM P (Op.equal kt k e.key >>= λt=>if t then pure (some (i,undef))else Instr.findAsking kt k (nJ (l.map Ul)) (i+1))=some r:=h;obtain⟨t,h1,h2⟩:=yT h;have hr:=mh (w:=w) h1;show(Op.equal kt k e.key >>= λt=>if t then pure (some (i,e.val))else Instr.findAsking kt k l (i+1)).run P w=_/\_;rw[SU,hr]
  cases t with
  |true=>
   injection h2 with h2;subst h2
   refine⟨?_,λq hq=>by injection hq with hq;subst hq;exact IN _⟩;show(Pure.pure (some (i,e.val)):Sem _).run P w=.ok (some (i,(((e::l)[i-i]?).map (·.val)).getD undef)) w;rw[Nat.sub_self];rfl
  |false=>
   obtain⟨g1,g2⟩:=pM kt k l (i+1) r h2;refine⟨?_,λq hq=>by have:=g2 q hq;omega⟩;show(Instr.findAsking kt k l (i+1)).run P w=_;rw[g1]
   cases r with
   |none=>rfl
   |some q=>have hq:=g2 q rfl;show Result.ok (some (q.1,_)) w=.ok (some (q.1,_)) w;rw[show q.1-i=(q.1-(i+1))+1 by omega,UD]
theorem tQ{e:Bool}{kt:Nat}{k:AT}{es:List MapEntry}{r:Option Nat}(h:j0 P e kt k (es.map Ul)=some r):
  (Instr.checkKey e 10000 kt k).run P w=.ok () w/\(Instr.findKey kt k es).run P w=.ok (r.map λi=>(i,((es[i]?).map (·.val)).getD undef)) w:=by
 unfold j0 at h
 cases hp:gM P (do Instr.checkKey e 10000 kt k;Instr.findKey kt k (nJ (es.map Ul)))with
 |none=>rw[hp]at h;cases h
 |some q=>
  rw[hp]at h;injection h with h
  obtain⟨u,h1,h2⟩:=yT hp;refine⟨mh h1,?_⟩;obtain⟨d,h3,h4⟩:=yT (show gM P (underlying kt >>= λd=>match Instr.findNow d k (nJ (es.map Ul)) 0 with|some r=>pure r|none=>Instr.findAsking kt k (nJ (es.map Ul)))=some q from h2);show(underlying kt >>= λd=>match Instr.findNow d k es 0 with|some r=>pure r|none=>Instr.findAsking kt k es).run P w=_;rw[SU,mh h3];show(match Instr.findNow d k es 0 with|some r=>pure r|none=>Instr.findAsking kt k es:Sem _).run P w=_;rw[tB]
  cases hf:Instr.findNow d k (nJ (es.map Ul)) 0 with
  |some r0=>
   rw[hf]at h4;injection h4 with h4
   subst h4 h;cases r0<;>rfl
  |none=>rw[hf]at h4;obtain⟨g1,_⟩:=pM (w:=w) kt k es 0 q h4;show(Instr.findAsking kt k es).run P w=_;rw[g1,<-h];cases q<;>rfl
theorem rB{m:μ}{n b F:Nat}{es:List (AT×AT)}{p:Place}(hm:MRel ρ V w B)(hag:iX V m n F)(hF:F.testBit b=true)
  (hg:jc m n b=some (.map es)) (hp:ρ b=some p):V b=some (.map es)/\nA ρ w B p (.map es):=by
 obtain⟨h1,h2⟩:=gW hg;have hV:=(hag b h1 hF).trans h2;exact⟨hV,hm.blk b p _ hp hV⟩
theorem A8{ok:Bool}{z:AT}{es:List (AT×AT)}{es':List MapEntry}{r:Option Nat}{v:AT}(hz:gy z=true)(hv:gY ρ (es.map (·.2)) (es'.map (·.val)))(h:zk ok z es (some r)=some v):
  ∃v',VRel ρ v v'/\v'=(match(r.map λi=>(i,((es'[i]?).map (·.val)).getD undef))with|some (_,x)=>(if ok then .tuple #[x,.bool true]else x)|none=>(if ok then .tuple #[z,.bool false]else z)):=by
 have tup:∀{x x':AT} (t:Bool),VRel ρ x x'->VRel ρ (AY ok x t) (if ok then .tuple #[x',.bool t]else x'):=λ{x x'} t hx=>by
  cases ok
  ·exact hx
  ·have:=gY.tuple (gY.cons hx (gY.cons (VRel.bool ρ t) (gY.nil ρ)));exact this
 cases r with
 |none=>
  injection h with h;subst h
  exact⟨_,tup false (kE ρ hz),rfl⟩
 |some i=>
  replace h:(es[i]?).map (λp=>AY ok p.2 true)=some v:=h
  cases he:es[i]? with
  |none=>rw[he]at h;cases h
  |some q=>
   rw[he]at h;injection h with h;subst h
   have hx:(es.map (·.2))[i]?=some q.2:=by rw[To,he];rfl
   obtain⟨y,hy,hr⟩:=hv.get hx;have hy':((es'[i]?).map (·.val)).getD undef=y:=by rw[To]at hy;rw[hy];rfl
   refine⟨_,tup true hr,?_⟩;show _=if ok then Value.tuple #[((es'[i]?).map (·.val)).getD undef,.bool true]else _
   rw[hy']
theorem yG{t kt e:Nat}{ti:TypeInfo}{z:AT}{ok:Bool}{x k:AT}{es':Array MapEntry}{r:Option Nat}(ht:P.underlying t=some (.map kt e))(hti:P.info? e=some ti)(hz:ti.zero=some z)
  (hx:(x=.map none/\es'=#[])\/∃g clock,x=.map (some g)/\w.heap[g]?=some (.map es' clock)) (hk:j0 P es'.isEmpty kt k (es'.toList.map Ul)=some r):
  (Instr.lookup t x k ok).run P w=.ok (match(r.map λi=>(i,((es'.toList[i]?).map (·.val)).getD undef))with|some (_,x)=>(if ok then .tuple #[x,.bool true]else x)|none=>(if ok then .tuple #[z,.bool false]else z)) w:=by
 obtain⟨h1,h2⟩:=tQ (w:=w) hk;have h3:=kJ (w:=w) hti hz;rcases hx with⟨rfl,rfl⟩|⟨g,cl,rfl,hg⟩
 ·cases r with
  |none=>cases ok<;>simp[Instr.lookup,run_underlying ht,Result.andThen,h3,show(Instr.checkKey true 10000 kt k).run P w=.ok () w from h1,show(Instr.findKey kt k []).run P w=.ok none w from h2]
  |some i=>cases ok<;>simp[Instr.lookup,run_underlying ht,Result.andThen,show(Instr.checkKey true 10000 kt k).run P w=.ok () w from h1,show(Instr.findKey kt k []).run P w=.ok (some (i,undef)) w from h2]
 ·have h4:(getObj g).run P w=.ok (.map es' cl) w:=by simp[getObj,X8,hg]
  cases r with
  |none=>cases ok<;>simp[Instr.lookup,run_underlying ht,h4,Result.andThen,h3,h1,h2]
  |some i=>cases ok<;>simp[Instr.lookup,run_underlying ht,h4,Result.andThen,h1,h2]
def nC(w:SE)(g:Nat)(es:Array MapEntry)(cl:Nat):SE:={w with heap:=w.heap.setIfInBounds g (.map es cl)}
theorem sM{g:Nat}{es es':Array MapEntry}{c c':Nat}(h:w.heap[g]?=some (.map es c)):(nC w g es' c').heap[g]?=some (.map es' c')/\(∀k,k≠g->(nC w g es' c').heap[k]?=w.heap[k]?)/\(nC w g es' c').heap.size=w.heap.size:=by have hlt:g<w.heap.size:=(Array.getElem?_eq_some_iff.1 h).1;exact⟨by simp[nC,hlt],λk hk=>by simp[nC,Ne.symm hk],by simp[nC]⟩
theorem oO{g:Nat}{es es':Array MapEntry}{c c':Nat}(h:w.heap[g]?=some (.map es c)):(setObj g (.map es' c')).run P w=.ok () (nC w g es' c'):=by simp[setObj,X8,h,nC]
theorem gY.set{l l':List AT}(h:gY ρ l l')(i:Nat){x y:AT}(hx:VRel ρ x y):gY ρ (l.set i x) (l'.set i y):=by
 refine⟨by simp[h.1],λj a b ha hb=>?_⟩;rw[WY]at ha hb;by_cases e:i=j
 ·subst e;rw[if_pos rfl]at ha hb;split at ha
  ·split at hb
   ·injection ha with ha;injection hb with hb;subst ha hb;exact hx
   ·cases hb
  ·cases ha
 ·rw[if_neg e]at ha hb;exact h.2 j a b ha hb
theorem gY.erase{l l':List AT}(h:gY ρ l l')(i:Nat):gY ρ (l.eraseIdx i) (l'.eraseIdx i):=by
 refine⟨by rw[Yb,Yb,h.1],λj a b ha hb=>?_⟩;rw[Wj]at ha hb;split at ha
 ·rw[if_pos ‹_›]at hb;exact h.2 j a b ha hb
 ·rw[if_neg ‹_›]at hb;exact h.2 _ a b ha hb
theorem sX{α β:Type}(f:α->β)(l:List α)(i:Nat):(l.eraseIdx i).map f=(l.map f).eraseIdx i:=by apply Vl;intro j;rw[To,Wj,Wj];split<;>rw[To]
theorem Bn.push{es:Array MapEntry}{c:Nat}(h:Bn es c)(x:MapEntry)(hx:x.born=c):Bn (es.push x) (c+1):=by
 refine⟨λy hy=>?_,?_⟩
 ·rw[WS,List.mem_append,SX]at hy;rcases hy with hy|rfl
  ·have:=h.1 y hy;omega
  ·omega
 ·rw[WS,Uu,List.nodup_append];refine⟨h.2,by simp,λa ha b hb=>?_⟩;obtain⟨y,hy,rfl⟩:=Us.1 ha;have:=h.1 y hy;simp only[List.map_cons,List.map_nil,SX]at hb;omega
theorem Bn.same{es es':Array MapEntry}{c:Nat}(h:Bn es c)(he:es'.toList.map (·.born)=es.toList.map (·.born)):Bn es' c:=by
 refine⟨λy hy=>?_,by rw[he];exact h.2⟩;have:y.born∈es.toList.map (·.born):=by rw[<-he];exact Us.2 ⟨y,hy,rfl⟩
 obtain⟨z,hz,e⟩:=Us.1 this;rw[<-e];exact h.1 z hz
theorem Bn.erase{es:Array MapEntry}{c:Nat}(h:Bn es c)(i:Nat):Bn (es.eraseIdxIfInBounds i) c:=by
 refine⟨λy hy=>?_,?_⟩
 ·rw[UO]at hy;exact h.1 y (List.mem_of_mem_eraseIdx hy)
 ·rw[UO];exact h.2.sublist ((List.eraseIdx_sublist _ _).map _)
theorem wY(l:List MapEntry)(i:Nat)(k v:AT):(l.modify i λe=>{e with key:=k,val:=v}).map (·.born)=l.map (·.born):=by
 apply Vl;intro j;rw[To,Wv,To];by_cases hj:i=j
 ·subst hj;cases l[i]?<;>simp
 ·simp[hj]
theorem Jz{t kt e:Nat}{es es1:List (AT×AT)}{k v v':AT}{p:Place}{r:Option Nat}(ht:P.underlying t=some (.map kt e))(hb:nA ρ w B p (.map es))(hk:j0 P false kt k (es.map (·.1))=some r)(hv:VRel ρ v v')(h:Ru k v es (some r)=some es1):
  ∃w',(Instr.mapUpdate t (.map (some p.blk)) k v').run P w=.ok () w'/\nA ρ w' B p (.map es1)/\(∀k,k≠p.blk->w'.heap[k]?=w.heap[k]?)/\w'.os=w.os/\w'.tape=w.tape/\w'.output=w.output/\w'.heap.size=w.heap.size:=by
 obtain⟨hB,es',cl,hg,hkeys,hvals,hbn⟩:=hb;rw[<-hkeys]at hk;obtain⟨h1,h2⟩:=tQ (w:=w) hk;have h4:(getObj p.blk).run P w=.ok (.map es' cl) w:=by simp[getObj,X8,hg]
 cases r with
 |none=>
  injection h with h;subst h
  obtain⟨s1,s2,s3⟩:=sM (es':=es'.push {key:=k,val:=v',born:=cl}) (c':=cl+1) hg;refine⟨nC w p.blk (es'.push {key:=k,val:=v',born:=cl}) (cl+1),by simp[Instr.mapUpdate,run_underlying ht,h4,h1,h2,Result.andThen,oO hg],⟨hB,_,_,s1,by simp[hkeys],?_,hbn.push _ rfl⟩,s2,rfl,rfl,rfl,s3⟩;rw[Uu,WS,Uu];exact hvals.append (.cons hv (.nil ρ))
 |some i=>
  replace h:(match es[i]? with|some p=>cond (Instr.sameBits 10000 p.1 k) (some (es.set i (k,v))) none|none=>none)=some es1:=h
  cases he:es[i]? with
  |none=>rw[he]at h;cases h
  |some q=>
   rw[he]at h
   cases hs:Instr.sameBits 10000 q.1 k with
   |false=>simp only[hs,cond_false]at h;cases h
   |true=>
    simp only[hs,cond_true]at h;injection h with h;subst h
    have hq:(es'.toList.map Ul)[i]?=some q.1:=by rw[hkeys,To,he];rfl
    rw[To]at hq;have hold:((es'[i]?).map (·.key)).getD k=q.1:=by rw[<-XT,hq];rfl
    obtain⟨s1,s2,s3⟩:=sM (es':=es'.modify i λe=>{e with key:=k,val:=v'}) (c':=cl) hg;have hst:(Instr.keyThatStays (((es'[i]?).map (·.key)).getD k) k).run P w=.ok k w:=by rw[hold];simp[Instr.keyThatStays,hs,X8]
    have hml:(es'.modify i λe=>{e with key:=k,val:=v'}).toList=es'.toList.modify i λe=>{e with key:=k,val:=v'}:=by simp
    refine⟨nC w p.blk (es'.modify i λe=>{e with key:=k,val:=v'}) cl,by simp[Instr.mapUpdate,run_underlying ht,h4,h1,h2,Result.andThen,hst,oO hg],⟨hB,_,_,s1,?_,?_,hbn.same (by rw[hml];exact wY _ _ _ _)⟩,s2,rfl,rfl,rfl,s3⟩
    ·rw[hml,List.map_set,<-hkeys];apply Vl;intro j;rw[To,Wv,WY,To];by_cases hj:i=j
     ·subst hj
      have hlt:i<es'.toList.length:=by
       rcases Nat.lt_or_ge i es'.toList.length with h|h
       ·exact h
       ·rw[List.getElem?_eq_none h]at hq;cases hq
      have hlt':i<es'.size:=by simpa using hlt
      simp[hlt']
     ·simp[hj]
    ·rw[hml,List.map_set]
     have:(es'.toList.modify i λe=>{e with key:=k,val:=v'}).map MapEntry.val=(es'.toList.map MapEntry.val).set i v':=by
      apply Vl;intro j;rw[To,Wv,WY,To];by_cases hj:i=j
      ·subst hj
       cases hx:es'.toList[i]? with
       |none=>simp[hx,XB.1 hx];have:=XB.1 hx;omega
       |some y=>
        have hlt:i<es'.size:=by simpa using(S'.1 hx).1
        simp[hlt]
      ·simp[hj]
     rw[this];exact hvals.set i hv
theorem KP{t kt e:Nat}{es es1:List (AT×AT)}{k:AT}{p:Place}{r:Option Nat}{ts:Array Nat}{ty:Nat}(hts:ts[0]?=some t)(ht:P.underlying t=some (.map kt e))(hb:nA ρ w B p (.map es))(hk:j0 P es.isEmpty kt k (es.map (·.1))=some r)(h:aa5 es (some r)=some es1):
  ∃w',(Xa ts ty #[.map (some p.blk),k]).run P w=.ok undef w'/\nA ρ w' B p (.map es1)/\(∀k,k≠p.blk->w'.heap[k]?=w.heap[k]?)/\w'.os=w.os/\w'.tape=w.tape/\w'.output=w.output/\w'.heap.size=w.heap.size:=by
 obtain⟨hB,es',cl,hg,hkeys,hvals,hbn⟩:=hb;rw[<-hkeys]at hk
 have hemp:es.isEmpty=es'.isEmpty:=by
  have:=congrArg List.length hkeys;simp at this
  cases es with
  |nil=>simp at this;simp[XM,this]
  |cons a l=>simp at this;simp[XM,this]
 rw[hemp]at hk;obtain⟨h1,h2⟩:=tQ (w:=w) hk;have h4:(getObj p.blk).run P w=.ok (.map es' cl) w:=by simp[getObj,X8,hg]
 cases r with
 |none=>
  injection h with h;subst h
  obtain⟨s1,s2,s3⟩:=sM (es':=es') (c':=cl) hg;exact⟨nC w p.blk es' cl,by simp[Xa,hts,run_underlying ht,h4,h1,h2,Result.andThen,oO hg,undef],⟨hB,_,_,s1,hkeys,hvals,hbn⟩,s2,rfl,rfl,rfl,s3⟩
 |some i=>
  injection h with h;subst h
  obtain⟨s1,s2,s3⟩:=sM (es':=es'.eraseIdxIfInBounds i) (c':=cl) hg;refine⟨nC w p.blk (es'.eraseIdxIfInBounds i) cl,by simp[Xa,hts,run_underlying ht,h4,h1,h2,Result.andThen,oO hg,undef],⟨hB,_,_,s1,?_,?_,hbn.erase i⟩,s2,rfl,rfl,rfl,s3⟩
  ·rw[UO,sX,sX,hkeys]
  ·rw[UO,sX,sX];exact hvals.erase i
end
end Go.Am
