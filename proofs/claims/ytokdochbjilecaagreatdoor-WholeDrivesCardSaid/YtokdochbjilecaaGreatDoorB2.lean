/- The machine and its runs, part 2: AxMem AxMem2 AxApp AxMap. -/
import Derived.Test.YtokdochbjilecaaGreatDoorB1
set_option linter.unusedVariables false
set_option linter.unusedSimpArgs false
set_option linter.unusedSectionVars false
namespace Go.Am
open Go Go.RowKit
theorem Er(off:Nat):∀(l:List Value) (i:Nat) (A:Array Value),off+i+l.length<=A.size->
  ((l.zipIdx i).foldl (fun cs (x:Value×Nat)=>cs.setIfInBounds (off+x.2) x.1) A).toList=A.toList.take (off+i)++l++A.toList.drop (off+i+l.length)
 |[],i,A,_=>by simp
 |v::l,i,A,h=>by
  simp only[List.length_cons]at h
  rw[List.zipIdx_cons,List.foldl_cons,Er off l (i+1) _ (by simp;omega)]
  simp only[Array.toList_setIfInBounds,List.length_cons]
  have e1:off+(i+1)=off+i+1:=by omega
  have e2:off+i+1+l.length=off+i+(l.length+1):=by omega
  have hlt:off+i<A.toList.length:=by simp;omega
  rw[e1,e2,List.drop_set_of_lt (by omega)]
  have:List.take (off+i+1) (A.toList.set (off+i) v)=List.take (off+i) A.toList++[v]:=by
   rw[List.take_add_one,List.take_set_of_le (Nat.le_refl _),List.getElem?_set_self hlt];rfl
  rw[this];simp
theorem mf{ρ:Ren}{place:Nat->Option (Nat×Nat)}:∀(ps:List (Nat×Nat×Value)) (qs:List (Nat×Value)) (c d:List Value) (c':Array Value),
  ps.length=qs.length->(∀(k:Nat) p q,ps[k]?=some p->qs[k]?=some q->place q.1=some (p.1,p.2.1)/\VRel ρ p.2.2 q.2)->dO ρ c c'.toList->jW ps c=some d->
  ∃d',Instr.fill place c' qs=some d'/\dO ρ d d'.toList
 |[],[],c,d,c',_,_,hc,h=>by
  have h:some c=some d:=h
  injection h with h;subst h
  exact⟨c',rfl,hc⟩
 |[],_::_,_,_,_,h,_,_,_=>by simp at h
 |_::_,[],_,_,_,h,_,_,_=>by simp at h
 |(off,sz,v)::ps,(i,v')::qs,c,d,c',hl,hr,hc,h=>by
  have h:cond (Nat.beq (gx v.cells.toList) sz) (Option.rec (motive:=fun _=>Option (List Value)) none (jW ps) (setCells c off v.cells.toList)) none=some d:=h
  obtain⟨hp,hv⟩:=hr 0 _ _ rfl rfl
  cases hb:Nat.beq (gx v.cells.toList) sz
  ·simp[hb]at h
  ·rw[hb,cond_true]at h
   have hb:v.cells.toList.length=sz:=by rw[<-yH];exact Nat.eq_of_beq_eq_true hb
   cases hs:setCells c off v.cells.toList with
   |none=>rw[hs]at h;cases h
   |some c1=>
    rw[hs]at h
    have h:jW ps c1=some d:=h
    have hcl:=hv.cells
    have hsz:v'.cells.size=sz:=by have:=hcl.1;simp at this hb;omega
    rw[eh]at hs
    split at hs
    ·rename_i hle
     injection hs with hs
     have hcs:c'.size=c.length:=by have:=hc.1;simpa using this.symm
     have hle':off+v'.cells.size<=c'.size:=by simp at hb hle;omega
     have hfs:=Er off v'.cells.toList 0 c' (by simpa using hle')
     have ih:=mf (ρ:=ρ) (place:=place) ps qs c1 d ((v'.cells.zipIdx).foldl (fun cs x=>cs.setIfInBounds (off+x.2) x.1) c') (by simpa using hl)
      (fun k p q hp hq=>hr (k+1) p q (by simpa using hp) (by simpa using hq))
      (by
       have e:((v'.cells.zipIdx).foldl (fun cs x=>cs.setIfInBounds (off+x.2) x.1) c').toList=c'.toList.take off++v'.cells.toList++c'.toList.drop (off+v'.cells.toList.length):=by
        rw[<-Array.foldl_toList,Array.toList_zipIdx]
        simpa using hfs
       rw[e,<-hs]
       have hl2:v.cells.toList.length=v'.cells.toList.length:=hcl.1
       refine .append (.append ⟨by simp;omega,fun j x y hx hy=>?_⟩ hcl) ⟨by simp at hl2 ⊢;omega,fun j x y hx hy=>?_⟩
       ·rw[List.getElem?_take]at hx hy
        split at hx
        ·rw[if_pos ‹_›]at hy;exact hc.2 j x y hx hy
        ·cases hx
       ·rw[List.getElem?_drop]at hx hy
        rw[<-hl2]at hy
        exact hc.2 _ x y hx hy) h
     obtain⟨d',h1,h2⟩:=ih
     refine⟨d',?_,h2⟩
     unfold Instr.fill
     simp only[hp]
     rw[if_neg (by simp[hsz];omega)]
     exact h1
    ·cases hs
section
variable{P:Program}{ρ:Ren}{Γ:Ctx}{e:List Value}{a:Act}
theorem kT(he:dI ρ Γ e a.tmps){place:Nat->Option (Nat×Nat)}:∀{asl:List (Nat×Operand)} {bs:List (Nat×Nat×Opd)},kr Γ place asl bs=true->
  (kU e bs).length=(asl.map fun p=>(p.1,a.eval p.2)).length/\
  ∀(k:Nat) p q,(kU e bs)[k]?=some p->(asl.map fun p=>(p.1,a.eval p.2))[k]?=some q->place q.1=some (p.1,p.2.1)/\VRel ρ p.2.2 q.2
 |[],[],_=>⟨rfl,fun k p q h=>by simp[kU]at h⟩
 |[],_::_,h=>by cases h
 |_::_,[],h=>by cases h
 |(i,x)::asl,(off,sz,y)::bs,h=>by
  simp only[kr,Bool.and_eq_true]at h
  obtain⟨⟨h1,h2⟩,h3⟩:=h
  have ih:=kT he h3
  refine⟨by show(kU e bs).length+1=_;rw[ih.1];rfl,fun k p q hp hq=>?_⟩
  cases k with
  |zero=>
   have hp:some (off,sz,ev e y)=some p:=hp
   have hq:some (i,a.eval x)=some q:=hq
   injection hp with hp;injection hq with hq;subst hp;subst hq
   split at h1
   ·simp at h1;rename_i hpl;refine⟨?_,dq he h2⟩;rw[hpl,h1.1,h1.2]
   ·cases h1
  |succ k=>exact ih.2 k p q hp hq
theorem mS(he:dI ρ Γ e a.tmps)(sz:Nat):∀{asl:List (Nat×Operand)} {bs:List (Nat×Opd)},jM Γ asl bs=true->
  (iV sz e bs).length=(asl.map fun p=>(p.1,a.eval p.2)).length/\
  ∀(k:Nat) p q,(iV sz e bs)[k]?=some p->(asl.map fun p=>(p.1,a.eval p.2))[k]?=some q->(fun i=>some (i*sz,sz)) q.1=some (p.1,p.2.1)/\VRel ρ p.2.2 q.2
 |[],[],_=>⟨rfl,fun k p q h=>by simp[iV]at h⟩
 |[],_::_,h=>by cases h
 |_::_,[],h=>by cases h
 |(i,x)::asl,(j,y)::bs,h=>by
  simp only[jM,Bool.and_eq_true]at h
  obtain⟨⟨h1,h2⟩,h3⟩:=h
  have h1:i=j:=by simpa using h1
  subst h1
  have ih:=mS he sz h3
  refine⟨by show(iV sz e bs).length+1=_;rw[ih.1];rfl,fun k p q hp hq=>?_⟩
  cases k with
  |zero=>
   have hp:some (i*sz,sz,ev e y)=some p:=hp
   have hq:some (i,a.eval x)=some q:=hq
   injection hp with hp;injection hq with hq;subst hp;subst hq
   exact⟨rfl,dq he h2⟩
  |succ k=>exact ih.2 k p q hp hq
end
theorem jH(ρ:Ren){z:List Value}(h:z.all flat=true):dO ρ z z:=
 ⟨rfl,fun i x y hx hy=>by
  rw[hx]at hy;injection hy with hy;subst hy
  rw[List.all_eq_true]at h
  exact .flat (h x (List.mem_of_getElem? hx))⟩
theorem D9{a b:Nat}(h:Nat.blt a b=false):¬a<b:=by
 intro hh
 have:Nat.blt a b=true:=by simpa[Nat.blt_eq]using hh
 rw[this]at h;cases h
def Kk(d l:Nat)(x':Option Value):Prop:=(x'=none/\l=d)\/∃k,x'=some (.int k (Int.ofNat l))
theorem ug{ρ:Ren}{d l:Nat}{x x':Option Value}(hx:(x=none/\x'=none)\/∃y y',x=some y/\x'=some y'/\VRel ρ y y')(h:mW d x=some l):Kk d l x':=by
 rcases hx with⟨rfl,rfl⟩|⟨y,y',rfl,rfl,hr⟩
 ·injection h with h;exact .inl ⟨rfl,h.symm⟩
 ·unfold mW at h
  split at h
  ·rename_i e;cases e
  ·rename_i k n e;injection e with e;injection h with h;subst h;subst e
   exact .inr ⟨k,by rw[hr.dN rfl]⟩
  ·cases h
theorem B7{P:Program}{w:World}{len cap l h:Nat}{lo' hi':Option Value}(hlo:Kk 0 l lo')(hhi:Kk len h hi')(hl:l<=h)(hh:h<=cap):
  (Instr.sliceBounds true len cap lo' hi' none).run P w=.ok (l,h,cap) w:=by
 rcases hlo with⟨rfl,rfl⟩|⟨k,rfl⟩<;>rcases hhi with⟨rfl,rfl⟩|⟨k',rfl⟩<;>simp[Instr.sliceBounds,Instr.sliceBound,asIntOf,hl,hh]
theorem BZ{P:Program}{w:World}{ρ:Ren}{t el sz:Nat}{ti:TypeInfo}{x x' v:Value}{lo hi lo' hi':Option Value}(ht:P.underlying t=some (.slice el))(hti:P.info? el=some ti)(hz:ti.size=sz)
  (hlo:(lo=none/\lo'=none)\/∃y y',lo=some y/\lo'=some y'/\VRel ρ y y') (hhi:(hi=none/\hi'=none)\/∃y y',hi=some y/\hi'=some y'/\VRel ρ y y')
  (hsz:∀b o n p,x=.slice (some ⟨b,o,none⟩) n UNK->ρ b=some p->p.sz=sz) (hx:VRel ρ x x') (h:jK sz lo hi x=some v):∃v',(Instr.sliceAt t x' lo' hi' none).run P w=.ok v' w/\VRel ρ v v':=by
 have go:∀(a:Option Addr) (len cap l h:Nat),l<=h->h<=len->len<=cap->mW 0 lo=some l->mW len hi=some h->
   (Instr.sliceAt t (.slice a len cap) lo' hi' none).run P w=.ok (.slice (if cap=l then a else a.map (·.add (l*sz))) (h-l) (cap-l)) w:=by
  intro a len cap l h h1 h2 h3 h4 h5
  simp[Instr.sliceAt,run_underlying ht,Instr.slice,B7 (P:=P) (w:=w) (cap:=cap) (ug hlo h4) (ug hhi h5) h1 (by omega),run_sizeOf hti,hz]
 unfold jK at h
 split at h
 ·rename_i a len cap
  split at h
  ·rename_i l hh hlo1 hhi1
   cases hb:(Nat.ble l hh&&Nat.ble hh len)
   ·simp[hb]at h
   ·simp only[hb,cond_true]at h
    simp only[Bool.and_eq_true,Nat.ble_eq]at hb
    obtain⟨hb1,hb2⟩:=hb
    unfold Fu at h
    split at h
    ·rename_i b o
     cases hvag:Nat.beq cap VAG
     ·rw[hvag,cond_false]at h
      have hnv:cap≠VAG:=by intro e;subst e;simp at hvag
      cases hx with
      |flat hf=>simp[flat]at hf
      |vag=>exact absurd rfl hnv
      |slice hp hn hu hk hv=>
       rename_i c' p
       refine⟨_,go _ _ _ _ _ hb1 hb2 hn hlo1 hhi1,?_⟩
       have moved:l<c'\/l=0->(if c'=l then(some ⟨p.blk,p.base+o,none⟩:Option Addr)else(some (⟨p.blk,p.base+o,none⟩:Addr)).map (·.add (l*sz)))=some ⟨p.blk,p.base+(o+l*sz),none⟩:=by
        intro hl
        by_cases e:c'=l
        ·have e0:l=0:=by omega
         rw[if_pos e,e0];simp
        ·rw[if_neg e];simp only[Option.map_some,addr_add,Nat.add_assoc]
       cases hunk:Nat.beq cap UNK
       ·rw[hunk,cond_false]at h
        have hnu:cap≠UNK:=by intro e;subst e;simp at hunk
        have hc:=hk hnu
        subst hc
        cases hcu:Nat.blt c' UNK
        ·simp[hcu]at h
        rw[hcu,cond_true]at h
        have hcu:c'<UNK:=by simpa[Nat.blt_eq]using hcu
        cases hlt:(Nat.blt l c' || Nat.beq l 0)
        ·rw[hlt,cond_false]at h
         injection h with h;subst h
         simp only[Bool.or_eq_false_iff]at hlt
         have h1:¬l<c':=D9 hlt.1
         have e1:hh-l=0:=by omega
         rw[e1]
         split
         ·exact .vag
         ·simp only[Option.map_some,addr_add];exact .vag
        ·rw[hlt,cond_true]at h
         injection h with h;subst h
         rw[Bool.or_eq_true,Nat.blt_eq]at hlt
         have hl0:l<c'\/l=0:=hlt.imp id (fun e=>Nat.eq_of_beq_eq_true e)
         rw[moved hl0]
         refine .slice hp (show hh-l<=c'-l by omega) (fun e=>?_) (fun _=>rfl) (fun e=>?_)
         rotate_left
         ·have e:c'-l=VAG:=e
          have:VAG=UNK+1:=rfl
          omega
         have e:c'-l=UNK:=e
         omega
       ·rw[hunk,cond_true]at h
        have hcu:cap=UNK:=Nat.eq_of_beq_eq_true hunk
        cases hlt:(Nat.blt l len || Nat.beq l 0)
        ·rw[hlt,cond_false]at h
         injection h with h;subst h
         simp only[Bool.or_eq_false_iff]at hlt
         have h1:¬l<len:=D9 hlt.1
         have e1:hh-l=0:=by omega
         rw[e1]
         split
         ·exact .vag
         ·simp only[Option.map_some,addr_add];exact .vag
        ·rw[hlt,cond_true]at h
         injection h with h;subst h
         rw[Bool.or_eq_true,Nat.blt_eq]at hlt
         have hl0:l<c'\/l=0:=by
          rcases hlt with e|e
          ·left;omega
          ·right;exact Nat.eq_of_beq_eq_true e
         rw[moved hl0]
         refine .slice hp (show hh-l<=c'-l by omega) (fun _=>?_) (fun e=>absurd rfl e) (by decide)
         have e3:=hu hcu
         have e4:=hsz b o len p (by rw[hcu]) hp
         show o+l*sz+(c'-l)*p.sz=p.cap
         rw[e4]at e3 ⊢
         rw[<-e3,Nat.add_assoc,<-Nat.add_mul]
         congr 2;omega
     ·rw[hvag,cond_true]at h
      injection h with h;subst h
      have hcv:cap=VAG:=Nat.eq_of_beq_eq_true hvag
      subst hcv
      cases hx with
      |flat hf=>simp[flat]at hf
      |vag=>
       rename_i c' a'
       refine⟨_,go _ _ _ _ _ hb1 hb2 (Nat.zero_le _) hlo1 hhi1,?_⟩
       have e0:hh-l=0:=by omega
       rw[e0];split
       ·exact .vag
       ·simp only[Option.map_some,addr_add];exact .vag
      |slice hp hn hu hk hv=>
       exact absurd rfl hv
    ·cases hb:(Nat.beq len 0&&Nat.beq cap 0)
     ·simp[hb]at h
     ·rw[hb,cond_true]at h
      injection h with h;subst h
      rw[Bool.and_eq_true]at hb
      have e1:len=0:=Nat.eq_of_beq_eq_true hb.1
      have e2:cap=0:=Nat.eq_of_beq_eq_true hb.2
      subst e1;subst e2
      have e:=hx.dN rfl
      subst e
      refine⟨_,go _ _ _ _ _ hb1 hb2 (Nat.le_refl _) hlo1 hhi1,?_⟩
      have e3:hh=0:=by omega
      have e4:l=0:=by omega
      subst e3;subst e4
      exact .flat rfl
    ·cases h
  ·cases h
 ·cases h
section
variable{μ:Type}[AMem μ]{P:Program}{ρ:Ren}{V:Nat->Option Blk}{w:World}{B:Nat}
theorem heap_alloc(w:World)(o:Obj):(w.alloc o).heap[w.heap.size]?=some o:=by
 show(w.heap.push o)[w.heap.size]?=_;simp
theorem Post.new{m:μ}{n n':Nat}(hm:MRel ρ V w B)(hlim:AMem.lim m n=true)(hfree:gI ρ n)(O:Blk)(o:Obj)(cap:Nat)
  (hO:∀ρ':Ren,ρ.le ρ'->jC ρ' (w.alloc o) B ⟨w.heap.size,0,cap,O.sz⟩ O) (hn:n'=n+1):
  ∃ρ':Ren,ρ' n=some ⟨w.heap.size,0,cap,O.sz⟩/\Post ρ V w B n (AMem.put m n (some O)) n' (bit n) ρ' (w.alloc o):=by
 subst hn
 have hle:Ren.le ρ (fun b=>if b=n then some ⟨w.heap.size,0,cap,O.sz⟩else ρ b):=by
  intro b p h
  have:b≠n:=by intro e;subst e;rw[hfree b (Nat.le_refl _)]at h;cases h
  simp[this,h]
 have hget:AMem.get (AMem.put m n (some O)) n=some O:=by rw[AMem.get_put m n n _ hlim,if_pos rfl]
 refine⟨fun b=>if b=n then some ⟨w.heap.size,0,cap,O.sz⟩else ρ b,by simp,hle,?_,?_,?_,Nat.le_succ _,fun k hk _=>Below.heap_alloc w o k hk,?_,fun b hb=>by
  rw[dn]at hb
  have hb:n=b:=of_decide_eq_true hb
  subst hb
  exact⟨⟨_,if_pos rfl⟩,fun h=>absurd h (Nat.lt_irrefl _)⟩⟩
 ·intro b p h
  by_cases e:b=n
  ·subst e;exact .inr ⟨Nat.le_refl _,Nat.lt_succ_self _⟩
  ·simp[e]at h;exact .inl h
 ·refine⟨?_,?_,?_,?_,hm.gl.mono ((Below.refl B w).alloc hm.le o)⟩
  ·intro b p O' hp hV
   by_cases e:b=n
   ·subst e
    simp at hp;subst hp
    simp[upd,dn,hget]at hV;subst hV
    exact hO _ hle
   ·simp[e]at hp
    have hne:¬n=b:=fun h=>e h.symm
    simp[upd,dn,hne]at hV
    have hlt:=hm.fresh b p hp
    exact(hm.blk b p O' hp hV).mono hle (Below.heap_alloc w o p.blk hlt)
  ·intro b1 b2 p1 p2 O1 O2 h1 h2 hV1 hV2 hne hw
   by_cases e1:b1=n
   ·subst e1
    simp at h1;subst h1
    have e2:¬b2=b1:=fun h=>hne h.symm
    simp[e2]at h2
    have:=hm.fresh b2 p2 h2
    simp;omega
   ·simp[e1]at h1
    have hne1:¬n=b1:=fun h=>e1 h.symm
    simp[upd,dn,hne1]at hV1
    by_cases e2:b2=n
    ·subst e2
     simp at h2;subst h2
     have:=hm.fresh b1 p1 h1
     simp;omega
    ·simp[e2]at h2
     have hne2:¬n=b2:=fun h=>e2 h.symm
     simp[upd,dn,hne2]at hV2
     exact hm.excl b1 b2 p1 p2 O1 O2 h1 h2 hV1 hV2 hne hw
  ·intro b p h
   by_cases e:b=n
   ·subst e;simp at h;subst h;simp
   ·simp[e]at h;have:=hm.fresh b p h;simp;omega
  ·have:=hm.le;simp;omega
 ·exact(Below.refl B w).alloc hm.le o
 ·intro b p h
  by_cases e:b=n
  ·subst e;simp at h;subst h;exact .inr (.inl (Nat.le_refl _))
  ·simp[e]at h;exact .inl h
theorem dP{m:μ}{n b:Nat}{O:Blk}(h:fg m n b=some O):b<n/\AMem.get m b=some O:=by
 unfold fg at h
 cases hb:Nat.blt b n
 ·simp[hb]at h
 ·simp[hb]at h
  exact⟨by simpa[Nat.blt_eq]using hb,h⟩
theorem fo{m:μ}{n b F:Nat}{c:List Value}{sz:Nat}{opn wr:Bool}{p:Place}(hm:MRel ρ V w B)(hag:eI V m n F)(hF:F.testBit b=true)
  (hg:fg m n b=some (.cells c sz opn wr)) (hp:ρ b=some p):V b=some (.cells c sz opn wr)/\jC ρ w B p (.cells c sz opn wr):=by
 obtain⟨h1,h2⟩:=dP hg
 have hV:=(hag b h1 hF).trans h2
 exact⟨hV,hm.blk b p _ hp hV⟩
theorem jI{c:List Value}{sz:Nat}{opn wr:Bool}{p:Place}(h:jC ρ w B p (.cells c sz opn wr)){o:Nat}{x:Value}(hx:c[o]?=some x):
  ∃y,w.cell? ⟨p.blk,p.base+o,none⟩=some y/\VRel ρ x y:=by
 obtain⟨_,cc,e,fz,h2,h3,_⟩:=h
 obtain⟨y,hy,hr⟩:=h3 o x hx
 exact⟨y,by simp[World.cell?,h2,hy],hr⟩
theorem Cy{m m':μ}{n n' r wm t:Nat}{x x' v:Value}(hagg:iD P t=some false)(hm:MRel ρ V w B)(hx:VRel ρ x x')(h:rh m n x=.ok v m' n' r wm)(hag:eI V m n (Nat.lor r wm)):
  ∃v',(Instr.loadAt t x').run P w=.ok v' w/\VRel ρ v v'/\m'=m/\n'=n/\wm=0:=by
 unfold rh at h
 split at h
 ·rename_i b o
  cases hg:fg m n b with
  |none=>rw[hg]at h;cases h
  |some O=>
   cases O with
   |map es=>rw[hg]at h;cases h
   |cells c sz opn wr=>
   rw[hg]at h
   have h:lP m n b (fh c o)=.ok v m' n' r wm:=h
   rw[eV]at h
   cases hc:c[o]? with
   |none=>rw[hc]at h;cases h
   |some y=>
    rw[hc]at h
    have h:OR.ok y m n (bit b) 0=.ok v m' n' r wm:=h
    injection h with e1 e2 e3 e4 e5
    subst e1;subst e2;subst e3;subst e4;subst e5
    cases hx with
    |flat hf=>simp[flat]at hf
    |ptr hp=>
     rename_i p
     obtain⟨_,hb⟩:=fo hm hag (by rw[c9,dn];simp) hg hp
     obtain⟨y',hy,hr⟩:=jI hb hc
     exact⟨y',by simp[Instr.loadAt,Instr.sureAddr,loadVar,iR hagg,hy],hr,rfl,rfl,rfl⟩
 ·cases h
theorem rC{l:Option (List Value)}{v:Value}(h:qq l=some v):∃c,l=some c/\v=.agg c.toArray:=by
 unfold qq at h;split at h
 ·injection h with h;exact⟨_,rfl,h.symm⟩
 ·cases h
theorem j6{c l:List Value}{sz o k:Nat}{opn wr:Bool}{p:Place}(h:jC ρ w B p (.cells c sz opn wr))(hl:eO c o k=some l):
  ∃l',dO ρ l l'/\l'.length=k/\∀j v,l'[j]?=some v->w.cell? (⟨p.blk,p.base+o,none⟩:Addr)=w.cell? ⟨p.blk,p.base+o,none⟩/\w.cell? ((⟨p.blk,p.base+o,none⟩:Addr).add j)=some v:=by
 obtain⟨_,h2,h3⟩:=iF hl
 have hex:∀j,j<k->∃y,w.cell? ⟨p.blk,p.base+(o+j),none⟩=some y/\∀x,l[j]?=some x->VRel ρ x y:=by
  intro j hj
  have hlj:j<l.length:=by omega
  have hx:c[o+j]?=some l[j]:=by rw[<-h3 j hj];exact List.getElem?_eq_getElem hlj
  obtain⟨y,hy,hr⟩:=jI h hx
  exact⟨y,hy,fun x hx'=>by rw[List.getElem?_eq_getElem hlj]at hx';injection hx' with e;subst e;exact hr⟩
 refine⟨(List.range k).map fun j=>(w.cell? ⟨p.blk,p.base+(o+j),none⟩).getD undef,⟨by simp[h2],fun j x y hx hy=>?_⟩,by simp,fun j v hv=>⟨rfl,?_⟩⟩
 ·have hj:j<k:=by have:=(List.getElem?_eq_some_iff.1 hx).1;omega
  obtain⟨y',hy',hr⟩:=hex j hj
  simp[hj,hy']at hy
  subst hy;exact hr x hx
 ·have hj:j<k:=by have:=(List.getElem?_eq_some_iff.1 hv).1;simpa using this
  obtain⟨y',hy',_⟩:=hex j hj
  simp[hj,hy']at hv
  subst hv
  rw[addr_add,Nat.add_assoc];exact hy'
theorem Cx{m m':μ}{n n' r wm t k:Nat}{x x' v:Value}(hagg:iD P t=some true)(hsz:k8 P t k=true)(hm:MRel ρ V w B)(hx:VRel ρ x x')(h:vR k m n x=.ok v m' n' r wm)(hag:eI V m n (Nat.lor r wm)):
  ∃v',(Instr.loadAt t x').run P w=.ok v' w/\VRel ρ v v'/\m'=m/\n'=n/\wm=0:=by
 unfold vR at h
 split at h
 ·rename_i b o
  cases hg:fg m n b with
  |none=>rw[hg]at h;cases h
  |some O=>
   cases O with
   |map es=>rw[hg]at h;cases h
   |cells c sz opn wr=>
   rw[hg]at h
   have h:lP m n b (qq (eO c o k))=.ok v m' n' r wm:=h
   cases hc:qq (eO c o k)with
   |none=>rw[hc]at h;cases h
   |some y=>
    rw[hc]at h
    have h:OR.ok y m n (bit b) 0=.ok v m' n' r wm:=h
    injection h with e1 e2 e3 e4 e5
    subst e1;subst e2;subst e3;subst e4;subst e5
    obtain⟨l,hl,rfl⟩:=rC hc
    obtain⟨ti,hti,hts⟩:=fM hsz
    cases hx with
    |flat hf=>simp[flat]at hf
    |ptr hp=>
     rename_i p
     obtain⟨_,hb⟩:=fo hm hag (by rw[c9,dn];simp) hg hp
     obtain⟨l',hr,hlen,hcell⟩:=j6 hb hl
     refine⟨.agg l'.toArray,?_,hr.agg,rfl,rfl,rfl⟩
     have:=run_loadCells_list (P:=P) w ⟨p.blk,p.base+o,none⟩ l' (fun j v hv=>(hcell j v hv).2)
     rw[hlen]at this
     simp[Instr.loadAt,Instr.sureAddr,loadVar,iR hagg,run_sizeOf hti,hts,this]
 ·cases h
theorem FV{t g:Nat}{cs:List Value}(hagg:iD P t=some true)(hsz:k8 P t cs.length=true)(hm:MRel ρ V w B)(hg:Ol.any (fun p=>p.1==g&&mH p.2 cs)=true):
  (Instr.loadAt t (.pointer (some ⟨g,0,none⟩))).run P w=.ok (.agg cs.toArray) w:=by
 obtain⟨ti,hti,hts⟩:=fM hsz
 obtain⟨p,hp,hpg⟩:=List.any_eq_true.1 hg
 rw[Bool.and_eq_true,beq_iff_eq]at hpg
 obtain⟨rfl,hv⟩:=hpg
 have hv:=py hv
 have:=run_loadCells_list (P:=P) w ⟨p.1,0,none⟩ cs (fun j v hv'=>by
  rw[addr_add,Nat.zero_add]
  exact hm.gl.here p hp j v (by rw[hv];exact hv'))
 simp[Instr.loadAt,Instr.sureAddr,loadVar,iR hagg,run_sizeOf hti,hts,this]
theorem Post.write{m:μ}{n b:Nat}{c c':List Value}{sz:Nat}{opn:Bool}{p:Place}{w':World}(hm:MRel ρ V w B)(hlim:AMem.lim m b=true)(hp:ρ b=some p)(hV:V b=some (.cells c sz opn true))
  (hb:jC ρ w' B p (.cells c' sz opn true)) (hother:∀k,k≠p.blk->w'.heap[k]?=w.heap[k]?) (hos:w'.os=w.os) (htape:w'.tape=w.tape) (hout:w'.output=w.output) (hsize:w'.heap.size=w.heap.size):
  Post ρ V w B n (AMem.put m b (some (.cells c' sz opn true))) n (bit b) ρ w':=by
 have hBp:B<=p.blk:=by
  obtain⟨_,_,_,_,_,_,h4,_⟩:=hb
  exact(h4 rfl).1
 refine⟨ρ.le_refl,fun _ _ h=>.inl h,⟨?_,?_,?_,?_,hm.gl.mono ⟨hos,htape,hout,by omega,fun k hk=>hother k (by omega)⟩⟩,⟨hos,htape,hout,by omega,fun k hk=>hother k (by omega)⟩,Nat.le_refl _,fun k _ hk=>hother k (fun e=>hk b p hp (by rw[dn];simp) e.symm),fun _ _ h=>.inl h,fun k hk=>by
  rw[dn]at hk
  have hk:b=k:=of_decide_eq_true hk
  subst hk
  exact⟨⟨p,hp⟩,fun _=>⟨_,hV,rfl⟩⟩⟩
 ·intro b2 p2 O2 h2 hV2
  by_cases e:b2=b
  ·subst e
   rw[hp]at h2;injection h2 with h2;subst h2
   simp[upd,dn,AMem.get_put m b2 b2 _ hlim]at hV2
   subst hV2;exact hb
  ·have hne:¬b=b2:=fun h=>e h.symm
   simp[upd,dn,hne]at hV2
   have hx:=hm.excl b b2 p p2 _ O2 hp h2 hV hV2 hne rfl
   exact(hm.blk b2 p2 O2 h2 hV2).mono ρ.le_refl (hother _ (fun h=>hx h.symm))
 ·intro b1 b2 p1 p2 O1 O2 h1 h2 hV1 hV2 hne hw
  have old:∀{b3:Nat} {O3:Blk},upd V (bit b) (AMem.put m b (some (.cells c' sz opn true))) b3=some O3->∃O4,V b3=some O4/\O4.wr=O3.wr:=by
   intro b3 O3 h
   by_cases e:b3=b
   ·subst e
    simp[upd,dn,AMem.get_put m b3 b3 _ hlim]at h
    subst h;exact⟨_,hV,rfl⟩
   ·have hne:¬b=b3:=fun h=>e h.symm
    simp[upd,dn,hne]at h
    exact⟨_,h,rfl⟩
  obtain⟨O1',h1',e1⟩:=old hV1
  obtain⟨O2',h2',e2⟩:=old hV2
  exact hm.excl b1 b2 p1 p2 O1' O2' h1 h2 h1' h2' hne (e1.trans hw)
 ·intro b2 p2 h2;have:=hm.fresh b2 p2 h2;omega
 ·have:=hm.le;omega
theorem setRow_other(w:World)(g:Nat)(c:Array Value)(k:Nat)(h:k≠g):(w.setRow g c).heap[k]?=w.heap[k]?:=by
 simp only[World.setRow,Array.getElem?_modify];rw[if_neg (fun e=>h e.symm)]
theorem setRow_size(w:World)(g:Nat)(c:Array Value):(w.setRow g c).heap.size=w.heap.size:=by simp[World.setRow]
theorem uZ{c c' vs vs':List Value}{sz o:Nat}{opn:Bool}{p:Place}(h:jC ρ w B p (.cells c sz opn true))(hs:setCells c o vs=some c')(hv:dO ρ vs vs')(h1:∀v∈vs',v.oneCell'=true):
  ∃w',(storeCells ⟨p.blk,p.base+o,none⟩ vs' 0).run P w=.ok () w'/\jC ρ w' B p (.cells c' sz opn true)/\(∀k,k≠p.blk->w'.heap[k]?=w.heap[k]?)/\w'.os=w.os/\w'.tape=w.tape/\w'.output=w.output/\w'.heap.size=w.heap.size:=by
 obtain⟨hsz,cc,e,fz,h2,h3,h4,h5,h6⟩:=h
 obtain⟨hB,hfz⟩:=h4 rfl
 subst hfz
 obtain⟨g1,g2,g3⟩:=yd hs
 have hlen:vs.length=vs'.length:=hv.1
 have hfit:p.base+o+0+vs'.length<=cc.size:=by
  omega
 refine⟨_,run_storeCells_at (P:=P) p.blk (p.base+o) e vs' 0 cc w h2 hfit h1,?_,fun k hk=>setRow_other w _ _ k hk,rfl,rfl,rfl,setRow_size w _ _⟩
 refine⟨hsz,_,e,(0,0),setRow_heap w p.blk cc _ e (0,0) h2,?_,fun _=>⟨hB,rfl⟩,fun ho=>?_,?_⟩
 ·intro i x hx
  rw[g3 i]at hx
  simp only[List.getElem?_toArray]
  have ht:(cc.toList.take (p.base+o+0)).length=p.base+o:=by simp;omega
  split at hx
  ·rename_i hi
   obtain⟨y,hy,hr⟩:=hv.get hx
   refine⟨y,?_,hr⟩
   rw[List.append_assoc,List.getElem?_append_right (by omega),ht,List.getElem?_append_left (by omega)]
   rw[<-hy];congr 1;omega
  ·rename_i hi
   obtain⟨y,hy,hr⟩:=h3 i x hx
   refine⟨y,?_,hr⟩
   rw[List.append_assoc]
   by_cases h0:i<o
   ·rw[List.getElem?_append_left (by omega),List.getElem?_take,if_pos (by omega)];simpa using hy
   ·rw[List.getElem?_append_right (by omega),ht,List.getElem?_append_right (by omega),List.getElem?_drop]
    rw[show p.base+o+0+vs'.length+(p.base+i-(p.base+o)-vs'.length)=p.base+i by omega];simpa using hy
 ·have:=h5 ho
  simp;omega
 ·simp;omega
theorem Fq{m m':μ}{n n' r wm t k:Nat}{x x' y y' v:Value}(hsz:k8 P t k=true)(hm:MRel ρ V w B)(hx:VRel ρ x x')(hy:VRel ρ y y')(h:stV k y.cells.toList m n x=.ok v m' n' r wm)(hag:eI V m n (Nat.lor r wm)):
  v=undef/\∃w',(Instr.storeAt t x' y').run P w=.ok () w'/\Post ρ V w B n m' n' wm ρ w':=by
 unfold stV at h
 split at h
 ·rename_i b o
  cases hc:(Nat.beq (gx y.cells.toList) k&&y.cells.toList.all one)
  ·rw[hc,cond_false]at h;cases h
  ·rw[hc,cond_true]at h
   rw[Bool.and_eq_true]at hc
   unfold stC at h
   split at h
   ·rename_i c sz opn hg
    unfold qR at h
    split at h
    ·rename_i c' hs
     injection h with e1 e2 e3 e4 e5
     subst e1;subst e2;subst e3;subst e4;subst e5
     obtain⟨ti,hti,hts⟩:=fM hsz
     cases hx with
     |flat hf=>simp[flat]at hf
     |ptr hp=>
      rename_i p
      obtain⟨hV,hb⟩:=fo hm hag (by rw[c9,dn];simp) hg hp
      have hyc:=hy.cells
      have hone:∀v∈y'.cells.toList,v.oneCell'=true:=by
       intro v hv
       obtain⟨j,hj,rfl⟩:=List.getElem_of_mem hv
       have hj':j<y.cells.toList.length:=by rw[hyc.1];exact hj
       have:=hyc.2 j _ _ (List.getElem?_eq_getElem hj') (List.getElem?_eq_getElem hj)
       refine this.one ?_
       have h2:=hc.2
       rw[List.all_eq_true]at h2
       exact h2 _ (List.getElem_mem hj')
      obtain⟨w',hw,hb',ho,h1,h2,h3,h4⟩:=uZ (P:=P) hb hs hyc hone
      refine⟨rfl,w',?_,Post.write hm (AMem.get_lim _ _ _ (dP hg).2) hp hV hb' ho h1 h2 h3 h4⟩
      have hlen:y'.cells.size=k:=by
       have e1:=Nat.eq_of_beq_eq_true hc.1
       rw[yH]at e1
       have:=hyc.1;simp at this e1;omega
      simp[Instr.storeAt,Instr.sureAddr,storeVar,run_sizeOf hti,hts,hlen,hw]
    ·cases h
   ·cases h
 ·cases h
end
section
variable{μ:Type}[AMem μ]{P:Program}{ρ:Ren}{V:Nat->Option Blk}{w:World}{B:Nat}
theorem lV{m m':μ}{n n' r wm sz:Nat}{c c':List Value}{f:Nat->Value}{v:Value}{opn:Bool}(hm:MRel ρ V w B)(h:kZ m n (.cells c sz opn true) f=.ok v m' n' r wm)(hfree:gI ρ n)
  (cap e:Nat) (hlen:c.length<=c'.length) (hr:∀(i:Nat) x,c[i]?=some x->∃y,c'[i]?=some y/\VRel ρ x y) (hcap:opn=true->cap<=c'.length):
  v=f n/\∃ρ':Ren,ρ' n=some ⟨w.heap.size,0,cap,sz⟩/\Post ρ V w B n m' n' wm ρ' (w.alloc (.cells c'.toArray e)):=by
 unfold kZ at h
 cases hl:AMem.lim m n
 ·rw[hl,cond_false]at h;cases h
 ·rw[hl,cond_true]at h
  injection h with e1 e2 e3 e4 e5
  subst e1;subst e2;subst e3;subst e4;subst e5
  refine⟨rfl,?_⟩
  refine Post.new (n':=n+1) hm hl hfree (.cells c sz opn true) (.cells c'.toArray e) cap (fun ρ' hle=>?_) rfl
  refine⟨rfl,c'.toArray,e,(0,0),heap_alloc w _,fun i x hx=>?_,fun _=>⟨hm.le,rfl⟩,fun ho=>?_,?_⟩
  ·obtain⟨y,hy,hv⟩:=hr i x hx
   exact⟨y,by simpa using hy,hv.mono hle⟩
  ·have:=hcap ho;simp;omega
  ·simp;omega
theorem dO.Lf{ρ:Ren}{c c':List Value}(h:dO ρ c c'):∀(i:Nat) x,c[i]?=some x->∃y,c'[i]?=some y/\VRel ρ x y:=fun _ _ hx=>h.get hx
theorem mM{m:μ}{n sz F r len c':Nat}{x:Value}{a':Option Addr}{l:List Value}(hm:MRel ρ V w B)(hx:VRel ρ x (.slice a' len c'))(h:shown m n sz x=some (l,r))(hag:eI V m n F)(hF:∀b,r.testBit b=true->F.testBit b=true):
  ∃l',dO ρ l l'/\l'.length=len*sz/\∀(size':Nat) (w2:World),size'=sz->w2.heap=w.heap->(Builtin.firstCells size' len (.slice a' len c')).run P w2=.ok l'.toArray w2:=by
 unfold shown at h
 split at h
 ·injection h with h;injection h with e1 e2;subst e1;subst e2
  have e:=hx.dN rfl
  injection e with e1 e2 e3;subst e1;subst e2;subst e3
  exact⟨[],.nil ρ,by simp,fun _ w2 _ _=>by simp[Builtin.firstCells]⟩
 ·rename_i b o ln c
  have hsh:len=ln/\(ln≠0->∃p,a'=some ⟨p.blk,p.base+o,none⟩/\ρ b=some p):=by
   cases hx with
   |flat hf=>simp[flat]at hf
   |slice hp _ _ _ _=>exact⟨rfl,fun _=>⟨_,rfl,hp⟩⟩
   |vag=>exact⟨rfl,fun h=>absurd rfl h⟩
  obtain⟨rfl,ho⟩:=hsh
  cases h0:Nat.beq len 0
  ·rw[h0,cond_false]at h
   have hne:len≠0:=by intro e;subst e;simp at h0
   obtain⟨p,rfl,hp⟩:=ho hne
   unfold oH at h
   split at h
   ·rename_i c1 s _ _ hg
    cases hs:szF s sz
    ·rw[hs,cond_false]at h;cases h
    ·rw[hs,cond_true]at h
     cases hc:eO c1 o (Nat.mul len sz)with
     |none=>rw[hc]at h;cases h
     |some l1=>
      rw[hc]at h
      have h:some (l1,bit b)=some (l,r):=h
      injection h with h;injection h with e1 e2;subst e1;subst e2
      obtain⟨_,hb⟩:=fo hm hag (hF b (by rw[dn];simp)) hg hp
      obtain⟨l',hr,hl',hcell⟩:=j6 hb hc
      refine⟨l',hr,hl',fun s2 w2 e hw=>?_⟩
      subst e
      refine run_firstCells_some w2 s2 len _ len c' l' hl' (fun j v hv=>?_)
      have:=(hcell j v hv).2
      simpa[World.cell?,hw]using this
   ·cases h
  ·rw[h0,cond_true]at h
   injection h with h;injection h with e1 e2;subst e1;subst e2
   have h0:len=0:=Nat.eq_of_beq_eq_true h0
   subst h0
   exact⟨[],.nil ρ,by simp,fun _ w2 _ _=>by cases a'<;>simp[Builtin.firstCells,loadCells,loadCellsFrom]⟩
 ·cases h
theorem rL{t u e ty:Nat}{el:Nat}{i:TypeInfo}{a:Addr}{sLen sCap n xc:Nat}{xa:Option Addr}{news:List Value}{w':World}(ht:P.underlying t=some (.slice e))(hu:P.underlying u=some (.slice el))(hi:P.info? e=some i)
  (hf:(Builtin.firstCells i.size n (.slice xa n xc)).run P w=.ok news.toArray w) (hroom:sLen+n<=sCap) (hst:(storeCells (a.add (sLen*i.size)) news).run P w=.ok () w'):
  (Builtin.append_ #[t,u] ty #[.slice (some a) sLen sCap,.slice xa n xc]).run P w=.ok (.slice (some a) (sLen+n) sCap) w':=by
 simp[Builtin.append_,run_underlying ht,run_underlying hu,sizeOf,typeInfo,hi,Builtin.lenOf,hroom,hf,hst]
theorem yh{t u e ty:Nat}{el:Nat}{i:TypeInfo}{xc:Nat}{xa:Option Addr}(ht:P.underlying t=some (.slice e))(hu:P.underlying u=some (.slice el))(hi:P.info? e=some i)
  (hf:(Builtin.firstCells i.size 0 (.slice xa 0 xc)).run P w=.ok #[] w):
  (Builtin.append_ #[t,u] ty #[.slice none 0 0,.slice xa 0 xc]).run P w=.ok (.slice none 0 0) w:=by
 simp[Builtin.append_,run_underlying ht,run_underlying hu,sizeOf,typeInfo,hi,Builtin.lenOf,hf]
theorem pM{t u e ty:Nat}{el:Nat}{i:TypeInfo}{z:Value}{base:Option Addr}{sLen sCap n xc:Nat}{xa:Option Addr}{olds news:List Value}(ht:P.underlying t=some (.slice e))(hu:P.underlying u=some (.slice el))(hi:P.info? e=some i)(hz:i.zero=some z)
  (hfo:(Builtin.firstCells i.size sLen (.slice base sLen sCap)).run P w.drew=.ok olds.toArray w.drew) (hf:(Builtin.firstCells i.size n (.slice xa n xc)).run P w.drew=.ok news.toArray w.drew) (hg:sCap<sLen+n) (hpos:0<i.bytes)
  (hb:(sLen+n)*i.bytes<=140737488355328):
  ∃rest:List Value,rest.length=(grownCap w (sLen+n) sCap e-(sLen+n))*z.cells.size/\
  (Builtin.append_ #[t,u] ty #[.slice base sLen sCap,.slice xa n xc]).run P w =
   .ok (.slice (some ⟨w.heap.size,0,none⟩) (sLen+n) (grownCap w (sLen+n) sCap e)) (w.drew.alloc (.cells (olds++news++rest).toArray e)):=by
 have hn:¬(sLen+n<=sCap):=by omega
 have hle:sLen+n<=140737488355328:=Nat.le_trans (Nat.le_mul_of_pos_right _ hpos) hb
 have h63':¬(9223372036854775807<((sLen:Int)+(n:Int))):=by omega
 have h48':¬(281474976710656<Builtin.nextslicecap (sLen+n) sCap*i.bytes):=by have:=growslice_fits hg hb;omega
 refine⟨(Builtin.zeroCells z.cells (grownCap w (sLen+n) sCap e-(sLen+n))).toList,by simp[Builtin.zeroCells],?_⟩
 simp[Builtin.append_,run_underlying ht,run_underlying hu,sizeOf,typeInfo,zeroValue,hi,hz,Builtin.lenOf,hn,h63',h48',Question.forced,hf,hfo,newRow,grownCap]
 congr 2
 apply Array.ext'
 simp
theorem Post.rq{m:μ}{n b sz cap:Nat}{c':List Value}{p:Place}{w':World}{O0:Blk}(hm:MRel ρ V w B)(hlim:AMem.lim m n=true)(hlimb:AMem.lim m b=true)(hbn:b<n)(hfree:gI ρ n)(hp:ρ b=some p)(hV:V b=some O0)(hwr:O0.wr=true)
  (hbase:B<=p.blk) (q:Place) (hq:q.sz=sz) (hqblk:q.blk=p.blk\/q.blk=w.heap.size) (hqlt:q.blk<w'.heap.size) (hcap:q.cap=cap)
  (hnew:∀ρ':Ren,ρ.le ρ'->jC ρ' w' B q (.cells c' sz true true)) (hother:∀k,k≠p.blk->k≠w.heap.size->w'.heap[k]?=w.heap[k]?) (hos:w'.os=w.os) (htape:w'.tape=w.tape) (hout:w'.output=w.output) (hsize:w.heap.size<=w'.heap.size):
  ∃ρ':Ren,ρ' n=some q/\Post ρ V w B n (AMem.put (AMem.put m b none) n (some (.cells c' sz true true))) (n+1) (Nat.lor (bit b) (bit n)) ρ' w':=by
 have hle:Ren.le ρ (fun k=>if k=n then some q else ρ k):=by
  intro k p' h
  have:k≠n:=by intro e;subst e;rw[hfree k (Nat.le_refl _)]at h;cases h
  simp[this,h]
 have hlim2:AMem.lim (AMem.put m b none) n=true:=by rw[AMem.lim_put];exact hlim
 have up:∀k,upd V (Nat.lor (bit b) (bit n)) (AMem.put (AMem.put m b none) n (some (.cells c' sz true true))) k=if k=n then some (.cells c' sz true true)else if k=b then none else V k:=by
  intro k
  unfold upd
  rw[c9,dn,dn,AMem.get_put _ _ _ _ hlim2,AMem.get_put _ _ _ _ hlimb]
  by_cases e1:k=n
  ·subst e1;simp
  ·have e1':¬n=k:=fun h=>e1 h.symm
   by_cases e2:k=b
   ·subst e2;simp[e1]
   ·have e2':¬b=k:=fun h=>e2 h.symm
    simp[e1,e1',e2,e2']
 refine⟨_,by simp,hle,?_,⟨?_,?_,?_,?_,hm.gl.mono ⟨hos,htape,hout,hsize,fun k hk=>hother k (by omega) (by have:=hm.le;omega)⟩⟩,⟨hos,htape,hout,hsize,fun k hk=>hother k (by omega) (by have:=hm.le;omega)⟩,Nat.le_succ _,fun k hk1 hk=>hother k (fun e=>hk b p hp (by rw[c9,dn];simp) e.symm) (by omega),?_,fun k hk=>by
  rw[c9,dn,dn,Bool.or_eq_true]at hk
  rcases hk with hk|hk
  ·have hk:b=k:=of_decide_eq_true hk
   subst hk
   exact⟨⟨p,hle b p hp⟩,fun _=>⟨_,hV,hwr⟩⟩
  ·have hk:n=k:=of_decide_eq_true hk
   subst hk
   exact⟨⟨q,if_pos rfl⟩,fun h=>absurd h (Nat.lt_irrefl _)⟩⟩
 ·intro k p' h
  by_cases e:k=n
  ·subst e;exact .inr ⟨Nat.le_refl _,Nat.lt_succ_self _⟩
  ·simp[e]at h;exact .inl h
 ·intro k p' O hk hO
  rw[up]at hO
  by_cases e1:k=n
  ·subst e1
   simp at hk hO;subst hk;subst hO
   exact hnew _ hle
  ·simp[e1]at hk hO
   obtain⟨e2,hO⟩:=hO
   have hx:=hm.excl b k p p' O0 O hp hk hV hO (fun h=>e2 h.symm) hwr
   have hf:=hm.fresh k p' hk
   exact(hm.blk k p' O hk hO).mono hle (hother _ (fun h=>hx h.symm) (by omega))
 ·intro b1 b2 p1 p2 O1 O2 h1 h2 hV1 hV2 hne hw
  rw[up]at hV1 hV2
  by_cases e1:b1=n
  ·subst e1
   simp at h1;subst h1
   have e2:¬b2=b1:=fun h=>hne h.symm
   simp[e2]at h2 hV2
   have hx:=hm.excl b b2 p p2 O0 O2 hp h2 hV hV2.2 (fun h=>hV2.1 h.symm) hwr
   have hf:=hm.fresh b2 p2 h2
   rcases hqblk with h|h
   ·rw[h];exact hx
   ·omega
  ·simp[e1]at h1 hV1
   by_cases e2:b2=n
   ·subst e2
    simp at h2;subst h2
    have hx:=hm.excl b b1 p p1 O0 O1 hp h1 hV hV1.2 (fun h=>hV1.1 h.symm) hwr
    have hf:=hm.fresh b1 p1 h1
    rcases hqblk with h|h
    ·rw[h];exact fun e=>hx e.symm
    ·omega
   ·simp[e2]at h2 hV2
    exact hm.excl b1 b2 p1 p2 O1 O2 h1 h2 hV1.2 hV2.2 hne hw
 ·intro k p' h
  by_cases e:k=n
  ·subst e;simp at h;subst h;exact hqlt
  ·simp[e]at h;have:=hm.fresh k p' h;omega
 ·have:=hm.le;omega
 ·intro k p' h
  by_cases e:k=n
  ·subst e;simp at h;subst h
   rcases hqblk with h|h
   ·exact .inr (.inr ⟨b,p,hp,by rw[c9,dn];simp,h.symm⟩)
   ·exact .inr (.inl (by omega))
  ·simp[e]at h;exact .inl h
theorem kn{a:Option Addr}{l c:Nat}{x':Value}(h:VRel ρ (.slice a l c) x'):∃a' c',x'=.slice a' l c':=by cases h<;>exact⟨_,_,rfl⟩
theorem MRel.drew(hm:MRel ρ V w B):MRel ρ V w.drew B:=⟨fun b p O h1 h2=>by
  have:=hm.blk b p O h1 h2
  exact this.mono ρ.le_refl rfl,hm.excl,hm.fresh,hm.le,hm.gl.mono (Below.refl B w).drew⟩
theorem Post.D8{m':μ}{n n' W:Nat}{ρ':Ren}{w':World}(h:Post ρ V w.drew B n m' n' W ρ' w'):Post ρ V w B n m' n' W ρ' w':=
 ⟨h.le,h.dom,h.mrel,⟨h.below.os,h.below.tape,h.below.output,h.below.size,h.below.block⟩,h.num,h.frame,h.newp,h.wold⟩
theorem vr{m m':μ}{n n' r r0 wm sz lx ly:Nat}{t u e el ty:Nat}{ti:TypeInfo}{z:Value}{c c':List Value}{v:Value}{base xa:Option Addr}{sCap xc:Nat}{olds news:List Value}
  (hm:MRel ρ V w B) (h:vu m n sz (Nat.add lx ly) c r0=.ok v m' n' r wm) (hfree:gI ρ n) (ht:P.underlying t=some (.slice e)) (hu:P.underlying u=some (.slice el)) (hi:P.info? e=some ti) (hz:ti.zero=some z) (hsz:ti.size=sz) (hzs:z.cells.size=sz)
  (hc:c'=olds++news) (hr:dO ρ c c') (hlen:c'.length=(lx+ly)*sz)
  (hfo:(Builtin.firstCells ti.size lx (.slice base lx sCap)).run P w.drew=.ok olds.toArray w.drew) (hf:(Builtin.firstCells ti.size ly (.slice xa ly xc)).run P w.drew=.ok news.toArray w.drew) (hg:sCap<lx+ly) (hpos:0<ti.bytes) (hb:(lx+ly)*ti.bytes<=140737488355328):
  ∃v' w' ρ',(Builtin.append_ #[t,u] ty #[.slice base lx sCap,.slice xa ly xc]).run P w=.ok v' w'/\VRel ρ' v v'/\Post ρ V w B n m' n' wm ρ' w':=by
 obtain⟨rest,hrest,hrun⟩:=pM (P:=P) (w:=w) (ty:=ty) ht hu hi hz hfo hf hg hpos hb
 unfold vu at h
 cases hl:AMem.lim m n
 ·rw[hl,cond_false]at h;cases h
 ·rw[hl,cond_true]at h
  injection h with e1 e2 e3 e4 e5
  subst e1;subst e2;subst e3;subst e4;subst e5
  have hge:lx+ly<=grownCap w (lx+ly) sCap e:=grownCap_ge w _ _ _
  have hcl:(olds++news++rest).length=grownCap w (lx+ly) sCap e*sz:=by
   rw[List.length_append,<-hc,hlen,hrest,hzs,<-Nat.add_mul];congr 1;omega
  obtain⟨ρ',hn,hpost⟩:=Post.new (n':=n+1) (hm.drew) hl hfree (.cells c sz true true) (.cells (olds++news++rest).toArray e) (grownCap w (lx+ly) sCap e*sz) (fun ρ' hle=>by
   refine⟨rfl,_,e,(0,0),heap_alloc w.drew _,fun i x hx=>?_,fun _=>⟨hm.le,rfl⟩,fun _=>?_,?_⟩
   ·obtain⟨y,hy,hv⟩:=hr.get hx
    refine⟨y,?_,hv.mono hle⟩
    rw[hc]at hy
    have hi:=(List.getElem?_eq_some_iff.1 hy).1
    simp only[Nat.zero_add,List.getElem?_toArray]
    rw[List.getElem?_append_left hi];exact hy
   ·show 0+grownCap w (lx+ly) sCap e*sz<=(olds++news++rest).toArray.size
    simp only[List.size_toArray,hcl];omega
   ·show 0+c.length<=(olds++news++rest).toArray.size
    have h1:=hr.1;rw[hc]at h1
    simp only[List.size_toArray,List.length_append]at h1 ⊢;omega) rfl
  refine⟨_,_,ρ',hrun,?_,hpost.D8⟩
  show VRel ρ' (.slice (some ⟨n,0,none⟩) (lx+ly) UNK) _
  exact VRel.slice (p:=⟨w.heap.size,0,grownCap w (lx+ly) sCap e*sz,sz⟩) hn hge (fun _=>by simp) (fun h=>absurd rfl h) (by decide)
theorem Db{m m':μ}{n n' r r0 wm sz lx ly ox bx:Nat}{t u e el ty:Nat}{ti:TypeInfo}{z:Value}{a a' b b':List Value}{v:Value}{p:Place}{xa:Option Addr}{c' xc F:Nat}
  (hm:MRel ρ V w B) (h:rq m n sz (Nat.add lx ly) (a++b) r0 ⟨bx,ox,none⟩ (fg m n bx)=.ok v m' n' r wm) (hag:eI V m n F) (hF:F.testBit bx=true) (hfree:gI ρ n)
  (ht:P.underlying t=some (.slice e)) (hu:P.underlying u=some (.slice el)) (hi:P.info? e=some ti) (hz:ti.zero=some z) (hsz:ti.size=sz) (hzs:z.cells.size=sz)
  (hp:ρ bx=some p) (hcap:ox+c'*p.sz=p.cap) (ha:dO ρ a a') (hb:dO ρ b b') (hla:a'.length=lx*sz) (hlb:b'.length=ly*sz) (hone:∀v∈b',v.oneCell'=true) (hlc:lx<=c')
  (hfo:∀(size':Nat) (w2:World),size'=sz->w2.heap=w.heap->(Builtin.firstCells size' lx (.slice (some ⟨p.blk,p.base+ox,none⟩) lx c')).run P w2=.ok a'.toArray w2)
  (hf:∀(size':Nat) (w2:World),size'=sz->w2.heap=w.heap->(Builtin.firstCells size' ly (.slice xa ly xc)).run P w2=.ok b'.toArray w2) (hpos:0<ti.bytes) (hbb:(lx+ly)*ti.bytes<=140737488355328)
  (hcell:∀i,i<lx*sz->w.cell? ⟨p.blk,p.base+ox+i,none⟩=a'[i]?):
  ∃v' w' ρ',(Builtin.append_ #[t,u] ty #[.slice (some ⟨p.blk,p.base+ox,none⟩) lx c',.slice xa ly xc]).run P w=.ok v' w'/\VRel ρ' v v'/\Post ρ V w B n m' n' wm ρ' w':=by
 unfold rq at h
 split at h
 ·rename_i c s hg
  cases hl:(AMem.lim m n&&Nat.beq s sz)
  ·rw[hl,cond_false]at h;cases h
  ·rw[hl,cond_true]at h
   injection h with e1 e2 e3 e4 e5
   subst e1;subst e2;subst e3;subst e4;subst e5
   rw[Bool.and_eq_true]at hl
   have hs:s=sz:=Nat.eq_of_beq_eq_true hl.2
   subst hs
   obtain⟨hV,hb0⟩:=fo hm hag hF hg hp
   obtain⟨hbn,hget⟩:=dP hg
   obtain⟨hpsz,cc,ce,fz,hheap,hcells,hwr,hopn,hlen⟩:=hb0
   obtain⟨hB,hfz⟩:=hwr rfl
   subst hfz
   have hopn:=hopn rfl
   rw[hpsz]at hcap
   by_cases hroom:lx+ly<=c'
   ·
    have hmul:(lx+ly)*s<=c'*s:=Nat.mul_le_mul_right _ hroom
    rw[Nat.add_mul]at hmul
    have hfit:p.base+ox+lx*s+0+b'.length<=cc.size:=by rw[hlb];omega
    have hst:=run_storeCells_at P p.blk (p.base+ox+lx*s) ce b' 0 cc w hheap hfit hone
    have hrun:=rL (P:=P) (w:=w) (ty:=ty) (a:=⟨p.blk,p.base+ox,none⟩) ht hu hi (hf ti.size w hsz rfl) hroom (by rw[addr_add,hsz];exact hst)
    obtain⟨ρ',hn,hpost⟩:=Post.rq (n:=n) (b:=bx) (sz:=s) (cap:=c'*s) (c':=a++b) hm hl.1 (AMem.get_lim _ _ _ hget) hbn hfree hp hV rfl hB ⟨p.blk,p.base+ox,c'*s,s⟩ rfl (.inl rfl) (by rw[setRow_size];exact hm.fresh bx p hp) rfl
     (w':=w.setRow p.blk (List.take (p.base+ox+lx*s+0) cc.toList++b'++List.drop (p.base+ox+lx*s+0+b'.length) cc.toList).toArray) (fun ρ' hle=>by
      refine⟨rfl,_,ce,(0,0),setRow_heap w p.blk cc _ ce (0,0) hheap,fun i x hx=>?_,fun _=>⟨hB,rfl⟩,fun _=>?_,?_⟩
      ·have hta:(cc.toList.take (p.base+ox+lx*s+0)).length=p.base+ox+lx*s:=by simp;omega
       simp only[List.getElem?_toArray]
       rw[List.append_assoc]
       have hal:a.length=lx*s:=by rw[ha.1];exact hla
       by_cases hia:i<lx*s
       ·rw[List.getElem?_append_left (by omega)]at hx
        obtain⟨y,hy,hv⟩:=ha.get hx
        refine⟨y,?_,hv.mono hle⟩
        rw[List.getElem?_append_left (by omega),List.getElem?_take,if_pos (by omega),<-hy,<-hcell i hia]
        simp[World.cell?,hheap]
       ·rw[List.getElem?_append_right (by omega),hal]at hx
        obtain⟨y,hy,hv⟩:=hb.get hx
        refine⟨y,?_,hv.mono hle⟩
        have hilt:=(List.getElem?_eq_some_iff.1 hy).1
        rw[List.getElem?_append_right (by omega),hta,List.getElem?_append_left (by omega),<-hy]
        congr 1;omega
      ·simp;omega
      ·have hal:=ha.1;have hbl:=hb.1
       simp;omega) (fun k h1 _=>setRow_other w _ _ k h1) rfl rfl rfl (by rw[setRow_size];exact Nat.le_refl _)
    refine⟨_,_,ρ',hrun,?_,hpost⟩
    show VRel ρ' (.slice (some ⟨n,0,none⟩) (lx+ly) UNK) _
    exact VRel.slice (p:=⟨p.blk,p.base+ox,c'*s,s⟩) hn hroom (fun _=>by simp) (fun h=>absurd rfl h) (by decide)
   ·
    have hg:c'<lx+ly:=by omega
    obtain⟨rest,hrest,hrun⟩:=pM (P:=P) (w:=w) (ty:=ty) ht hu hi hz (hfo ti.size w.drew hsz rfl) (hf ti.size w.drew hsz rfl) hg hpos hbb
    have hge:lx+ly<=grownCap w (lx+ly) c' e:=grownCap_ge w _ _ _
    have hcl:(a'++b'++rest).length=grownCap w (lx+ly) c' e*s:=by
     rw[List.length_append,List.length_append,hla,hlb,hrest,hzs,<-Nat.add_mul,<-Nat.add_mul];congr 1;omega
    obtain⟨ρ',hn,hpost⟩:=Post.rq (n:=n) (b:=bx) (sz:=s) (cap:=grownCap w (lx+ly) c' e*s) (c':=a++b) hm hl.1 (AMem.get_lim _ _ _ hget) hbn hfree hp hV rfl hB ⟨w.heap.size,0,grownCap w (lx+ly) c' e*s,s⟩ rfl (.inr rfl) (by simp) rfl
     (w':=w.drew.alloc (.cells (a'++b'++rest).toArray e)) (fun ρ' hle=>by
      refine⟨rfl,_,e,(0,0),heap_alloc w.drew _,fun i x hx=>?_,fun _=>⟨hm.le,rfl⟩,fun _=>?_,?_⟩
      ·obtain⟨y,hy,hv⟩:=(ha.append hb).get hx
       refine⟨y,?_,hv.mono hle⟩
       have hi:=(List.getElem?_eq_some_iff.1 hy).1
       simp only[Nat.zero_add,List.getElem?_toArray]
       rw[List.getElem?_append_left hi];exact hy
      ·show 0+grownCap w (lx+ly) c' e*s<=(a'++b'++rest).toArray.size
       simp only[List.size_toArray,hcl];omega
      ·show 0+(a++b).length<=(a'++b'++rest).toArray.size
       have h1:=(ha.append hb).1
       simp only[List.size_toArray,List.length_append]at h1 ⊢;omega)
     (fun k h1 h2=>by
      show(w.heap.push _)[k]?=_
      rw[Array.getElem?_push,if_neg (by omega)]) rfl rfl rfl (by simp)
    refine⟨_,_,ρ',hrun,?_,hpost⟩
    show VRel ρ' (.slice (some ⟨n,0,none⟩) (lx+ly) UNK) _
    exact VRel.slice (p:=⟨w.heap.size,0,grownCap w (lx+ly) c' e*s,s⟩) hn hge (fun _=>by simp) (fun h=>absurd rfl h) (by decide)
 ·cases h
theorem LJ{b b':List Value}(h:dO ρ b b')(hone:b.all one=true):∀v∈b',v.oneCell'=true:=by
 intro v hv
 obtain⟨j,hj,rfl⟩:=List.getElem_of_mem hv
 have hj':j<b.length:=by rw[h.1];exact hj
 have:=h.2 j _ _ (List.getElem?_eq_getElem hj') (List.getElem?_eq_getElem hj)
 refine this.one ?_
 rw[List.all_eq_true]at hone
 exact hone _ (List.getElem_mem hj')
theorem zL{m:μ}{n sz F r lx c' bx ox cx:Nat}{a:List Value}{p:Place}(hm:MRel ρ V w B)(hp:ρ bx=some p)(hx:VRel ρ (.slice (some ⟨bx,ox,none⟩) lx cx) (.slice (some ⟨p.blk,p.base+ox,none⟩) lx c'))
  (h:shown m n sz (.slice (some ⟨bx,ox,none⟩) lx cx)=some (a,r)) (hag:eI V m n F) (hF:∀b,r.testBit b=true->F.testBit b=true) {a':List Value} (hla:a'.length=lx*sz)
  (hfo:(Builtin.firstCells sz lx (.slice (some ⟨p.blk,p.base+ox,none⟩) lx c')).run P w=.ok a'.toArray w):∀i,i<lx*sz->w.cell? ⟨p.blk,p.base+ox+i,none⟩=a'[i]?:=by
 intro i hi
 unfold shown at h
 cases h0:Nat.beq lx 0
 ·simp only[h0,cond_false]at h
  unfold oH at h
  split at h
  ·rename_i c1 s _ _ hg
   cases hs:szF s sz
   ·rw[hs,cond_false]at h;cases h
   ·rw[hs,cond_true]at h
    cases hc:eO c1 ox (Nat.mul lx sz)with
    |none=>rw[hc]at h;cases h
    |some l1=>
     rw[hc]at h
     have h:some (l1,bit bx)=some (a,r):=h
     injection h with h;injection h with e1 e2;subst e1;subst e2
     obtain⟨_,hb⟩:=fo hm hag (hF bx (by rw[dn];simp)) hg hp
     obtain⟨l',hr,hl',hcell⟩:=j6 hb hc
     have hl'':=run_firstCells_some (P:=P) w sz lx ⟨p.blk,p.base+ox,none⟩ lx c' l' hl' (fun j v hv=>(hcell j v hv).2)
     rw[hl'']at hfo
     have e:l'=a':=by
      injection hfo with e1;have:=congrArg Array.toList e1;simpa using this
     subst e
     have hil:i<l'.length:=by rw[hla];exact hi
     rw[List.getElem?_eq_getElem hil]
     have:=(hcell i _ (List.getElem?_eq_getElem hil)).2
     rwa [addr_add]at this
  ·cases h
 ·have h0:lx=0:=Nat.eq_of_beq_eq_true h0
  subst h0;simp at hi
theorem Dc{m m':μ}{n n' r wm sz bytes:Nat}{t u e el ty:Nat}{ti:TypeInfo}{z:Value}{x y x' y' v:Value}
  (hm:MRel ρ V w B) (h:jq sz bytes m n x y (shown m n sz x) (shown m n sz y)=.ok v m' n' r wm) (hag:eI V m n (Nat.lor r wm)) (hfree:gI ρ n)
  (ht:P.underlying t=some (.slice e)) (hu:P.underlying u=some (.slice el)) (hi:P.info? e=some ti) (hz:ti.zero=some z) (hsz:ti.size=sz) (hzs:z.cells.size=sz) (hby:ti.bytes=bytes)
  (hx:VRel ρ x x') (hy:VRel ρ y y'):
  ∃v' w' ρ',(Builtin.append_ #[t,u] ty #[x',y']).run P w=.ok v' w'/\VRel ρ' v v'/\Post ρ V w B n m' n' wm ρ' w':=by
 cases hsx:shown m n sz x with
 |none=>rw[hsx]at h;cases h
 |some pa=>
 cases hsy:shown m n sz y with
 |none=>rw[hsx,hsy]at h;cases h
 |some pb=>
 obtain⟨a,ra⟩:=pa
 obtain⟨b,rb⟩:=pb
 rw[hsx,hsy]at h
 replace h:Da sz bytes m n (a,ra) (b,rb) x y=.ok v m' n' r wm:=h
 unfold Da at h
 split at h
 ·rename_i ax lx cx ay ly cy
  cases hc:(b.all one&&Nat.blt 0 sz&&Nat.blt 0 bytes&&Nat.ble (Nat.mul (Nat.add lx ly) bytes) 140737488355328)
  ·simp only[hc,cond_false]at h;cases h
  ·simp only[hc,cond_true]at h
   simp only[Bool.and_eq_true,Nat.blt_eq,Nat.ble_eq]at hc
   obtain⟨⟨⟨hone,hszp⟩,hbyp⟩,hbb⟩:=hc
   have hbb:(lx+ly)*bytes<=140737488355328:=hbb
   obtain⟨ax',cx',rfl⟩:=kn hx
   obtain⟨ay',cy',rfl⟩:=kn hy
   have hr:∀k,(Nat.lor ra rb).testBit k=true->(Nat.lor r wm).testBit k=true:=by
    intro k hk
    have e:r=Nat.lor ra rb:=by
     unfold yW at h
     split at h
     ·cases hl:Nat.beq ly 0
      ·rw[hl,cond_false]at h;unfold vu at h
       cases hl2:AMem.lim m n
       ·rw[hl2,cond_false]at h;cases h
       ·rw[hl2,cond_true]at h;injection h with _ _ _ e _;exact e.symm
      ·rw[hl,cond_true]at h;injection h with _ _ _ e _;exact e.symm
     ·rename_i bx ox
      cases hl:Nat.beq cx VAG
      ·rw[hl,cond_false]at h
       cases hl1:Nat.beq cx UNK
       ·rw[hl1,cond_false]at h
        cases hl2:Nat.ble (Nat.add lx ly) cx
        ·rw[hl2,cond_false]at h;unfold vu at h
         cases hl3:AMem.lim m n
         ·rw[hl3,cond_false]at h;cases h
         ·rw[hl3,cond_true]at h;injection h with _ _ _ e _;exact e.symm
        ·rw[hl2,cond_true]at h;unfold Gk at h
         split at h
         ·unfold qR at h
          split at h
          ·injection h with _ _ _ e _;exact e.symm
          ·cases h
         ·cases h
       ·rw[hl1,cond_true]at h;unfold rq at h
        split at h
        ·rename_i s _
         cases hl3:(AMem.lim m n&&Nat.beq s sz)
         ·rw[hl3,cond_false]at h;cases h
         ·rw[hl3,cond_true]at h;injection h with _ _ _ e _;exact e.symm
        ·cases h
      ·rw[hl,cond_true]at h;cases h
     ·cases h
    rw[c9,e,hk];rfl
   have hra:∀k,ra.testBit k=true->(Nat.lor r wm).testBit k=true:=fun k hk=>hr k (by rw[c9,hk];rfl)
   have hrb:∀k,rb.testBit k=true->(Nat.lor r wm).testBit k=true:=fun k hk=>hr k (by rw[c9,hk];simp)
   obtain⟨a',ha,hla,hfa⟩:=mM (P:=P) hm hx hsx hag hra
   obtain⟨b',hb,hlb,hfb⟩:=mM (P:=P) hm hy hsy hag hrb
   have hone':=LJ hb hone
   have hlen:(a'++b').length=(lx+ly)*sz:=by rw[List.length_append,hla,hlb,<-Nat.add_mul]
   unfold yW at h
   split at h
   ·
    have e0:lx=0/\cx=0/\a=[]:=by
     unfold shown at hsx
     split at hsx
     ·rename_i e1;injection e1 with _ e2 e3;injection hsx with hsx;injection hsx with e4 _
      exact⟨e2,e3,e4.symm⟩
     ·rename_i e1;injection e1 with e1;cases e1
     ·cases hsx
    obtain⟨rfl,rfl,rfl⟩:=e0
    have ex:=hx.dN rfl
    injection ex with ex1 _ ex3;subst ex1;subst ex3
    cases hl:Nat.beq ly 0
    ·rw[hl,cond_false]at h
     have hne:ly≠0:=by intro e;subst e;simp at hl
     have ha':a'=[]:=by have:=ha.1;cases a' with|nil=>rfl|cons=>simp at this
     exact vr hm h hfree ht hu hi hz hsz hzs rfl (ha.append hb) hlen (hfa _ _ hsz rfl) (hfb _ _ hsz rfl) (by omega) (by omega) (by rw[hby];exact hbb)
    ·rw[hl,cond_true]at h
     injection h with e1 e2 e3 e4 e5
     subst e1;subst e2;subst e3;subst e5
     have hl:ly=0:=Nat.eq_of_beq_eq_true hl
     subst hl
     have hb0:b'=[]:=by have:=hlb;simp at this;exact this
     have hrun:=hfb ti.size w hsz rfl
     rw[hb0]at hrun
     exact⟨_,w,ρ,yh ht hu hi hrun,.flat rfl,Post.same hm n m⟩
   ·rename_i bx ox
    cases hl:Nat.beq cx VAG
    ·rw[hl,cond_false]at h
     have hnv:cx≠VAG:=by intro e;subst e;simp at hl
     cases hx with
     |flat hf=>simp[flat]at hf
     |vag=>exact absurd rfl hnv
     |slice hp hn hun hk hv=>
      rename_i p
      have hx':VRel ρ (.slice (some ⟨bx,ox,none⟩) lx cx) (.slice (some ⟨p.blk,p.base+ox,none⟩) lx cx'):=.slice hp hn hun hk hv
      cases hl1:Nat.beq cx UNK
      ·rw[hl1,cond_false]at h
       have hnu:cx≠UNK:=by intro e;subst e;simp at hl1
       have ec:=hk hnu
       subst ec
       cases hl2:Nat.ble (Nat.add lx ly) cx'
       ·rw[hl2,cond_false]at h
        have hg:¬lx+ly<=cx':=by intro hh;have:Nat.ble (Nat.add lx ly) cx'=true:=by rw[Nat.ble_eq];exact hh
                                rw[this]at hl2;cases hl2
        exact vr hm h hfree ht hu hi hz hsz hzs rfl (ha.append hb) hlen (hfa _ _ hsz rfl) (hfb _ _ hsz rfl) (by omega) (by omega) (by rw[hby];exact hbb)
       ·rw[hl2,cond_true]at h
        rw[Nat.ble_eq]at hl2
        have hroom:lx+ly<=cx':=hl2
        unfold Gk at h
        split at h
        ·rename_i c s opn hg
         unfold qR at h
         split at h
         ·rename_i c1 hs
          injection h with e1 e2 e3 e4 e5
          subst e1;subst e2;subst e3;subst e4;subst e5
          obtain⟨hV,hb0⟩:=fo hm hag (by rw[c9,dn];simp) hg hp
          obtain⟨w',hw,hb',ho,h1,h2,h3,h4⟩:=uZ (P:=P) hb0 hs hb hone'
          refine⟨_,w',ρ,rL (P:=P) (w:=w) (ty:=ty) ht hu hi (hfb _ _ hsz rfl) hroom (by rw[addr_add,hsz,Nat.add_assoc];exact hw),?_,Post.write hm (AMem.get_lim _ _ _ (dP hg).2) hp hV hb' ho h1 h2 h3 h4⟩
          exact VRel.slice hp hroom hun (fun _=>rfl) hv
         ·cases h
        ·cases h
      ·rw[hl1,cond_true]at h
       have ecu:cx=UNK:=Nat.eq_of_beq_eq_true hl1
       exact Db hm h hag (by
         unfold rq at h
         split at h
         ·rename_i s _
          cases hl3:(AMem.lim m n&&Nat.beq s sz)
          ·rw[hl3,cond_false]at h;cases h
          ·rw[hl3,cond_true]at h;injection h with _ _ _ _ e
           rw[c9,<-e,c9,dn];simp
         ·cases h) hfree ht hu hi hz hsz hzs hp (hun ecu) ha hb hla hlb hone' hn hfa hfb (by omega) (by rw[hby];exact hbb)
        (zL (P:=P) hm hp hx' hsx hag hra hla (hfa sz w rfl rfl))
    ·rw[hl,cond_true]at h;cases h
   ·cases h
 ·cases h
end
section
variable{μ:Type}[AMem μ]{P:Program}{ρ:Ren}{V:Nat->Option Blk}{w:World}{B:Nat}
theorem Post.Gx{m:μ}{n b:Nat}{O O':Blk}{p:Place}{w':World}(hm:MRel ρ V w B)(hlim:AMem.lim m b=true)(hp:ρ b=some p)(hV:V b=some O)(hO:O.wr=true)(hO':O'.wr=true)(hBp:B<=p.blk)
  (hb:jC ρ w' B p O') (hother:∀k,k≠p.blk->w'.heap[k]?=w.heap[k]?) (hos:w'.os=w.os) (htape:w'.tape=w.tape) (hout:w'.output=w.output) (hsize:w'.heap.size=w.heap.size):
  Post ρ V w B n (AMem.put m b (some O')) n (bit b) ρ w':=by
 refine⟨ρ.le_refl,fun _ _ h=>.inl h,⟨?_,?_,?_,?_,hm.gl.mono ⟨hos,htape,hout,by omega,fun k hk=>hother k (by omega)⟩⟩,⟨hos,htape,hout,by omega,fun k hk=>hother k (by omega)⟩,Nat.le_refl _,fun k _ hk=>hother k (fun e=>hk b p hp (by rw[dn];simp) e.symm),fun _ _ h=>.inl h,fun k hk=>by
  rw[dn]at hk
  have hk:b=k:=of_decide_eq_true hk
  subst hk
  exact⟨⟨p,hp⟩,fun _=>⟨_,hV,hO⟩⟩⟩
 ·intro b2 p2 O2 h2 hV2
  by_cases e:b2=b
  ·subst e
   rw[hp]at h2;injection h2 with h2;subst h2
   simp[upd,dn,AMem.get_put m b2 b2 _ hlim]at hV2
   subst hV2;exact hb
  ·have hne:¬b=b2:=fun h=>e h.symm
   simp[upd,dn,hne]at hV2
   have hx:=hm.excl b b2 p p2 _ O2 hp h2 hV hV2 hne hO
   exact(hm.blk b2 p2 O2 h2 hV2).mono ρ.le_refl (hother _ (fun h=>hx h.symm))
 ·intro b1 b2 p1 p2 O1 O2 h1 h2 hV1 hV2 hne hw
  have old:∀{b3:Nat} {O3:Blk},upd V (bit b) (AMem.put m b (some O')) b3=some O3->∃O4,V b3=some O4/\O4.wr=O3.wr:=by
   intro b3 O3 h
   by_cases e:b3=b
   ·subst e
    simp[upd,dn,AMem.get_put m b3 b3 _ hlim]at h
    subst h;exact⟨_,hV,hO.trans hO'.symm⟩
   ·have hne:¬b=b3:=fun h=>e h.symm
    simp[upd,dn,hne]at h
    exact⟨_,h,rfl⟩
  obtain⟨O1',h1',e1⟩:=old hV1
  obtain⟨O2',h2',e2⟩:=old hV2
  exact hm.excl b1 b2 p1 p2 O1' O2' h1 h2 h1' h2' hne (e1.trans hw)
 ·intro b2 p2 h2;have:=hm.fresh b2 p2 h2;omega
 ·have:=hm.le;omega
theorem ue{α β:Type}{x:Sem α}{f:α->Sem β}{v:β}(h:dG P (x >>= f)=some v):∃a,dG P x=some a/\dG P (f a)=some v:=by
 induction x with
 |pure a=>exact⟨a,rfl,h⟩
 |program k ih=>exact ih P h
 |_=>cases h
theorem oB(d:TypeDesc)(k:Value):∀(l:List MapEntry) (i:Nat),Instr.findNow d k l i=(Instr.findNow d k (jt (l.map MapEntry.key)) i).map fun r=>r.map fun q=>(q.1,((l[q.1-i]?).map (·.val)).getD undef)
 |[],i=>rfl
 |e::l,i=>by
  show(match Instr.sameNow d k e.key with|some true=>some (some (i,e.val))|some false=>Instr.findNow d k l (i+1)|none=>none)=_
  show _=(match Instr.sameNow d k e.key with|some true=>some (some (i,undef))|some false=>Instr.findNow d k (jt (l.map MapEntry.key)) (i+1)|none=>none).map _
  cases hs:Instr.sameNow d k e.key with
  |none=>rfl
  |some t=>
   cases t with
   |true=>simp
   |false=>
    show Instr.findNow d k l (i+1)=(Instr.findNow d k (jt (l.map MapEntry.key)) (i+1)).map _
    rw[oB d k l (i+1)]
    cases hf:Instr.findNow d k (jt (l.map MapEntry.key)) (i+1)with
    |none=>rfl
    |some r=>
     cases r with
     |none=>rfl
     |some q=>
      have hq:i+1<=q.1:=findNow_ge hf
      show some (some (q.1,_))=some (some (q.1,_))
      rw[show q.1-i=(q.1-(i+1))+1 by omega,List.getElem?_cons_succ]
where
 findNow_ge {d:TypeDesc} {k:Value}:∀{l:List MapEntry} {i:Nat} {q:Nat×Value},Instr.findNow d k l i=some (some q)->i<=q.1
 |[],i,q,h=>by cases h
 |e::l,i,q,h=>by
  unfold Instr.findNow at h
  split at h
  ·injection h with h;injection h with h;subst h;exact Nat.le_refl _
  ·have:=findNow_ge h;omega
  ·cases h
theorem lH(kt:Nat)(k:Value):∀(l:List MapEntry) (i:Nat) (r:Option (Nat×Value)),dG P (Instr.findAsking kt k (jt (l.map MapEntry.key)) i)=some r->
  (Instr.findAsking kt k l i).run P w=.ok (r.map fun q=>(q.1,((l[q.1-i]?).map (·.val)).getD undef)) w/\∀q,r=some q->i<=q.1
 |[],i,r,h=>by injection h with h;subst h;exact⟨rfl,fun q h=>by cases h⟩
 |e::l,i,r,h=>by
  replace h:dG P (Op.equal kt k e.key >>= fun t=>if t then pure (some (i,undef))else Instr.findAsking kt k (jt (l.map MapEntry.key)) (i+1))=some r:=h
  obtain⟨t,h1,h2⟩:=ue h
  have hr:=ir (w:=w) h1
  show(Op.equal kt k e.key >>= fun t=>if t then pure (some (i,e.val))else Instr.findAsking kt k l (i+1)).run P w=_/\_
  rw[Sem.run_bind,hr]
  cases t with
  |true=>
   injection h2 with h2;subst h2
   refine⟨?_,fun q hq=>by injection hq with hq;subst hq;exact Nat.le_refl _⟩
   show(Pure.pure (some (i,e.val)):Sem _).run P w=.ok (some (i,(((e::l)[i-i]?).map (·.val)).getD undef)) w
   rw[Nat.sub_self];rfl
  |false=>
   obtain⟨g1,g2⟩:=lH kt k l (i+1) r h2
   refine⟨?_,fun q hq=>by have:=g2 q hq;omega⟩
   show(Instr.findAsking kt k l (i+1)).run P w=_
   rw[g1]
   cases r with
   |none=>rfl
   |some q=>
    have hq:=g2 q rfl
    show Result.ok (some (q.1,_)) w=.ok (some (q.1,_)) w
    rw[show q.1-i=(q.1-(i+1))+1 by omega,List.getElem?_cons_succ]
theorem oO{e:Bool}{kt:Nat}{k:Value}{es:List MapEntry}{r:Option Nat}(h:gk P e kt k (es.map MapEntry.key)=some r):
  (Instr.checkKey e 10000 kt k).run P w=.ok () w/\(Instr.findKey kt k es).run P w=.ok (r.map fun i=>(i,((es[i]?).map (·.val)).getD undef)) w:=by
 unfold gk at h
 cases hp:dG P (do Instr.checkKey e 10000 kt k;Instr.findKey kt k (jt (es.map MapEntry.key)))with
 |none=>rw[hp]at h;cases h
 |some q=>
  rw[hp]at h
  injection h with h
  obtain⟨u,h1,h2⟩:=ue hp
  refine⟨ir h1,?_⟩
  obtain⟨d,h3,h4⟩:=ue (show dG P (underlying kt >>= fun d=>match Instr.findNow d k (jt (es.map MapEntry.key)) 0 with|some r=>pure r|none=>Instr.findAsking kt k (jt (es.map MapEntry.key)))=some q from h2)
  show(underlying kt >>= fun d=>match Instr.findNow d k es 0 with|some r=>pure r|none=>Instr.findAsking kt k es).run P w=_
  rw[Sem.run_bind,ir h3]
  show(match Instr.findNow d k es 0 with|some r=>pure r|none=>Instr.findAsking kt k es:Sem _).run P w=_
  rw[oB]
  cases hf:Instr.findNow d k (jt (es.map MapEntry.key)) 0 with
  |some r0=>
   rw[hf]at h4
   injection h4 with h4
   subst h4
   subst h
   cases r0<;>rfl
  |none=>
   rw[hf]at h4
   obtain⟨g1,_⟩:=lH (w:=w) kt k es 0 q h4
   show(Instr.findAsking kt k es).run P w=_
   rw[g1,<-h]
   cases q<;>rfl
theorem uv{m:μ}{n b F:Nat}{es:List (Value×Value)}{p:Place}(hm:MRel ρ V w B)(hag:eI V m n F)(hF:F.testBit b=true)
  (hg:fg m n b=some (.map es)) (hp:ρ b=some p):V b=some (.map es)/\jC ρ w B p (.map es):=by
 obtain⟨h1,h2⟩:=dP hg
 have hV:=(hag b h1 hF).trans h2
 exact⟨hV,hm.blk b p _ hp hV⟩
theorem wP{ok:Bool}{z:Value}{es:List (Value×Value)}{es':List MapEntry}{r:Option Nat}{v:Value}(hz:du z=true)(hv:dO ρ (es.map (·.2)) (es'.map (·.val)))(h:wR ok z es (some r)=some v):
  ∃v',VRel ρ v v'/\v'=(match(r.map fun i=>(i,((es'[i]?).map (·.val)).getD undef))with|some (_,x)=>(if ok then .tuple #[x,.bool true]else x)|none=>(if ok then .tuple #[z,.bool false]else z)):=by
 have tup:∀{x x':Value} (t:Bool),VRel ρ x x'->VRel ρ (oA ok x t) (if ok then .tuple #[x',.bool t]else x'):=fun{x x'} t hx=>by
  cases ok
  ·exact hx
  ·have:=dO.tuple (dO.cons hx (dO.cons (VRel.bool ρ t) (dO.nil ρ)))
   exact this
 cases r with
 |none=>
  injection h with h;subst h
  exact⟨_,tup false (gN ρ hz),rfl⟩
 |some i=>
  replace h:(es[i]?).map (fun p=>oA ok p.2 true)=some v:=h
  cases he:es[i]? with
  |none=>rw[he]at h;cases h
  |some q=>
   rw[he]at h
   injection h with h;subst h
   have hx:(es.map (·.2))[i]?=some q.2:=by rw[List.getElem?_map,he];rfl
   obtain⟨y,hy,hr⟩:=hv.get hx
   have hy':((es'[i]?).map (·.val)).getD undef=y:=by
    rw[List.getElem?_map]at hy
    rw[hy];rfl
   refine⟨_,tup true hr,?_⟩
   show _=if ok then Value.tuple #[((es'[i]?).map (·.val)).getD undef,.bool true]else _
   rw[hy']
theorem tU{t kt e:Nat}{ti:TypeInfo}{z:Value}{ok:Bool}{x k:Value}{es':Array MapEntry}{r:Option Nat}(ht:P.underlying t=some (.map kt e))(hti:P.info? e=some ti)(hz:ti.zero=some z)
  (hx:(x=.map none/\es'=#[])\/∃g clock,x=.map (some g)/\w.heap[g]?=some (.map es' clock)) (hk:gk P es'.isEmpty kt k (es'.toList.map MapEntry.key)=some r):
  (Instr.lookup t x k ok).run P w=.ok (match(r.map fun i=>(i,((es'.toList[i]?).map (·.val)).getD undef))with|some (_,x)=>(if ok then .tuple #[x,.bool true]else x)|none=>(if ok then .tuple #[z,.bool false]else z)) w:=by
 obtain⟨h1,h2⟩:=oO (w:=w) hk
 have h3:=gg (w:=w) hti hz
 rcases hx with⟨rfl,rfl⟩|⟨g,cl,rfl,hg⟩
 ·cases r with
  |none=>cases ok<;>simp[Instr.lookup,run_underlying ht,Result.andThen,h3,show(Instr.checkKey true 10000 kt k).run P w=.ok () w from h1,show(Instr.findKey kt k []).run P w=.ok none w from h2]
  |some i=>cases ok<;>simp[Instr.lookup,run_underlying ht,Result.andThen,show(Instr.checkKey true 10000 kt k).run P w=.ok () w from h1,show(Instr.findKey kt k []).run P w=.ok (some (i,undef)) w from h2]
 ·have h4:(getObj g).run P w=.ok (.map es' cl) w:=by simp[getObj,Sem.run,hg]
  cases r with
  |none=>cases ok<;>simp[Instr.lookup,run_underlying ht,h4,Result.andThen,h3,h1,h2]
  |some i=>cases ok<;>simp[Instr.lookup,run_underlying ht,h4,Result.andThen,h1,h2]
def jj(w:World)(g:Nat)(es:Array MapEntry)(cl:Nat):World:={w with heap:=w.heap.setIfInBounds g (.map es cl)}
theorem nR{g:Nat}{es es':Array MapEntry}{c c':Nat}(h:w.heap[g]?=some (.map es c)):(jj w g es' c').heap[g]?=some (.map es' c')/\(∀k,k≠g->(jj w g es' c').heap[k]?=w.heap[k]?)/\(jj w g es' c').heap.size=w.heap.size:=by
 have hlt:g<w.heap.size:=(Array.getElem?_eq_some_iff.1 h).1
 exact⟨by simp[jj,hlt],fun k hk=>by simp[jj,Ne.symm hk],by simp[jj]⟩
theorem kq{g:Nat}{es es':Array MapEntry}{c c':Nat}(h:w.heap[g]?=some (.map es c)):(setObj g (.map es' c')).run P w=.ok () (jj w g es' c'):=by
 simp[setObj,Sem.run,h,jj]
theorem dO.set{l l':List Value}(h:dO ρ l l')(i:Nat){x y:Value}(hx:VRel ρ x y):dO ρ (l.set i x) (l'.set i y):=by
 refine⟨by simp[h.1],fun j a b ha hb=>?_⟩
 rw[List.getElem?_set]at ha hb
 by_cases e:i=j
 ·subst e
  rw[if_pos rfl]at ha hb
  split at ha
  ·split at hb
   ·injection ha with ha;injection hb with hb;subst ha;subst hb;exact hx
   ·cases hb
  ·cases ha
 ·rw[if_neg e]at ha hb
  exact h.2 j a b ha hb
theorem dO.erase{l l':List Value}(h:dO ρ l l')(i:Nat):dO ρ (l.eraseIdx i) (l'.eraseIdx i):=by
 refine⟨by rw[List.length_eraseIdx,List.length_eraseIdx,h.1],fun j a b ha hb=>?_⟩
 rw[List.getElem?_eraseIdx]at ha hb
 split at ha
 ·rw[if_pos ‹_›]at hb;exact h.2 j a b ha hb
 ·rw[if_neg ‹_›]at hb;exact h.2 _ a b ha hb
theorem nV{α β:Type}(f:α->β)(l:List α)(i:Nat):(l.eraseIdx i).map f=(l.map f).eraseIdx i:=by
 apply List.ext_getElem?
 intro j
 rw[List.getElem?_map,List.getElem?_eraseIdx,List.getElem?_eraseIdx]
 split<;>rw[List.getElem?_map]
theorem Bn.push{es:Array MapEntry}{c:Nat}(h:Bn es c)(x:MapEntry)(hx:x.born=c):Bn (es.push x) (c+1):=by
 refine⟨fun y hy=>?_,?_⟩
 ·rw[Array.toList_push,List.mem_append,List.mem_singleton]at hy
  rcases hy with hy|rfl
  ·have:=h.1 y hy;omega
  ·omega
 ·rw[Array.toList_push,List.map_append,List.nodup_append]
  refine⟨h.2,by simp,fun a ha b hb=>?_⟩
  obtain⟨y,hy,rfl⟩:=List.mem_map.1 ha
  have:=h.1 y hy
  simp only[List.map_cons,List.map_nil,List.mem_singleton]at hb
  omega
theorem Bn.same{es es':Array MapEntry}{c:Nat}(h:Bn es c)(he:es'.toList.map (·.born)=es.toList.map (·.born)):Bn es' c:=by
 refine⟨fun y hy=>?_,by rw[he];exact h.2⟩
 have:y.born∈es.toList.map (·.born):=by rw[<-he];exact List.mem_map.2 ⟨y,hy,rfl⟩
 obtain⟨z,hz,e⟩:=List.mem_map.1 this
 rw[<-e];exact h.1 z hz
theorem Bn.erase{es:Array MapEntry}{c:Nat}(h:Bn es c)(i:Nat):Bn (es.eraseIdxIfInBounds i) c:=by
 refine⟨fun y hy=>?_,?_⟩
 ·rw[Array.toList_eraseIdxIfInBounds]at hy
  exact h.1 y (List.mem_of_mem_eraseIdx hy)
 ·rw[Array.toList_eraseIdxIfInBounds]
  exact h.2.sublist ((List.eraseIdx_sublist _ _).map _)
theorem sR(l:List MapEntry)(i:Nat)(k v:Value):(l.modify i fun e=>{e with key:=k,val:=v}).map (·.born)=l.map (·.born):=by
 apply List.ext_getElem?
 intro j
 rw[List.getElem?_map,List.getElem?_modify,List.getElem?_map]
 by_cases hj:i=j
 ·subst hj
  cases l[i]?<;>simp
 ·simp[hj]
theorem Fk{t kt e:Nat}{es es1:List (Value×Value)}{k v v':Value}{p:Place}{r:Option Nat}(ht:P.underlying t=some (.map kt e))(hb:jC ρ w B p (.map es))(hk:gk P false kt k (es.map (·.1))=some r)(hv:VRel ρ v v')(h:Ks k v es (some r)=some es1):
  ∃w',(Instr.mapUpdate t (.map (some p.blk)) k v').run P w=.ok () w'/\jC ρ w' B p (.map es1)/\(∀k,k≠p.blk->w'.heap[k]?=w.heap[k]?)/\w'.os=w.os/\w'.tape=w.tape/\w'.output=w.output/\w'.heap.size=w.heap.size:=by
 obtain⟨hB,es',cl,hg,hkeys,hvals,hbn⟩:=hb
 rw[<-hkeys]at hk
 obtain⟨h1,h2⟩:=oO (w:=w) hk
 have h4:(getObj p.blk).run P w=.ok (.map es' cl) w:=by simp[getObj,Sem.run,hg]
 cases r with
 |none=>
  injection h with h;subst h
  obtain⟨s1,s2,s3⟩:=nR (es':=es'.push {key:=k,val:=v',born:=cl}) (c':=cl+1) hg
  refine⟨jj w p.blk (es'.push {key:=k,val:=v',born:=cl}) (cl+1),by simp[Instr.mapUpdate,run_underlying ht,h4,h1,h2,Result.andThen,kq hg],⟨hB,_,_,s1,by simp[hkeys],?_,hbn.push _ rfl⟩,s2,rfl,rfl,rfl,s3⟩
  rw[List.map_append,Array.toList_push,List.map_append]
  exact hvals.append (.cons hv (.nil ρ))
 |some i=>
  replace h:(match es[i]? with|some p=>cond (Instr.sameBits 10000 p.1 k) (some (es.set i (k,v))) none|none=>none)=some es1:=h
  cases he:es[i]? with
  |none=>rw[he]at h;cases h
  |some q=>
   rw[he]at h
   cases hs:Instr.sameBits 10000 q.1 k with
   |false=>simp only[hs,cond_false]at h;cases h
   |true=>
    simp only[hs,cond_true]at h
    injection h with h;subst h
    have hq:(es'.toList.map MapEntry.key)[i]?=some q.1:=by rw[hkeys,List.getElem?_map,he];rfl
    rw[List.getElem?_map]at hq
    have hold:((es'[i]?).map (·.key)).getD k=q.1:=by
     rw[<-Array.getElem?_toList,hq];rfl
    obtain⟨s1,s2,s3⟩:=nR (es':=es'.modify i fun e=>{e with key:=k,val:=v'}) (c':=cl) hg
    have hst:(Instr.keyThatStays (((es'[i]?).map (·.key)).getD k) k).run P w=.ok k w:=by
     rw[hold];simp[Instr.keyThatStays,hs,Sem.run]
    have hml:(es'.modify i fun e=>{e with key:=k,val:=v'}).toList=es'.toList.modify i fun e=>{e with key:=k,val:=v'}:=by simp
    refine⟨jj w p.blk (es'.modify i fun e=>{e with key:=k,val:=v'}) cl,by simp[Instr.mapUpdate,run_underlying ht,h4,h1,h2,Result.andThen,hst,kq hg],⟨hB,_,_,s1,?_,?_,hbn.same (by rw[hml];exact sR _ _ _ _)⟩,s2,rfl,rfl,rfl,s3⟩
    ·rw[hml,List.map_set,<-hkeys]
     apply List.ext_getElem?
     intro j
     rw[List.getElem?_map,List.getElem?_modify,List.getElem?_set,List.getElem?_map]
     by_cases hj:i=j
     ·subst hj
      have hlt:i<es'.toList.length:=by
       rcases Nat.lt_or_ge i es'.toList.length with h|h
       ·exact h
       ·rw[List.getElem?_eq_none h]at hq;cases hq
      have hlt':i<es'.size:=by simpa using hlt
      simp[hlt']
     ·simp[hj]
    ·rw[hml,List.map_set]
     have:(es'.toList.modify i fun e=>{e with key:=k,val:=v'}).map MapEntry.val=(es'.toList.map MapEntry.val).set i v':=by
      apply List.ext_getElem?
      intro j
      rw[List.getElem?_map,List.getElem?_modify,List.getElem?_set,List.getElem?_map]
      by_cases hj:i=j
      ·subst hj
       cases hx:es'.toList[i]? with
       |none=>simp[hx,List.getElem?_eq_none_iff.1 hx];have:=List.getElem?_eq_none_iff.1 hx;omega
       |some y=>
        have hlt:i<es'.size:=by simpa using(List.getElem?_eq_some_iff.1 hx).1
        simp[hlt]
      ·simp[hj]
     rw[this]
     exact hvals.set i hv
theorem F8{t kt e:Nat}{es es1:List (Value×Value)}{k:Value}{p:Place}{r:Option Nat}{ts:Array Nat}{ty:Nat}(hts:ts[0]?=some t)(ht:P.underlying t=some (.map kt e))(hb:jC ρ w B p (.map es))(hk:gk P es.isEmpty kt k (es.map (·.1))=some r)(h:delE es (some r)=some es1):
  ∃w',(Builtin.delete_ ts ty #[.map (some p.blk),k]).run P w=.ok undef w'/\jC ρ w' B p (.map es1)/\(∀k,k≠p.blk->w'.heap[k]?=w.heap[k]?)/\w'.os=w.os/\w'.tape=w.tape/\w'.output=w.output/\w'.heap.size=w.heap.size:=by
 obtain⟨hB,es',cl,hg,hkeys,hvals,hbn⟩:=hb
 rw[<-hkeys]at hk
 have hemp:es.isEmpty=es'.isEmpty:=by
  have:=congrArg List.length hkeys
  simp at this
  cases es with
  |nil=>simp at this;simp[Array.isEmpty,this]
  |cons a l=>simp at this;simp[Array.isEmpty,this]
 rw[hemp]at hk
 obtain⟨h1,h2⟩:=oO (w:=w) hk
 have h4:(getObj p.blk).run P w=.ok (.map es' cl) w:=by simp[getObj,Sem.run,hg]
 cases r with
 |none=>
  injection h with h;subst h
  obtain⟨s1,s2,s3⟩:=nR (es':=es') (c':=cl) hg
  exact⟨jj w p.blk es' cl,by simp[Builtin.delete_,hts,run_underlying ht,h4,h1,h2,Result.andThen,kq hg,undef],⟨hB,_,_,s1,hkeys,hvals,hbn⟩,s2,rfl,rfl,rfl,s3⟩
 |some i=>
  injection h with h;subst h
  obtain⟨s1,s2,s3⟩:=nR (es':=es'.eraseIdxIfInBounds i) (c':=cl) hg
  refine⟨jj w p.blk (es'.eraseIdxIfInBounds i) cl,by simp[Builtin.delete_,hts,run_underlying ht,h4,h1,h2,Result.andThen,kq hg,undef],⟨hB,_,_,s1,?_,?_,hbn.erase i⟩,s2,rfl,rfl,rfl,s3⟩
  ·rw[Array.toList_eraseIdxIfInBounds,nV,nV,hkeys]
  ·rw[Array.toList_eraseIdxIfInBounds,nV,nV]
   exact hvals.erase i
end
end Go.Am
