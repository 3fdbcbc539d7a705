/- The machine and its runs, part 17: AyRg AyRh AyRi AyRj AyRk AyRl AyRm AyRn AyRo AxEqA. -/
import Derived.Test.YtokdochbjilecaaGreatDoorB16
set_option linter.unusedVariables false
set_option linter.unusedSimpArgs false
set_option linter.unusedSectionVars false
namespace Go.Am.CD
set_option maxRecDepth 100000
open Go Go.Am
variable{N i b k a iB tb j N' v pb seen KB:Nat}{M M0 M':FM}{A B:Ids}{lv lv':Value}{fA fB ln:Nat->Nat}{ss vA vB:List Nat}{ws:List Value}{p p':Pw}{Q:AX->List Value->FM->Nat->Nat->Prop}{dur XA XB:List Sec}{FA FB Fa:Rec->Prop}
structure Nt where
 kd:Nat
 blk:Nat
 ds:List Nat
structure Nt.Ok(x:Nt):Prop where
 kd:x.kd<256
 blk:x.blk<256
 dl:x.ds.length=8
 d8:∀y∈x.ds,y<256
def Nt.cells(x:Nt):List Value:=.int .u8 (x.kd:Int)::.int .u8 (x.blk:Int)::n8s x.ds
def eE(l:List Nt):List Value:=l.flatMap Nt.cells
structure Hb where
 w:List (Nt×Nat)
 s:Nat
abbrev His:=List Hb
def Hb.last(h:Hb):Nat:=match h.w.getLast? with
 |some x=>x.2
 |none=>0
def Hb.fl(h:Hb):Nat:=if h.s=0 then 0 else match h.w[h.s-1]? with
 |some x=>x.2
 |none=>0
structure Hb.Ok(h:Hb)(i:Nat):Prop where
 up:h.w.Pairwise fun x y=>x.2<y.2
 lo:∀x∈h.w,1<=x.2/\x.2<=i
 nt:∀x∈h.w,x.1.Ok/\(x.1.kd % 4=0\/x.1.kd % 4=1)
 s:h.s<=h.w.length
def Hb.fits(h:Hb)(r:Rec):Prop:=∃x∈h.w,x.2=r.ver/\((x.1.kd % 4=0/\r.kd=1/\r.ds=x.1.ds)\/(x.1.kd % 4=1/\r.kd=2))
def FaH(H:His)(r:Rec):Prop:=∃h,H[r.blk]?=some h/\h.fits r
theorem FaH.tm{H:His}:∀r t,FaH H r->FaH H {r with tm:=t}:=fun r t ⟨h,h1,x,h2,h3,h4⟩=>⟨h,h1,x,h2,h3,h4⟩
def fT(H:His):List Nat:=H.map Hb.last
def Hb.add(h:Hb)(x:Nt)(v:Nat):Hb:=⟨h.w++[(x,v)],h.s⟩
def pg(H:His)(b:Nat)(x:Nt)(v:Nat):His:=H.modify b fun h=>h.add x v
def my(H:His):His:=H.map fun h=>⟨h.w,h.w.length⟩
theorem Hb.Ok.add{h:Hb}(hk:h.Ok i){x:Nt}(hx:x.Ok)(hkd:x.kd % 4=0\/x.kd % 4=1):(h.add x (i+1)).Ok (i+1) where
 up:=by
  rw[Hb.add,List.pairwise_append]
  refine⟨hk.up,List.pairwise_singleton _ _,fun a ha b hb=>?_⟩
  rw[List.mem_singleton]at hb
  subst hb
  have:=(hk.lo a ha).2
  show a.2<i+1
  omega
 lo:=fun y hy=>by
  rcases List.mem_append.1 hy with hy|hy
  ·have:=hk.lo y hy
   exact⟨this.1,by omega⟩
  ·rw[List.mem_singleton]at hy
   subst hy
   exact⟨by show 1<=i+1;omega,Nat.le_refl _⟩
 nt:=fun y hy=>by
  rcases List.mem_append.1 hy with hy|hy
  ·exact hk.nt y hy
  ·rw[List.mem_singleton]at hy
   subst hy
   exact⟨hx,hkd⟩
 s:=by
  show h.s<=(h.w++[(x,i+1)]).length
  rw[List.length_append]
  have:=hk.s
  omega
theorem Hb.Ok.mono{h:Hb}(hk:h.Ok i)(hij:i<=j):h.Ok j:=⟨hk.up,fun x hx=>⟨(hk.lo x hx).1,Nat.le_trans (hk.lo x hx).2 hij⟩,hk.nt,hk.s⟩
theorem Hb.HT(h:Hb)(x:Nt)(v:Nat):(h.add x v).last=v:=by simp[Hb.add,Hb.last]
theorem Hb.K9{h:Hb}(hk:h.Ok i):h.last<=i:=by
 unfold Hb.last
 split
 ·rename_i x hx
  exact(hk.lo x (List.mem_of_getLast? hx)).2
 ·exact Nat.zero_le _
theorem AD{H:His}(x:Nt)(v:Nat):fT (pg H b x v)=(fT H).set b v:=by
 apply List.ext_getElem?
 intro j
 rw[fT,fT,pg,List.getElem?_map,List.getElem?_modify,List.getElem?_set,List.getElem?_map]
 by_cases hj:b=j
 ·subst hj
  by_cases hb:b<H.length
  ·simp[List.getElem?_eq_getElem hb,Hb.HT,hb]
  ·simp[List.getElem?_eq_none (Nat.le_of_not_lt hb),hb]
 ·simp[hj]
theorem FaH.add{H:His}{x:Nt}:∀r,FaH H r->FaH (pg H b x v) r:=fun r ⟨h,h1,y,h2,h3,h4⟩=>by
 by_cases hb:b=r.blk
 ·refine⟨h.add x v,?_,y,List.mem_append_left _ h2,h3,h4⟩
  simp[pg,List.getElem?_modify,h1,hb]
 ·refine⟨h,?_,y,h2,h3,h4⟩
  simp[pg,List.getElem?_modify,h1,hb]
theorem FaH.new{H:His}(hb:b<H.length){x:Nt}{kd tm:Nat}{ds:List Nat}(h:(x.kd % 4=0/\kd=1/\ds=x.ds)\/(x.kd % 4=1/\kd=2)):FaH (pg H b x v) ⟨kd,b,v,ds,tm⟩:=by
 refine⟨H[b].add x v,?_,(x,v),by simp[Hb.add],rfl,h⟩
 show(pg H b x v)[b]?=_
 simp[pg,List.getElem?_modify,List.getElem?_eq_getElem hb]
theorem Hb.Ok.len{h:Hb}(hk:h.Ok i):h.w.length<=i+1:=by
 have hnd:(h.w.map (·.2)).Nodup:=by
  rw[List.Nodup,List.pairwise_map]
  exact hk.up.imp fun h=>by omega
 have:=List.Nodup.length_le_of_subset hnd (l₂:=List.range (i+1)) fun v hv=>by
  obtain⟨x,hx,rfl⟩:=List.mem_map.1 hv
  have:=(hk.lo x hx).2
  exact List.mem_range.2 (by omega)
 simpa using this
theorem Hb.Ot{h:Hb}(hk:h.Ok i)(x:Nt)(v:Nat):(h.add x v).fl=h.fl:=by
 unfold Hb.fl
 show(if h.s=0 then 0 else match(h.w++[(x,v)])[h.s-1]? with|some x=>x.2|none=>0)=_
 by_cases h0:h.s=0
 ·rw[if_pos h0,if_pos h0]
 ·have:=hk.s
  rw[if_neg h0,if_neg h0,List.getElem?_append_left (by omega)]
def gC(h:Hb)(err:Nat)(ds:List Nat):Bool:=(decide (err=9)&&decide (h.s=0)) || (List.range h.w.length).any fun j=>match h.w[j]? with
 |some x=>decide (h.s<=j+1)&&((decide (x.1.kd % 4=0)&&decide (err=0)&&decide (x.1.ds=ds)) || (decide (x.1.kd % 4=1)&&decide (err=9)))
 |none=>false
theorem rO{h:Hb}(hk:h.Ok i){r:Rec}(hf:h.fits r)(hv:h.fl<=r.ver):gC h (if r.kd=1 then 0 else 9) r.ds=true:=by
 obtain⟨x,hx,hxv,hc⟩:=hf
 obtain⟨j,hj,hjx⟩:=List.mem_iff_getElem.1 hx
 have hs:h.s<=j+1:=by
  by_cases h0:h.s=0
  ·omega
  ·have hsl:=hk.s
   have hlt:h.s-1<h.w.length:=by omega
   have e:h.fl=h.w[h.s-1].2:=by rw[Hb.fl,if_neg h0,List.getElem?_eq_getElem hlt]
   rcases Nat.lt_or_ge j (h.s-1)with hlt2|hge
   ·have:=List.pairwise_iff_getElem.1 hk.up j (h.s-1) hj hlt hlt2
    rw[hjx]at this
    omega
   ·omega
 unfold gC
 rw[Bool.or_eq_true]
 right
 rw[List.any_eq_true]
 refine⟨j,List.mem_range.2 hj,?_⟩
 rw[List.getElem?_eq_getElem hj]
 simp only[hjx]
 rcases hc with⟨c1,c2,c3⟩|⟨c1,c2⟩
 ·simp[hs,c1,c2,c3]
 ·simp[hs,c1,c2]
theorem vQ{h:Hb}(h0:h.s=0)(ds:List Nat):gC h 9 ds=true:=by simp[gC,h0]
variable{E:Nat->Option AFn}{Y:Nat->List Value->FM->Nat->OR FM}
def vO(ln:Nat->Nat)(k:Nat)(ss:List Nat)(j:Nat):List Nat:=(List.range j).foldl (fun s t=>s.set (k*6+t) (ln t)) ss
theorem qL(ln:Nat->Nat)(k:Nat)(ss:List Nat)(j:Nat):vO ln k ss (j+1)=(vO ln k ss j).set (k*6+j) (ln j):=by
 rw[vO,List.range_succ,List.foldl_append];rfl
theorem pI(ln:Nat->Nat)(k:Nat)(ss:List Nat):∀j,(vO ln k ss j).length=ss.length
 |0=>rfl
 |j+1=>by rw[qL,List.length_set,pI ln k ss j]
theorem tO(ln:Nat->Nat)(k:Nat)(ss:List Nat)(i:Nat):∀j,(vO ln k ss j)[i]?=if k*6<=i/\i<k*6+j/\i<ss.length then some (ln (i-k*6))else ss[i]?
 |0=>by rw[if_neg (by omega)];rfl
 |j+1=>by
  rw[qL,List.getElem?_set,pI,tO ln k ss i j]
  by_cases h:k*6+j=i
  ·subst h
   by_cases h2:k*6+j<ss.length
   ·rw[if_pos rfl,if_pos h2,if_pos (by omega),Nat.add_sub_cancel_left]
   ·rw[if_pos rfl,if_neg h2,if_neg (by omega),List.getElem?_eq_none (by omega)]
  ·rw[if_neg h]
   by_cases h2:k*6<=i/\i<k*6+j/\i<ss.length
   ·rw[if_pos h2,if_pos (by omega)]
   ·rw[if_neg h2,if_neg (by omega)]
theorem KG{n1 k WB SB:Nat}{M1:FM}{ws:List Value}{ss:List Nat}{ln:Nat->Nat}(hk:k<2)(hW:WB<n1/\WB≠SB)(hwm:M1 WB=some (.cells ws 0 false true))(hS:SB<n1)(hsl:ss.length=12)(hln:∀j,j<6->∃v,fh ws (k*6+j)=some v/\jS false v=some (.int .i64 (ln j:Int))/\et n1 v=true)(x2 x3 x4 x5 x6 x7 x8 x9 x10 x11 x12 x13 x14 x15 x16 x17 x18 x19 x20 x21 x22 x23 x24 x25 x27 x28 x29 x30 x31 x34 x35 x36 x37 x38 x39 x40 x41 x42 x43 x44 x45 x46:Value)
  (hQ:∀x0 x1 M w,(∀b,b≠SB->M b=M1 b)->(∀b,b≠SB->Nat.testBit w b=false)->M SB=some (.cells (ef (vO ln k ss 6)) 0 false true)->Q (.exit 7) [x0,x1,x2,x3,x4,x5,x6,x7,x8,x9,x10,x11,x12,x13,x14,x15,x16,x17,x18,x19,x20,x21,x22,x23,x24,x25,.int .i64 (k:Int),x27,x28,x29,x30,x31,.pointer (some ⟨SB,0,none⟩),.pointer (some ⟨WB,0,none⟩),x34,x35,x36,x37,x38,x39,x40,x41,x42,x43,x44,x45,x46] M n1 w):
  ∀(d j:Nat),j+d=6->∀(x1:Value) (M:FM) (w0:Nat),(∀b,b≠SB->M b=M1 b)->(∀b,b≠SB->Nat.testBit w0 b=false)->M SB=some (.cells (ef (vO ln k ss j)) 0 false true)->
  Gv (dt PG EL Y EZ [.int .i64 (j:Int),x1,x2,x3,x4,x5,x6,x7,x8,x9,x10,x11,x12,x13,x14,x15,x16,x17,x18,x19,x20,x21,x22,x23,x24,x25,.int .i64 (k:Int),x27,x28,x29,x30,x31,.pointer (some ⟨SB,0,none⟩),.pointer (some ⟨WB,0,none⟩),x34,x35,x36,x37,x38,x39,x40,x41,x42,x43,x44,x45,x46] M n1) fun X e m n w=>Q X e m n (Nat.lor w0 w):=by
 obtain⟨hW1,hW2⟩:=hW
 intro d
 induction d with
 |zero=>
  intro j hj x1 M w0 hM hw hs
  refine dm (L:=EZ) (b:=vE) rfl ?_
  simp only[vE]
  obtain rfl:j=6:=by omega
  simp -implicitDefEqProofs (disch:=omega)only[W2,dd,Nat.testBit,Nat.reduceAdd,Nat.reduceShiftRight,Nat.reduceAnd,Nat.reduceBNe,Nat.reduceMul]
  exact hQ _ _ _ _ hM hw hs
 |succ d ih=>
  intro j hj x1 M w0 hM hw hs
  have hwM:=(hM WB hW2).trans hwm
  obtain⟨v,hv1,hv2,hv3⟩:=hln j (by omega)
  have hset:=yf (vO ln k ss j) (k*6+j) (ln j) (by rw[pI];omega)
  rw[<-qL]at hset
  refine dm (L:=EZ) (b:=vE) rfl ?_
  simp only[vE]
  simp -implicitDefEqProofs (disch:=omega)only[W2,dd,Nat.testBit,Nat.reduceAdd,Nat.reduceShiftRight,Nat.reduceAnd,Nat.reduceBNe,Nat.reduceMul,hwM,hv1,hv2,hv3,hs,hset]
  refine dM (ih (j+1) (by omega) _ _ (Nat.lor w0 (bit SB)) (fun b hb=>by rw[dc _ _ _ _ hb,hM b hb]) (fun b hb=>by rw[c9,hw b hb,dh hb];rfl) (de _ _ _)) fun X e m n w hq=>?_
  rw[<-dy]
  exact hq
structure LC where
 n0:Nat
 LB:Nat
 DB:Nat
 VB:Nat
 WB:Nat
 SB:Nat
def iL(M:FM)(n0:Nat)(v:Value)(l:List Nt):Prop:=
 jS false v=some (.int .i64 (l.length:Int))/\(∀n,n0<=n->et n v=true)/\Am.one v=true/\∀j,(h:j<l.length)->∃b o c s op w rest,fU 10 j v=some (.pointer (some ⟨b,o,none⟩))/\b<n0/\M b=some (.cells c s op w)/\lE c o=l[j].cells++rest
def WL(M:FM)(K N a b:Nat)(v:Value)(l:List Nt):Prop:=SlZ 10 M K N v l.length (eE l)/\∀x n c,v=.slice (some ⟨x,0,none⟩) n c->x≠a/\x≠b
structure LM(c:LC)(k:Nat)(A B:Ids)(lv lv':Value)(L L':List Nt)(HA HB:His)(a b:Nat)(M0 M:FM)(N:Nat)(ws:List Value)(ss:List Nat):Prop where
 k2:k<2
 P:A.P=B.P
 K:A.K=B.K
 wl:ws.length=12
 sl:ss.length=12
 wb:M c.WB=some (.cells ws 0 false true)
 sb:M c.SB=some (.cells (ef ss) 0 false true)
 wA:∀(j:Nat) h,HA[j]?=some h->∃v,ws[k*6+j]?=some v/\WL M A.K N a b v (h.w.map (·.1))
 wB:∀(j:Nat) h,HB[j]?=some h->∃v,ws[(1-k)*6+j]?=some v/\WL M A.K N a b v (h.w.map (·.1))
 sA:∀(j:Nat) h,HA[j]?=some h->ss[k*6+j]?=some h.s
 sB:∀(j:Nat) h,HB[j]?=some h->ss[(1-k)*6+j]?=some h.s
 dj:∀(j1 j2 x:Nat) n1 c1 n2 c2,j1≠j2->ws[j1]?=some (.slice (some ⟨x,0,none⟩) n1 c1)->ws[j2]?=some (.slice (some ⟨x,0,none⟩) n2 c2)->False
 lt:∀(j x:Nat) n1 c1,ws[j]?=some (.slice (some ⟨x,0,none⟩) n1 c1)->x<N
 fix:∀x,x<A.sd->x<B.sd->x≠A.P->M x=M0 x
 gap:(A.EN<c.WB/\B.EN<c.WB/\c.WB<A.K)/\(A.EN<c.SB/\B.EN<c.SB/\c.SB<A.K)/\c.WB≠c.SB
 lo:c.n0<=A.P/\(c.n0<=c.LB/\c.LB<A.sd/\c.LB<B.sd/\c.LB≠A.P)/\(c.VB<A.sd/\c.VB<B.sd/\c.VB≠A.P)/\(c.DB<A.sd/\c.DB<B.sd/\c.DB≠A.P)
 vb:∃vs,M0 c.VB=some (.cells vs 0 false true)/\fh vs k=some (.pointer (some ⟨A.R,0,none⟩))/\fh vs (1-k)=some (.pointer (some ⟨B.R,0,none⟩))
 db:∃vs,M0 c.DB=some (.cells vs 0 false true)/\fh vs k=some (.pointer (some ⟨A.D,0,none⟩))/\fh vs (1-k)=some (.pointer (some ⟨B.D,0,none⟩))
 lb:∃vs,M0 c.LB=some (.cells vs 0 false true)/\fh vs k=some lv/\fh vs (1-k)=some lv'
 inA:iL M0 c.n0 lv L
 inB:iL M0 c.n0 lv' L'
 ntA:∀x∈L,x.Ok
 ntB:∀x∈L',x.Ok
theorem LM.swap{c:LC}{L L':List Nt}{HA HB:His}(h:LM c k A B lv lv' L L' HA HB a b M0 M N ws ss):LM c (1-k) B A lv' lv L' L HB HA b a M0 M N ws ss:=by
 have hk:=h.k2
 have e:1-(1-k)=k:=by omega
 have hK:=h.K
 have hP:=h.P
 have sym:∀{v l},WL M A.K N a b v l->WL M B.K N b a v l:=fun{v l} hw=>⟨by rw[<-hK];exact hw.1,fun x n c e=>(hw.2 x n c e).symm⟩
 obtain⟨g1,g2,g3⟩:=h.gap
 obtain⟨o1,o2,o3,o4⟩:=h.lo
 exact{
  k2:=by omega
  P:=hP.symm
  K:=hK.symm
  wl:=h.wl
  sl:=h.sl
  wb:=h.wb
  sb:=h.sb
  wA:=fun j x hx=>let⟨v,h1,h2⟩:=h.wB j x hx;⟨v,h1,sym h2⟩
  wB:=fun j x hx=>let⟨v,h1,h2⟩:=h.wA j x hx;⟨v,by rw[e];exact h1,sym h2⟩
  sA:=h.sB
  sB:=fun j x hx=>by rw[e];exact h.sA j x hx
  dj:=h.dj
  lt:=h.lt
  fix:=fun x h1 h2 h3=>h.fix x h2 h1 (by omega)
  gap:=⟨⟨g1.2.1,g1.1,by omega⟩,⟨g2.2.1,g2.1,by omega⟩,g3⟩
  lo:=⟨by omega,⟨o2.1,o2.2.2.1,o2.2.1,by omega⟩,⟨o3.2.1,o3.1,by omega⟩,⟨o4.2.1,o4.1,by omega⟩⟩
  vb:=let⟨vs,h1,h2,h3⟩:=h.vb;⟨vs,h1,h3,by rw[e];exact h2⟩
  db:=let⟨vs,h1,h2,h3⟩:=h.db;⟨vs,h1,h3,by rw[e];exact h2⟩
  lb:=let⟨vs,h1,h2,h3⟩:=h.lb;⟨vs,h1,h3,by rw[e];exact h2⟩
  inA:=h.inB
  inB:=h.inA
  ntA:=h.ntB
  ntB:=h.ntA}
theorem LM.op{c:LC}{L L':List Nt}{HA HB:His}{a':Nat}{w:Nat}(h:LM c k A B lv lv' L L' HA HB a b M0 M N ws ss)(hA:A.P<A.sd/\A.sd<A.EN/\A.EN<A.K/\A.K<=N)(ha:A.K<=a\/a=A.sd)(hN:N<=N')(hf:Fr A.P A.sd A.EN a N M M' w)(ha':a'=a\/N<=a'):LM c k A B lv lv' L L' HA HB a' b M0 M' N' ws ss:=by
 obtain⟨a1,a2,a3,a4⟩:=hA
 obtain⟨g1,g2,g3⟩:=h.gap
 have hWL:∀{v l},WL M A.K N a b v l->WL M' A.K N' a' b v l:=fun{v l} hw=>by
  obtain⟨w1,w2⟩:=hw
  rcases w1 with⟨z1,z2,rfl⟩|⟨z1,z2,x,rfl,z3,z4,z5⟩
  ·exact⟨.inl ⟨z1,z2,rfl⟩,fun x n c e=>by cases e⟩
  ·have:=w2 x _ _ rfl
   exact⟨.inr ⟨z1,z2,x,rfl,z3,by omega,(hf x z4 (by omega) (by omega) this.1).1.trans z5⟩,fun y n c e=>by
    injection e with e
    injection e with e
    injection e with e
    subst e
    omega⟩
 exact{h with
  wb:=(hf _ (by omega) (by omega) (by omega) (by omega)).1.trans h.wb
  sb:=(hf _ (by omega) (by omega) (by omega) (by omega)).1.trans h.sb
  wA:=fun j x hx=>let⟨v,h1,h2⟩:=h.wA j x hx;⟨v,h1,hWL h2⟩
  wB:=fun j x hx=>let⟨v,h1,h2⟩:=h.wB j x hx;⟨v,h1,hWL h2⟩
  lt:=fun j x n1 c1 e=>Nat.lt_of_lt_of_le (h.lt j x n1 c1 e) hN
  fix:=fun x h1 h2 h3=>(hf x (by omega) h3 (by omega) (by omega)).1.trans (h.fix x h1 h2 h3)}
theorem pT(l:List Nt)(x:Nt):eE (l++[x])=eE l++x.cells:=by simp[eE]
theorem qu{H:His}{x:Nt}{h:Hb}(hj:(pg H b x v)[j]?=some h):∃h0,H[j]?=some h0/\((j=b/\h=h0.add x v)\/(j≠b/\h=h0)):=by
 rw[pg,List.getElem?_modify]at hj
 cases hh:H[j]? with
 |none=>rw[hh]at hj;cases hj
 |some h0=>
  rw[hh]at hj
  have hj:some (if b=j then h0.add x v else h0)=some h:=hj
  injection hj with hj
  refine⟨h0,rfl,?_⟩
  by_cases e:b=j
  ·rw[if_pos e]at hj;exact .inl ⟨e.symm,hj.symm⟩
  ·rw[if_neg e]at hj;exact .inr ⟨Ne.symm e,hj.symm⟩
theorem BG{sz:Nat}{n0 bytes:Nat}{v:Value}{len:Nat}{cs zs:List Value}(h:SlZ sz M n0 N v len cs)(ya:Option Addr)(yc ry:Nat)(h0:n0<=N)(hsz:0<sz)(hzl:zs.length=sz)(hz:zs.all Am.one=true)(hby:0<bytes)(hl:(len+1)*bytes<=140737488355328):
  Rt (jq sz bytes M N v (.slice ya 1 yc) (shown M N sz v) (some (zs,ry))) fun v' M' N' w=>AppZ sz M n0 N (len+1) (cs++zs) v' M' N' w/\M' N=some (.cells (cs++zs) sz true true)/\∀k,k<N->(∀n c,v≠.slice (some ⟨k,0,none⟩) n c)->M' k=M k:=by
 rcases h with⟨rfl,rfl,rfl⟩|⟨hp,hcl,b,rfl,hb,hbN,hM⟩
 ·rw[gJ,fF,fy]
  have hl':(0+1)*bytes<=140737488355328:=by simpa using hl
  rw[show(zs,ry).1.all Am.one=true from hz,dC hsz,dC hby,ep hl',iK (by omega)]
  exact⟨⟨rfl,rfl,.inr ⟨by omega,by simp[hzl],N,rfl,h0,by omega,de _ _ _⟩,fun b hb=>dc _ _ _ _ (by omega),fun j hj=>dE (by omega)⟩,de _ _ _,fun k h1 h2=>dc _ _ _ _ (by omega)⟩
 ·rw[fZ hp,eS (by omega),hM,gd,Nat.beq_refl,eU,gr,fw hcl.symm]
  show Rt (jq sz bytes M N _ _ (some (cs,bit b)) _) _
  rw[fF,fy]
  rw[show(zs,ry).1.all Am.one=true from hz,dC hsz,dC hby,ep hl,iJ,eS (by omega),hM,jz]
  exact⟨⟨rfl,rfl,.inr ⟨by omega,by rw[List.length_append,hcl,hzl,Nat.add_mul,Nat.one_mul],N,rfl,h0,by omega,de _ _ _⟩,fun k hk=>by rw[dc _ _ _ _ (by omega),dc _ _ _ _ (by omega)],fun j hj=>by rw[eL];exact⟨dE (by omega),dE (by omega)⟩⟩,de _ _ _,fun k h1 h2=>by
   have hkb:k≠b:=by rintro rfl;exact h2 _ _ rfl
   rw[dc _ _ _ _ (by omega),dc _ _ _ _ hkb]⟩
theorem LM.add{c:LC}{L L':List Nt}{HA HB:His}{M':FM}{N':Nat}(h:LM c k A B lv lv' L L' HA HB a b M0 M N ws ss)(hlt:A.sd<A.EN/\A.EN<A.K/\A.K<=N/\a<N/\b<N)(hj:j<6){x:Nt}(hxl:x.cells.length=10)(hlB:HB.length=6){ver:Nat}{h0:Hb}(h0j:HA[j]?=some h0){v v':Value}(hv:ws[k*6+j]?=some v)
  (hN:N<=N') (hv':∃y,v'=.slice (some ⟨y,0,none⟩) (h0.w.length+1) UNK/\N<=y/\y<N'/\M' y=some (.cells (eE (h0.w.map (·.1))++x.cells) 10 true true)) (hwb:M' c.WB=some (.cells (ws.set (k*6+j) v') 0 false true)) (hf:∀z,z<N->z≠c.WB->(∀n c,v≠.slice (some ⟨z,0,none⟩) n c)->M' z=M z):
  LM c k A B lv lv' L L' (pg HA j x ver) HB a b M0 M' N' (ws.set (k*6+j) v') ss/\∀x c' s o w,x<N->¬(A.EN<x/\B.EN<x/\x<A.K)->s≠10->M x=some (.cells c' s o w)->M' x=some (.cells c' s o w):=by
 obtain⟨l1,l2,l3,l4,l5⟩:=hlt
 obtain⟨g1,g2,g3⟩:=h.gap
 have hk2:=h.k2
 obtain⟨y,rfl,hy1,hy2,hy3⟩:=hv'
 obtain⟨v0,e0,hW0⟩:=h.wA j h0 h0j
 rw[hv]at e0
 injection e0 with e0
 subst e0
 have hKv:∀z n c,v=.slice (some ⟨z,0,none⟩) n c->A.K<=z/\z<N/\∃cs,M z=some (.cells cs 10 true true):=fun z n c e=>by
  rcases hW0.1 with⟨_,_,e1⟩|⟨_,_,y,e1,e2,e3,e4⟩
  ·rw[e1]at e;cases e
  ·rw[e1]at e
   injection e with e
   injection e with e
   injection e with e
   subst e
   exact⟨e2,e3,_,e4⟩
 have other:∀(i:Nat) u l,ws[i]?=some u->i≠k*6+j->WL M A.K N a b u l->WL M' A.K N' a b u l:=fun i u l hi hne hw=>by
  obtain⟨w1,w2⟩:=hw
  refine⟨?_,w2⟩
  rcases w1 with z|⟨z1,z2,z,rfl,z3,z4,z5⟩
  ·exact .inl z
  ·exact .inr ⟨z1,z2,z,rfl,z3,by omega,(hf z z4 (by omega) fun n c e=>h.dj i (k*6+j) z _ _ n c hne hi (by rw[hv,e])).trans z5⟩
 have new:WL M' A.K N' a b (.slice (some ⟨y,0,none⟩) (h0.w.length+1) UNK) ((h0.add x ver).w.map (·.1)):=by
  refine⟨.inr ⟨by simp[Hb.add],?_,y,by simp[Hb.add],by omega,hy2,?_⟩,fun z n c e=>by
   injection e with e
   injection e with e
   injection e with e
   subst e
   omega⟩
  ·have:(eE (h0.w.map (·.1))).length=h0.w.length*10\/h0.w=[]:=by
    rcases hW0.1 with⟨z1,_,_⟩|⟨_,z2,_⟩
    ·right;exact List.map_eq_nil_iff.1 (List.length_eq_zero_iff.1 z1)
    ·left;rw[List.length_map]at z2;exact z2
   rw[show(h0.add x ver).w.map (·.1)=h0.w.map (·.1)++[x] by simp[Hb.add],pT,List.length_append,List.length_append,hxl]
   rcases this with e|e
   ·rw[e];simp;omega
   ·simp[e,eE]
  ·rw[hy3,show(h0.add x ver).w.map (·.1)=h0.w.map (·.1)++[x] by simp[Hb.add],pT]
 refine⟨{h with
  wl:=by rw[List.length_set];exact h.wl
  wb:=hwb
  sb:=(hf _ (by omega) (Ne.symm g3) fun n c e=>by have:=(hKv _ n c e).1;omega).trans h.sb
  wA:=fun j' h' hj'=>by
   obtain⟨h1,e1,e2⟩:=qu hj'
   rcases e2 with⟨rfl,rfl⟩|⟨e2,rfl⟩
   ·rw[h0j]at e1
    injection e1 with e1
    subst e1
    exact⟨_,by rw[List.getElem?_set_self (by rw[h.wl];omega)],new⟩
   ·obtain⟨u,u1,u2⟩:=h.wA j' _ e1
    exact⟨u,by rw[List.getElem?_set_ne (by omega)];exact u1,other _ u _ u1 (by omega) u2⟩
  wB:=fun j' h' hj'=>by
   obtain⟨u,u1,u2⟩:=h.wB j' _ hj'
   have hj6:=(List.getElem?_eq_some_iff.1 hj').1
   have hne:(1-k)*6+j'≠k*6+j:=by omega
   exact⟨u,by rw[List.getElem?_set_ne (Ne.symm hne)];exact u1,other _ u _ u1 hne u2⟩
  sA:=fun j' h' hj'=>by
   obtain⟨h1,e1,e2⟩:=qu hj'
   have:=h.sA j' h1 e1
   rcases e2 with⟨_,rfl⟩|⟨_,rfl⟩
   ·exact this
   ·exact this
  dj:=fun j1 j2 z n1 c1 n2 c2 hne q1 q2=>by
   rw[List.getElem?_set]at q1 q2
   by_cases e1:k*6+j=j1
   ·rw[if_neg (by omega)]at q2
    rw[if_pos e1]at q1
    split at q1
    ·injection q1 with q1
     injection q1 with q1
     injection q1 with q1
     injection q1 with q1
     have:=h.lt _ _ _ _ q2
     omega
    ·cases q1
   ·rw[if_neg e1]at q1
    by_cases e2:k*6+j=j2
    ·rw[if_pos e2]at q2
     split at q2
     ·injection q2 with q2
      injection q2 with q2
      injection q2 with q2
      injection q2 with q2
      have:=h.lt _ _ _ _ q1
      omega
     ·cases q2
    ·rw[if_neg e2]at q2
     exact h.dj j1 j2 z n1 c1 n2 c2 hne q1 q2
  lt:=fun i z n1 c1 q=>by
   rw[List.getElem?_set]at q
   split at q
   ·split at q
    ·injection q with q
     injection q with q
     injection q with q
     injection q with q
     omega
    ·cases q
   ·have:=h.lt _ _ _ _ q
    omega
  fix:=fun z h1 h2 h3=>(hf z (by omega) (by omega) fun n c e=>by have:=(hKv _ n c e).1;omega).trans (h.fix z h1 h2 h3)},fun z c' s o w h1 h2 h3 h4=>?_⟩
 rw[hf z h1 (by omega) fun n c e=>by
  obtain⟨_,_,cs,e2⟩:=hKv z n c e
  rw[e2]at h4
  injection h4 with h4
  injection h4 with _ h4
  exact h3 h4.symm]
 exact h4
theorem LM.safe{c:LC}{L L':List Nt}{HA HB:His}{M':FM}(h:LM c k A B lv lv' L L' HA HB a b M0 M N ws ss)(hlt:A.sd<A.EN/\A.EN<A.K/\A.K<=N)(hlA:HA.length=6)(hlB:HB.length=6){ln:Nat->Nat}(hln:∀(j:Nat) x,HA[j]?=some x->ln j=x.w.length)(hsb:M' c.SB=some (.cells (ef (vO ln k ss 6)) 0 false true))(hf:∀z,z≠c.SB->M' z=M z):
  LM c k A B lv lv' L L' (my HA) HB a b M0 M' N ws (vO ln k ss 6)/\∀x c' s o w,x<N->¬(A.EN<x/\B.EN<x/\x<A.K)->s≠10->M x=some (.cells c' s o w)->M' x=some (.cells c' s o w):=by
 obtain⟨l1,l2,l3⟩:=hlt
 obtain⟨g1,g2,g3⟩:=h.gap
 have hk2:=h.k2
 have hget:∀(j:Nat) y,(my HA)[j]?=some y->∃x,HA[j]?=some x/\y=⟨x.w,x.w.length⟩:=fun j y hy=>by
  rw[my,List.getElem?_map]at hy
  cases hj:HA[j]? with
  |none=>rw[hj]at hy;cases hy
  |some x=>
   rw[hj]at hy
   injection hy with hy
   exact⟨x,rfl,hy.symm⟩
 have hWL:∀{v l},WL M A.K N a b v l->WL M' A.K N a b v l:=fun{v l} hw=>by
  obtain⟨w1,w2⟩:=hw
  refine⟨?_,w2⟩
  rcases w1 with z|⟨z1,z2,x,e,z3,z4,z5⟩
  ·exact .inl z
  ·exact .inr ⟨z1,z2,x,e,z3,z4,(hf x (by omega)).trans z5⟩
 refine⟨{h with
  sl:=by rw[pI];exact h.sl
  wb:=(hf _ g3).trans h.wb
  sb:=hsb
  wA:=fun j y hy=>by
   obtain⟨x,e1,rfl⟩:=hget j y hy
   obtain⟨v,v1,v2⟩:=h.wA j x e1
   exact⟨v,v1,hWL v2⟩
  wB:=fun j y hy=>let⟨v,h1,h2⟩:=h.wB j y hy;⟨v,h1,hWL h2⟩
  sA:=fun j y hy=>by
   obtain⟨x,e1,rfl⟩:=hget j y hy
   have hj:=(List.getElem?_eq_some_iff.1 e1).1
   rw[tO,if_pos ⟨by omega,by omega,by rw[h.sl];omega⟩,Nat.add_sub_cancel_left,hln j x e1]
  sB:=fun j y hy=>by
   have hj:=(List.getElem?_eq_some_iff.1 hy).1
   rw[tO,if_neg (by omega)]
   exact h.sB j y hy
  fix:=fun z h1 h2 h3=>(hf z (by omega)).trans (h.fix z h1 h2 h3)},fun z c' s o w h1 h2 h3 h4=>(hf z (by omega)).trans h4⟩
theorem nc{x:Nt}(h:x.Ok):∃d0 d1 d2 d3 d4 d5 d6 d7:Nat,x.ds=[d0,d1,d2,d3,d4,d5,d6,d7]/\x.cells=[.int .u8 (x.kd:Int),.int .u8 (x.blk:Int),.int .u8 (d0:Int),.int .u8 (d1:Int),.int .u8 (d2:Int),.int .u8 (d3:Int),.int .u8 (d4:Int),.int .u8 (d5:Int),.int .u8 (d6:Int),.int .u8 (d7:Int)]:=by
 obtain⟨d0,d1,d2,d3,d4,d5,d6,d7,hd⟩:=eight h.dl
 exact⟨d0,d1,d2,d3,d4,d5,d6,d7,hd,by rw[Nt.cells,hd];rfl⟩
structure PH(HA HB:His)(fA fB:Nat->Nat)(i iB:Nat):Prop where
 lA:HA.length=6
 lB:HB.length=6
 okA:∀h∈HA,h.Ok i
 okB:∀h∈HB,h.Ok iB
 flA:∀(j:Nat) h,HA[j]?=some h->h.fl<=fA j
 flB:∀(j:Nat) h,HB[j]?=some h->h.fl<=fB j
theorem PH.last{HA HB:His}(h:PH HA HB fA fB i iB)(j:Nat):∀v,(fT HA)[j]?=some v->v<=i+1:=fun v hv=>by
 rw[fT,List.getElem?_map]at hv
 cases hj:HA[j]? with
 |none=>rw[hj]at hv;cases hv
 |some x=>
  rw[hj]at hv
  injection hv with hv
  have:=Hb.K9 (h.okA x (List.mem_of_getElem? hj))
  omega
theorem PH.add{HA HB:His}(h:PH HA HB fA fB i iB){x:Nt}(hx:x.Ok)(hk:x.kd % 4=0\/x.kd % 4=1):PH (pg HA j x (i+1)) HB fA fB (i+1) iB where
 lA:=by rw[pg,List.length_modify];exact h.lA
 lB:=h.lB
 okA:=fun y hy=>by
  obtain⟨n,hn⟩:=List.mem_iff_getElem?.1 hy
  obtain⟨y0,e1,e2⟩:=qu hn
  have:=h.okA y0 (List.mem_of_getElem? e1)
  rcases e2 with⟨_,rfl⟩|⟨_,rfl⟩
  ·exact this.add hx hk
  ·exact this.mono (Nat.le_succ _)
 okB:=h.okB
 flA:=fun n y hn=>by
  obtain⟨y0,e1,e2⟩:=qu hn
  have hok:=h.okA y0 (List.mem_of_getElem? e1)
  have:=h.flA n y0 e1
  rcases e2 with⟨_,rfl⟩|⟨_,rfl⟩
  ·rw[Hb.Ot hok];exact this
  ·exact this
 flB:=h.flB
theorem wy{H:His}{y:Hb}(hy:(my H)[j]?=some y):∃x,H[j]?=some x/\y=⟨x.w,x.w.length⟩:=by
 rw[my,List.getElem?_map]at hy
 cases hj:H[j]? with
 |none=>rw[hj]at hy;cases hy
 |some x=>
  rw[hj]at hy
  injection hy with hy
  exact⟨x,rfl,hy.symm⟩
theorem Cz(H:His):fT (my H)=fT H:=by
 rw[fT,my,List.map_map];rfl
theorem FaH.safe{H:His}:∀r,FaH H r->FaH (my H) r:=fun r ⟨h,h1,x,h2,h3⟩=>⟨⟨h.w,h.w.length⟩,by rw[my,List.getElem?_map,h1];rfl,x,h2,h3⟩
theorem PH.safe{HA HB:His}(h:PH HA HB fA fB i iB):PH (my HA) HB (flV (fT HA)) fB i iB where
 lA:=by rw[my,List.length_map];exact h.lA
 lB:=h.lB
 okA:=fun y hy=>by
  obtain⟨n,hn⟩:=List.mem_iff_getElem?.1 hy
  obtain⟨x,e1,rfl⟩:=wy hn
  have:=h.okA x (List.mem_of_getElem? e1)
  exact⟨this.up,this.lo,this.nt,Nat.le_refl _⟩
 okB:=h.okB
 flA:=fun n y hn=>by
  obtain⟨x,e1,rfl⟩:=wy hn
  have e2:flV (fT HA) n=x.last:=by rw[flV,fT,List.getElem?_map,e1];rfl
  rw[e2,Hb.fl,Hb.last,List.getLast?_eq_getElem?]
  split
  ·exact Nat.zero_le _
  ·exact Nat.le_refl _
 flB:=h.flB
structure StR(c:LC)(k:Nat)(A B:Ids)(lv lv':Value)(L L':List Nt)(HB:His)(fB:Nat->Nat)(tb i iB:Nat)(M0:FM)(M:FM)(N w:Nat)(HA':His)(fA':Nat->Nat)(a' b':Nat)(p':Pw)(ws':List Value)(ss':List Nat):Prop where
 two:Two A B (FaH HA') (FaH HB) fA' fB (fT HA') (fT HB) tb a' b' M N p'
 lm:LM c k A B lv lv' L L' HA' HB a' b' M0 M N ws' ss'
 ph:PH HA' HB fA' fB i iB
 mask:∀x,x<c.n0->Nat.testBit w x=false
theorem Cb(x m:Nat)(hm:0<m):fN .rem .u8 (x:Int) (m:Int)=some (.int .u8 ((x % m:Nat):Int)):=by
 rw[H5,if_neg (by omega),Int.tmod_eq_emod_of_nonneg (by omega)];rfl
theorem NC(x:Nat)(h:x<256):iO .i64 (.int .u8 (x:Int))=some (.int .i64 (x:Int)):=by
 show some (Value.int .i64 (gn .i64 (x:Int)))=_
 rw[eW,wrap_i64 (by omega) (by omega)]
theorem sY(l:List Value)(j:Nat)(z:Value)(h:j<l.length):setCells l j [z]=some (l.set j z):=by
 rw[eh,if_pos (by simp;omega)]
 rw[List.set_eq_take_append_cons_drop,if_pos h]
 simp
theorem Two.later{tb':Nat}(h:Two A B FA FB fA fB vA vB tb a b M N p)(ht:tb<=tb'):Two A B FA FB fA fB vA vB tb' a b M N p:=
 ⟨h.da.mono (fun _ h=>h) ht id,h.db.mono (fun _ h=>h) ht id,h.pw,h.pi,h.ne,h.P,h.K,h.ap⟩
theorem PH.later{HA HB:His}(h:PH HA HB fA fB i iB)(hij:i<=j):PH HA HB fA fB j iB:=
 ⟨h.lA,h.lB,fun x hx=>(h.okA x hx).mono hij,h.okB,h.flA,h.flB⟩
theorem PH.swap{HA HB:His}(h:PH HA HB fA fB i iB):PH HB HA fB fA iB i:=⟨h.lB,h.lA,h.okB,h.okA,h.flB,h.flA⟩
theorem zQ(hU:YUp Y){c:LC}{L L':List Nt}{HA HB:His}(h2:Two A B (FaH HA) (FaH HB) fA fB (fT HA) (fT HB) tb a b M N p)(hm:LM c k A B lv lv' L L' HA HB a b M0 M N ws ss)(hp:PH HA HB fA fB i iB)(htb:tb<=40000)(hi:i<=40)(x1 x2 x4 x5 x8 x9 x11 x13 x14 x15 x16 x18 x19 x20:Value)
  (hQ:∀y1 y2 M' N' w HA' fA' a' p' ws' ss',StR c k A B lv lv' L L' HB fB (tb+400) (i+1) iB M0 M' N' w HA' fA' a' b p' ws' ss'->Q .norm [.int .i64 ((k+1:Nat):Int),y1,y2,.int .i64 (i:Int),x4,x5,.pointer (some ⟨c.SB,0,none⟩),.pointer (some ⟨c.WB,0,none⟩),x8,x9,.pointer (some ⟨c.VB,0,none⟩),x11,.pointer (some ⟨A.P,0,none⟩),x13,x14,x15,x16,.pointer (some ⟨c.LB,0,none⟩),x18,x19,x20] M' N' w):
  Gv (dt PG EL Y ny [.int .i64 (k:Int),x1,x2,.int .i64 (i:Int),x4,x5,.pointer (some ⟨c.SB,0,none⟩),.pointer (some ⟨c.WB,0,none⟩),x8,x9,.pointer (some ⟨c.VB,0,none⟩),x11,.pointer (some ⟨A.P,0,none⟩),x13,x14,x15,x16,.pointer (some ⟨c.LB,0,none⟩),x18,x19,x20] M N) Q:=by
 refine jf (Y:=Y) ?_
 obtain⟨o1,o2,o3,o4⟩:=hm.lo
 obtain⟨⟨h1,h2',h3,h4,h5,h6,h7,h8,h9⟩,hKN,haN,hak,hbN⟩:=h2.ids
 have hk2:=hm.k2
 obtain⟨lbv,hl1,hl2,_⟩:=hm.lb
 have mLB:=(hm.fix c.LB o2.2.1 o2.2.2.1 o2.2.2.2).trans hl1
 obtain⟨in1,in2,in3,in4⟩:=hm.inA
 simp only[Ids.to]at h1 h2' h3 h4 h5 h6 h7 h8 h9 hKN haN hak hbN
 have hbl:=in2 N (by omega)
 simp only[ny]
 by_cases hlt:i<L.length
 ·obtain⟨xb,xo,xc,xs,xop,xw,rest,e1,e2,e3,e4⟩:=in4 i hlt
  have hxok:=hm.ntA _ (List.getElem_mem hlt)
  obtain⟨d0,d1,d2,d3,d4,d5,d6,d7,hds,hcs⟩:=nc hxok
  have hsdB:A.P<B.sd:=by
   have:=h2.swap.ids.1.h1
   simp only[Ids.to]at this
   rw[h2.P];exact this
  have mX:=(hm.fix xb (by omega) (by omega) (by omega)).trans e3
  rw[hcs]at e4
  simp only[List.cons_append,List.nil_append]at e4
  have q1:=hxok.kd
  have q2:=hxok.blk
  have r6:=Cb L[i].blk 6 (by omega)
  have r4:=Cb L[i].kd 4 (by omega)
  have cv:=NC (L[i].blk % 6) (by omega)
  simp only[show((6:Nat):Int)=6 from rfl,show((4:Nat):Int)=4 from rfl]at r6 r4
  have hblk:L[i].blk % 6<6:=by omega
  generalize hbq:L[i].blk % 6=bq at *
  obtain⟨vbv,hvb1,hvb2,_⟩:=hm.vb
  have mVB:=(hm.fix c.VB o3.1 o3.2.1 o3.2.2).trans hvb1
  have hida1:∀X:Nat,(X+k*1)=X+k:=fun X=>by omega
  have hk4:L[i].kd % 4=0\/L[i].kd % 4=1\/L[i].kd % 4=2\/L[i].kd % 4=3:=by omega
  have hbA:bq<HA.length:=by rw[hp.lA];exact hblk
  have hgA:=List.getElem?_eq_getElem hbA
  obtain⟨v,hv,hWL⟩:=hm.wA bq _ hgA
  have hcg:fh ws (k*6+bq)=some v:=by rw[eV];exact hv
  have hvo:=hWL.1.one
  have hvl:=hWL.1.len
  have mWB:=hm.wb
  have hwl:=hm.wl
  obtain⟨gp1,gp2,gp3⟩:=hm.gap
  have dF:∀{M1:FM},(∀x,x<N->M1 x=M x)->Two A B (FaH HA) (FaH HB) fA fB (fT HA) (fT HB) tb a b M1 (N+1) p/\LM c k A B lv lv' L L' HA HB a b M0 M1 (N+1) ws ss:=fun{M1} hM1=>
   ⟨h2.chg (Nat.le_succ _) fun x c' s o w k1 _ _ k4=>(hM1 x k1).trans k4,hm.op (w:=0) ⟨by omega,by omega,by omega,by omega⟩ hak (Nat.le_succ _) (Fr.dF hM1) (.inl rfl)⟩
  rcases hk4 with hk0|hk1|hk2'|hk3
  ·rw[hk0]at r4
   have hb1:=hWL.1.bel (N+1) (by omega)
   have hb2:=hWL.1.bel (N+2) (by omega)
   simp -implicitDefEqProofs (disch:=omega)only[W2,dd,Nat.testBit,Nat.reduceAdd,Nat.reduceShiftRight,Nat.reduceAnd,Nat.reduceBNe,Nat.reduceMul,mLB,hl2,in1,hbl,e1,mX,e4,r6,r4,cv,mWB,hcg,hvo,hb1,hb2]
   generalize hM1:(AMem.put (AMem.put M N _) (N+1) _:FM)=M1
   have l1:∀x,x<N->M1 x=M x:=fun x hx=>by rw[<-hM1,dc _ _ _ _ (by omega),dc _ _ _ _ (by omega)]
   have kN:M1 N=some (.cells [.int .u8 (L[i].kd:Int),.int .u8 (L[i].blk:Int),.int .u8 (d0:Int),.int .u8 (d1:Int),.int .u8 (d2:Int),.int .u8 (d3:Int),.int .u8 (d4:Int),.int .u8 (d5:Int),.int .u8 (d6:Int),.int .u8 (d7:Int)] 0 false true):=by rw[<-hM1,dc _ _ _ _ (by omega)];exact de _ _ _
   clear hM1
   have hS1:SlZ 10 M1 A.K (N+2) v ((HA[bq].w.map (·.1)).length) (eE (HA[bq].w.map (·.1))):=hWL.1.frame (by omega) fun x _ hx=>l1 x hx
   have hwlen:(HA[bq].w.map (·.1)).length<=1000000:=by
    have:=(hp.okA _ (List.getElem_mem hbA)).len
    rw[List.length_map];omega
   refine fx (BG (sz:=10) (bytes:=10) (zs:=[.int .u8 (L[i].kd:Int),.int .u8 (L[i].blk:Int),.int .u8 (d0:Int),.int .u8 (d1:Int),.int .u8 (d2:Int),.int .u8 (d3:Int),.int .u8 (d4:Int),.int .u8 (d5:Int),.int .u8 (d6:Int),.int .u8 (d7:Int)]) hS1 _ _ _ (by omega) (by omega) rfl rfl (by omega) (by omega)) fun v1 M2 N2 r2 w2 hh=>?_
   obtain⟨⟨a1,a2,a3,a4,a5⟩,a6,a7⟩:=hh
   subst a1
   subst a2
   have k2:M2 c.WB=some (.cells ws 0 false true):=(a4 c.WB (by omega)).trans ((l1 _ (by omega)).trans mWB)
   have hset:=sY ws (k*6+bq) (.slice (some ⟨N+2,0,none⟩) ((HA[bq].w.map (·.1)).length+1) UNK) (by omega)
   have hvlt:∀n c',v≠.slice (some ⟨N,0,none⟩) n c':=fun n c' e=>by
    have:=hm.lt (k*6+bq) N n c' (by rw[hv,e])
    omega
   have k2N:M2 N=some (.cells [.int .u8 (L[i].kd:Int),.int .u8 (L[i].blk:Int),.int .u8 (d0:Int),.int .u8 (d1:Int),.int .u8 (d2:Int),.int .u8 (d3:Int),.int .u8 (d4:Int),.int .u8 (d5:Int),.int .u8 (d6:Int),.int .u8 (d7:Int)] 0 false true):=(a7 N (by omega) hvlt).trans kN
   have k2V:M2 c.VB=some (.cells vbv 0 false true):=(a4 c.VB (by omega)).trans ((l1 _ (by omega)).trans mVB)
   have cv2:=kI (x:=i+1) (by omega)
   simp -implicitDefEqProofs (disch:=omega)only[W2,dd,Nat.testBit,Nat.reduceAdd,Nat.reduceShiftRight,Nat.reduceAnd,Nat.reduceBNe,Nat.reduceMul,k2,hset,k2V,hvb2,k2N,cv2]
   generalize hM3:(AMem.put M2 c.WB _:FM)=M3
   have l3:∀x,x≠c.WB->M3 x=M2 x:=fun x hx=>by rw[<-hM3,dc _ _ _ _ hx]
   have kWB:M3 c.WB=some (.cells (ws.set (k*6+bq) (.slice (some ⟨N+2,0,none⟩) ((HA[bq].w.map (·.1)).length+1) UNK)) 0 false true):=by rw[<-hM3];exact de _ _ _
   clear hM3
   have hadd:=hm.add (M':=M3) (N':=N+3) ⟨by omega,by omega,by omega,by omega,by omega⟩ hblk (x:=L[i]) (by rw[hcs];rfl) hp.lB (ver:=i+1) hgA hv (by omega) ⟨N+2,rfl,by omega,by omega,(l3 _ (by omega)).trans (by rw[hcs];exact a6)⟩ (by rw[kWB,List.length_map]) fun z z1 z2 z3=>(l3 z z2).trans ((a7 z (by omega) z3).trans (l1 z z1))
   obtain⟨lm3,hch3⟩:=hadd
   have hokR:Rec.Ok ⟨1,bq,i+1,[d0,d1,d2,d3,d4,d5,d6,d7],0⟩:=⟨.inl rfl,hblk,by show 1<=i+1;omega,by show i+1<2 ^ 64;omega,rfl,by rw[<-hds];exact hxok.d8,by show 0<2 ^ 64;omega⟩
   have two3:=(h2.chg (M':=M3) (N':=N+3) (by omega) hch3).mono (FA':=FaH (pg HA bq L[i] (i+1))) FaH.add
   refine fx (Fm hU FaH.tm two3 (by omega) hokR (FaH.new hbA (.inl ⟨hk0,rfl,hds.symm⟩)) (hp.last bq)) fun r M4 N4 r4 w4 hh=>?_
   obtain⟨t1,t2,a',p',t3,t4⟩:=hh
   rw[<-AD L[i]]at t4
   simp -implicitDefEqProofs (disch:=omega)only[W2,dd,Nat.testBit,Nat.reduceAdd,Nat.reduceShiftRight,Nat.reduceAnd,Nat.reduceBNe,Nat.reduceMul]
   refine hQ _ _ _ _ _ _ _ _ _ _ _ ⟨t4,lm3.op ⟨by omega,by omega,by omega,by omega⟩ hak t1 t2 t3,hp.add hxok (.inl hk0),fun x hx=>?_⟩
   simp only[c9,dh (show x≠N by omega),dh (show x≠N+1 by omega),dh (show x≠c.WB by omega),dK (a5 A.K (Nat.le_refl _)) x (by omega),(t2 x (by omega) (by omega) (by omega) (by omega)).2];rfl
  ·rw[hk1]at r4
   have hb1:=hWL.1.bel (N+1) (by omega)
   have hb2:=hWL.1.bel (N+2) (by omega)
   simp -implicitDefEqProofs (disch:=omega)only[W2,dd,Nat.testBit,Nat.reduceAdd,Nat.reduceShiftRight,Nat.reduceAnd,Nat.reduceBNe,Nat.reduceMul,mLB,hl2,in1,hbl,e1,mX,e4,r6,r4,cv,mWB,hcg,hvo,hb1,hb2]
   generalize hM1:(AMem.put (AMem.put M N _) (N+1) _:FM)=M1
   have l1:∀x,x<N->M1 x=M x:=fun x hx=>by rw[<-hM1,dc _ _ _ _ (by omega),dc _ _ _ _ (by omega)]
   have kN:M1 N=some (.cells [.int .u8 (L[i].kd:Int),.int .u8 (L[i].blk:Int),.int .u8 (d0:Int),.int .u8 (d1:Int),.int .u8 (d2:Int),.int .u8 (d3:Int),.int .u8 (d4:Int),.int .u8 (d5:Int),.int .u8 (d6:Int),.int .u8 (d7:Int)] 0 false true):=by rw[<-hM1,dc _ _ _ _ (by omega)];exact de _ _ _
   clear hM1
   have hS1:SlZ 10 M1 A.K (N+2) v ((HA[bq].w.map (·.1)).length) (eE (HA[bq].w.map (·.1))):=hWL.1.frame (by omega) fun x _ hx=>l1 x hx
   have hwlen:(HA[bq].w.map (·.1)).length<=1000000:=by
    have:=(hp.okA _ (List.getElem_mem hbA)).len
    rw[List.length_map];omega
   refine fx (BG (sz:=10) (bytes:=10) (zs:=[.int .u8 (L[i].kd:Int),.int .u8 (L[i].blk:Int),.int .u8 (d0:Int),.int .u8 (d1:Int),.int .u8 (d2:Int),.int .u8 (d3:Int),.int .u8 (d4:Int),.int .u8 (d5:Int),.int .u8 (d6:Int),.int .u8 (d7:Int)]) hS1 _ _ _ (by omega) (by omega) rfl rfl (by omega) (by omega)) fun v1 M2 N2 r2 w2 hh=>?_
   obtain⟨⟨a1,a2,a3,a4,a5⟩,a6,a7⟩:=hh
   subst a1
   subst a2
   have k2:M2 c.WB=some (.cells ws 0 false true):=(a4 c.WB (by omega)).trans ((l1 _ (by omega)).trans mWB)
   have hset:=sY ws (k*6+bq) (.slice (some ⟨N+2,0,none⟩) ((HA[bq].w.map (·.1)).length+1) UNK) (by omega)
   have hvlt:∀n c',v≠.slice (some ⟨N,0,none⟩) n c':=fun n c' e=>by
    have:=hm.lt (k*6+bq) N n c' (by rw[hv,e])
    omega
   have k2N:M2 N=some (.cells [.int .u8 (L[i].kd:Int),.int .u8 (L[i].blk:Int),.int .u8 (d0:Int),.int .u8 (d1:Int),.int .u8 (d2:Int),.int .u8 (d3:Int),.int .u8 (d4:Int),.int .u8 (d5:Int),.int .u8 (d6:Int),.int .u8 (d7:Int)] 0 false true):=(a7 N (by omega) hvlt).trans kN
   have k2V:M2 c.VB=some (.cells vbv 0 false true):=(a4 c.VB (by omega)).trans ((l1 _ (by omega)).trans mVB)
   have cv2:=kI (x:=i+1) (by omega)
   simp -implicitDefEqProofs (disch:=omega)only[W2,dd,Nat.testBit,Nat.reduceAdd,Nat.reduceShiftRight,Nat.reduceAnd,Nat.reduceBNe,Nat.reduceMul,k2,hset,k2V,hvb2,k2N,cv2]
   generalize hM3:(AMem.put M2 c.WB _:FM)=M3
   have l3:∀x,x≠c.WB->M3 x=M2 x:=fun x hx=>by rw[<-hM3,dc _ _ _ _ hx]
   have kWB:M3 c.WB=some (.cells (ws.set (k*6+bq) (.slice (some ⟨N+2,0,none⟩) ((HA[bq].w.map (·.1)).length+1) UNK)) 0 false true):=by rw[<-hM3];exact de _ _ _
   clear hM3
   have hadd:=hm.add (M':=M3) (N':=N+3) ⟨by omega,by omega,by omega,by omega,by omega⟩ hblk (x:=L[i]) (by rw[hcs];rfl) hp.lB (ver:=i+1) hgA hv (by omega) ⟨N+2,rfl,by omega,by omega,(l3 _ (by omega)).trans (by rw[hcs];exact a6)⟩ (by rw[kWB,List.length_map]) fun z z1 z2 z3=>(l3 z z2).trans ((a7 z (by omega) z3).trans (l1 z z1))
   obtain⟨lm3,hch3⟩:=hadd
   have hokR:Rec.Ok ⟨2,bq,i+1,oh,0⟩:=⟨.inr ⟨rfl,rfl⟩,hblk,by show 1<=i+1;omega,by show i+1<2 ^ 64;omega,rfl,(by decide:∀x∈oh,x<256),by show 0<2 ^ 64;omega⟩
   have two3:=(h2.chg (M':=M3) (N':=N+3) (by omega) hch3).mono (FA':=FaH (pg HA bq L[i] (i+1))) FaH.add
   refine dw (GC hU FaH.tm two3 (by omega) hokR (FaH.new hbA (.inr ⟨hk1,rfl⟩)) (hp.last bq)) fun r M4 N4 r4 w4 hh=>?_
   obtain⟨t1,t2,a',p',t3,t4⟩:=hh
   rw[<-AD L[i]]at t4
   simp -implicitDefEqProofs (disch:=omega)only[W2,dd,Nat.testBit,Nat.reduceAdd,Nat.reduceShiftRight,Nat.reduceAnd,Nat.reduceBNe,Nat.reduceMul]
   refine hQ _ _ _ _ _ _ _ _ _ _ _ ⟨t4,lm3.op ⟨by omega,by omega,by omega,by omega⟩ hak t1 t2 t3,hp.add hxok (.inr hk1),fun x hx=>?_⟩
   simp only[c9,dh (show x≠N by omega),dh (show x≠N+1 by omega),dh (show x≠c.WB by omega),dK (a5 A.K (Nat.le_refl _)) x (by omega),(t2 x (by omega) (by omega) (by omega) (by omega)).2];rfl
  ·rw[hk2']at r4
   simp -implicitDefEqProofs (disch:=omega)only[W2,dd,Nat.testBit,Nat.reduceAdd,Nat.reduceShiftRight,Nat.reduceAnd,Nat.reduceBNe,Nat.reduceMul,mLB,hl2,in1,hbl,e1,mX,e4,r6,r4,cv,mVB,hvb2]
   generalize hM1:(AMem.put M N _:FM)=M1
   have l1:∀x,x<N->M1 x=M x:=fun x hx=>by rw[<-hM1,dc _ _ _ _ (by omega)]
   clear hM1
   obtain⟨two1,lm1⟩:=dF l1
   refine dw (wg hU two1 (by omega)) fun r M2 N2 r2 w2 hh=>?_
   obtain⟨t1,t2,a',p',t3,t4⟩:=hh
   have hmk:∀x,x<c.n0->Nat.testBit (Nat.lor (Nat.lor (bit N) (bit N)) w2) x=false:=fun x hx=>by
    simp only[c9,dh (show x≠N by omega),(t2 x (by omega) (by omega) (by omega) (by omega)).2];rfl
   have lm2:=lm1.op ⟨by omega,by omega,by omega,by omega⟩ hak t1 t2 t3
   rcases t4 with⟨rfl,_,hv6,t5⟩|⟨rfl,_,t5⟩
   ·simp -implicitDefEqProofs (disch:=omega)only[W2,dd,Nat.testBit,Nat.reduceAdd,Nat.reduceShiftRight,Nat.reduceAnd,Nat.reduceBNe,Nat.reduceMul]
    have hln:∀j,j<6->∃u,fh ws (k*6+j)=some u/\jS false u=some (.int .i64 (((HA.getD j ⟨[],0⟩).w.length:Nat):Int))/\et N2 u=true:=fun j hj=>by
     have hjA:j<HA.length:=by rw[hp.lA];exact hj
     have hg:=List.getElem?_eq_getElem hjA
     obtain⟨u,u1,u2⟩:=lm2.wA j _ hg
     refine⟨u,by rw[eV];exact u1,?_,u2.1.bel _ (Nat.le_refl _)⟩
     have:=u2.1.len
     rw[List.length_map]at this
     rw[this,List.getD_eq_getElem?_getD,hg];rfl
    refine dS ((KG (n1:=N2) (k:=k) (WB:=c.WB) (SB:=c.SB) (M1:=M2) (ws:=ws) (ss:=ss) (ln:=fun j=>(HA.getD j ⟨[],0⟩).w.length) hk2 ⟨by omega,gp3⟩ lm2.wb (by omega) hm.sl hln _ _ _ _ _ _ _ _ _ _ _ _ _ _ _ _ _ _ _ _ _ _ _ _ _ _ _ _ _ _ _ _ _ _ _ _ _ _ _ _ _ _ (fun y0 y1 M3 w3 s1 s2 s3=>?_) 6 0 rfl _ M2 0 (fun _ _=>rfl) (fun b _=>Nat.zero_testBit _) lm2.sb).mono fun X e m' n' w hq=>by simpa only[dx]using hq)
    intro rr
    simp -implicitDefEqProofs (disch:=omega)only[W2,dd,Nat.testBit,Nat.reduceAdd,Nat.reduceShiftRight,Nat.reduceAnd,Nat.reduceBNe,Nat.reduceMul]
    obtain⟨lm3,hch⟩:=lm2.safe (M':=M3) ⟨by omega,by omega,by omega⟩ hp.lA hp.lB (ln:=fun j=>(HA.getD j ⟨[],0⟩).w.length) (fun j x hx=>by show(HA.getD j ⟨[],0⟩).w.length=_;rw[List.getD_eq_getElem?_getD,hx];rfl) s3 s1
    have two3:=(t5.chg (Nat.le_refl _) hch).mono (FA':=FaH (my HA)) FaH.safe
    refine hQ _ _ _ _ _ _ _ _ p' _ _ ⟨?_,lm3,hp.safe.later (by omega),fun x hx=>?_⟩
    ·rw[Cz]
     exact two3.later (by omega)
    ·rw[c9,hmk x hx,s2 x (by omega)];rfl
   ·simp -implicitDefEqProofs (disch:=omega)only[W2,dd,Nat.testBit,Nat.reduceAdd,Nat.reduceShiftRight,Nat.reduceAnd,Nat.reduceBNe,Nat.reduceMul]
    exact hQ _ _ _ _ _ _ _ _ _ _ _ ⟨t5.later (by omega),lm2,hp.later (by omega),hmk⟩
  ·rw[hk3]at r4
   simp -implicitDefEqProofs (disch:=omega)only[W2,dd,Nat.testBit,Nat.reduceAdd,Nat.reduceShiftRight,Nat.reduceAnd,Nat.reduceBNe,Nat.reduceMul,mLB,hl2,in1,hbl,e1,mX,e4,r6,r4,cv,mVB,hvb2]
   generalize hM1:(AMem.put M N _:FM)=M1
   have l1:∀x,x<N->M1 x=M x:=fun x hx=>by rw[<-hM1,dc _ _ _ _ (by omega)]
   clear hM1
   obtain⟨two1,lm1⟩:=dF l1
   refine dw (Fo hU FaH.tm two1 (by omega)) fun r M2 N2 r2 w2 hh=>?_
   obtain⟨⟨z1,z2,rfl⟩,t1,t2,a',p',t3,t4⟩:=hh
   simp -implicitDefEqProofs (disch:=omega)only[W2,dd,Nat.testBit,Nat.reduceAdd,Nat.reduceShiftRight,Nat.reduceAnd,Nat.reduceBNe,Nat.reduceMul]
   refine hQ _ _ _ _ _ _ _ _ _ _ _ ⟨t4,lm1.op ⟨by omega,by omega,by omega,by omega⟩ hak t1 t2 t3,hp.later (by omega),fun x hx=>?_⟩
   simp only[c9,dh (show x≠N by omega),(t2 x (by omega) (by omega) (by omega) (by omega)).2];rfl
 ·simp -implicitDefEqProofs (disch:=omega)only[W2,dd,Nat.testBit,Nat.reduceAdd,Nat.reduceShiftRight,Nat.reduceAnd,Nat.reduceBNe,Nat.reduceMul,mLB,hl2,in1,hbl]
  exact hQ _ _ _ _ _ _ _ _ _ _ _ ⟨h2.later (by omega),hm,hp.later (by omega),fun x _=>Nat.zero_testBit _⟩
def Scr(c:LC)(k:Nat)(A B:Ids)(lv lv':Value)(L L':List Nt)(tb i iB:Nat)(M0 M:FM)(N:Nat):Prop:=
 ∃HA HB fA fB a b p ws ss,Two A B (FaH HA) (FaH HB) fA fB (fT HA) (fT HB) tb a b M N p/\LM c k A B lv lv' L L' HA HB a b M0 M N ws ss/\PH HA HB fA fB i iB
theorem Scr.swap{c:LC}{L L':List Nt}(h:Scr c k A B lv lv' L L' tb i iB M0 M N):Scr c (1-k) B A lv' lv L' L tb iB i M0 M N:=by
 obtain⟨HA,HB,fA,fB,a,b,p,ws,ss,h1,h2,h3⟩:=h
 exact⟨HB,HA,fB,fA,b,a,p,ws,ss,h1.swap,h2.swap,h3.swap⟩
theorem pK(hU:YUp Y){c:LC}{L L':List Nt}(h:Scr c k A B lv lv' L L' tb i iB M0 M N)(htb:tb<=40000)(hi:i<=40)(x1 x2 x4 x5 x8 x9 x11 x13 x14 x15 x16 x18 x19 x20:Value)
  (hQ:∀y1 y2 M' N' w,Scr c k A B lv lv' L L' (tb+400) (i+1) iB M0 M' N'->(∀x,x<c.n0->Nat.testBit w x=false)->Q .norm [.int .i64 ((k+1:Nat):Int),y1,y2,.int .i64 (i:Int),x4,x5,.pointer (some ⟨c.SB,0,none⟩),.pointer (some ⟨c.WB,0,none⟩),x8,x9,.pointer (some ⟨c.VB,0,none⟩),x11,.pointer (some ⟨A.P,0,none⟩),x13,x14,x15,x16,.pointer (some ⟨c.LB,0,none⟩),x18,x19,x20] M' N' w):
  Gv (dt PG EL Y ny [.int .i64 (k:Int),x1,x2,.int .i64 (i:Int),x4,x5,.pointer (some ⟨c.SB,0,none⟩),.pointer (some ⟨c.WB,0,none⟩),x8,x9,.pointer (some ⟨c.VB,0,none⟩),x11,.pointer (some ⟨A.P,0,none⟩),x13,x14,x15,x16,.pointer (some ⟨c.LB,0,none⟩),x18,x19,x20] M N) Q:=by
 obtain⟨HA,HB,fA,fB,a,b,p,ws,ss,h1,h2,h3⟩:=h
 exact zQ hU h1 h2 h3 htb hi _ _ _ _ _ _ _ _ _ _ _ _ _ _ fun y1 y2 M' N' w HA' fA' a' p' ws' ss' hs=>hQ y1 y2 M' N' w ⟨HA',HB,fA',fB,a',b,p',ws',ss',hs.two,hs.lm,hs.ph⟩ hs.mask
theorem Scr.P{c:LC}{L L':List Nt}(h:Scr c k A B lv lv' L L' tb i iB M0 M N):A.P=B.P:=by
 obtain⟨HA,HB,fA,fB,a,b,p,ws,ss,h1,h2,h3⟩:=h
 exact h1.P
theorem Fz(hU:YUp Y){c:LC}{L L':List Nt}(h:Scr c 0 A B lv lv' L L' tb i i M0 M N)(htb:tb<=39000)(hi:i<=40)(x1 x2 x4 x5 x8 x9 x11 x13 x14 x15 x16 x18 x19 x20:Value)
  (hQ:∀y0 y1 y2 M' N' w,Scr c 0 A B lv lv' L L' (tb+800) (i+1) (i+1) M0 M' N'->(∀x,x<c.n0->Nat.testBit w x=false)->Q (.exit 4) [y0,y1,y2,.int .i64 (i:Int),x4,x5,.pointer (some ⟨c.SB,0,none⟩),.pointer (some ⟨c.WB,0,none⟩),x8,x9,.pointer (some ⟨c.VB,0,none⟩),x11,.pointer (some ⟨A.P,0,none⟩),x13,x14,x15,x16,.pointer (some ⟨c.LB,0,none⟩),x18,x19,x20] M' N' w):
  Gv (dt PG EL Y BM [.int .i64 0,x1,x2,.int .i64 (i:Int),x4,x5,.pointer (some ⟨c.SB,0,none⟩),.pointer (some ⟨c.WB,0,none⟩),x8,x9,.pointer (some ⟨c.VB,0,none⟩),x11,.pointer (some ⟨A.P,0,none⟩),x13,x14,x15,x16,.pointer (some ⟨c.LB,0,none⟩),x18,x19,x20] M N) Q:=by
 refine dm (L:=BM) (b:=ny) rfl ?_
 refine fL (pK hU h (by omega) hi _ _ _ _ _ _ _ _ _ _ _ _ _ _ fun y1 y2 M1 N1 w1 h1 m1=>?_)
 intro r1
 have eP:=h.P
 simp -implicitDefEqProofs (disch:=omega)only[W2,dd,Nat.testBit,Nat.reduceAdd,Nat.reduceShiftRight,Nat.reduceAnd,Nat.reduceBNe,Nat.reduceMul]
 refine dM (dm (L:=BM) (b:=ny) rfl ?_) fun X e m n w hq=>hq
 have h1':=h1.swap
 rw[eP]
 refine fL (pK hU h1' (by omega) hi _ _ _ _ _ _ _ _ _ _ _ _ _ _ fun y3 y4 M2 N2 w2 h2 m2=>?_)
 intro r2
 simp -implicitDefEqProofs (disch:=omega)only[W2,dd,Nat.testBit,Nat.reduceAdd,Nat.reduceShiftRight,Nat.reduceAnd,Nat.reduceBNe,Nat.reduceMul]
 refine dM (dm (L:=BM) (b:=ny) rfl ?_) fun X e m n w hq=>hq
 simp only[ny]
 simp -implicitDefEqProofs (disch:=omega)only[W2,dd,Nat.testBit,Nat.reduceAdd,Nat.reduceShiftRight,Nat.reduceAnd,Nat.reduceBNe,Nat.reduceMul]
 rw[<-eP]
 refine hQ _ _ _ _ _ _ h2.swap fun x hx=>?_
 simp only[c9,m1 x hx,m2 x hx];rfl
theorem Fy(hU:YUp Y){c:LC}{L L':List Nt}{mx:Nat}(hmx:mx<=40)(x5 x6 x8 x10 x11 x12 x13 x15 x16 x17:Value)
  (hQ:∀x1 M N w,Scr c 0 A B lv lv' L L' (800*mx) mx mx M0 M N->(∀x,x<c.n0->Nat.testBit w x=false)->Q (.exit 2) [x1,.int .i64 (mx:Int),.pointer (some ⟨c.SB,0,none⟩),.pointer (some ⟨c.WB,0,none⟩),x5,x6,.pointer (some ⟨c.VB,0,none⟩),x8,.pointer (some ⟨A.P,0,none⟩),x10,x11,x12,x13,.pointer (some ⟨c.LB,0,none⟩),x15,x16,x17] M N w):
  ∀(d i:Nat),i+d=mx->∀(x1:Value) (M:FM) (N w0:Nat),Scr c 0 A B lv lv' L L' (800*i) i i M0 M N->(∀x,x<c.n0->Nat.testBit w0 x=false)->
  Gv (dt PG EL Y EY [.int .i64 (i:Int),x1,.int .i64 (mx:Int),.pointer (some ⟨c.SB,0,none⟩),.pointer (some ⟨c.WB,0,none⟩),x5,x6,.pointer (some ⟨c.VB,0,none⟩),x8,.pointer (some ⟨A.P,0,none⟩),x10,x11,x12,x13,.pointer (some ⟨c.LB,0,none⟩),x15,x16,x17] M N) fun X e m n w=>Q X e m n (Nat.lor w0 w):=by
 intro d
 induction d with
 |zero=>
  intro i hi x1 M N w0 h hw
  refine dm (L:=EY) (b:=vD) rfl ?_
  simp only[vD]
  obtain rfl:i=mx:=by omega
  simp -implicitDefEqProofs (disch:=omega)only[W2,dd,Nat.testBit,Nat.reduceAdd,Nat.reduceShiftRight,Nat.reduceAnd,Nat.reduceBNe,Nat.reduceMul]
  exact hQ _ _ _ _ h hw
 |succ d ih=>
  intro i hi x1 M N w0 h hw
  refine dm (L:=EY) (b:=vD) rfl ?_
  simp only[vD]
  simp -implicitDefEqProofs (disch:=omega)only[W2,dd,Nat.testBit,Nat.reduceAdd,Nat.reduceShiftRight,Nat.reduceAnd,Nat.reduceBNe,Nat.reduceMul]
  refine fL (Fz hU h (by omega) (by omega) _ _ _ _ _ _ _ _ _ _ _ _ _ _ fun y0 y1 y2 M1 N1 w1 h1 m1=>?_)
  intro r1
  simp -implicitDefEqProofs (disch:=omega)only[W2,dd,Nat.testBit,Nat.reduceAdd,Nat.reduceShiftRight,Nat.reduceAnd,Nat.reduceBNe,Nat.reduceMul]
  rw[show 800*i+800=800*(i+1) by omega]at h1
  refine dM (ih (i+1) (by omega) _ _ _ (Nat.lor w0 w1) h1 fun x hx=>?_) fun X e m n w hq=>?_
  ·rw[c9,hw x hx,m1 x hx];rfl
  rw[<-dy]
  exact hq
theorem Two.wI{M':FM}{p':Pw}(h:Two A B FA FB fA fB vA vB tb a b M N p)(hM:∀x,x≠A.P->M' x=M x)(hp:PwR A.P M' p')(hI:PwI p')(ho:p.off=true->p'.off=true):Two A B FA FB fA fB vA vB tb a b M' N p':=by
 obtain⟨⟨h1,h2,h3,h4,h5,h6,h7,h8,h9⟩,hK,haN,hak,hbN⟩:=h.da.ids
 obtain⟨⟨g1,g2,g3,g4,g5,g6,g7,g8,g9⟩,gK,gbN,gbk,gaN⟩:=h.db.ids
 have e1:=h.P
 have e2:=h.K
 have e3:=h.ap
 have hne:=h.ne
 simp only[Ids.to]at h1 h2 h3 h4 h5 h6 h7 h8 h9 hK haN hak hbN g1 g2 g3 g4 g5 g6 g7 g8 g9 gK gbN gbk gaN
 have fA:Far (A.to b) M M' N N b:=⟨⟨A.P,A.P,by simp only[Ids.to];omega,by simp only[Ids.to];omega,fun x _ k _ _=>hM x k⟩,Nat.le_refl _,.inl rfl,hbN⟩
 have fB:Far (B.to a) M M' N N a:=⟨⟨A.P,A.P,by simp only[Ids.to];omega,by simp only[Ids.to];omega,fun x _ k _ _=>hM x (by rw[e1];exact k)⟩,Nat.le_refl _,.inl rfl,gaN⟩
 exact⟨(h.da.far fA hne (by simp only[Ids.to];omega)).mono (fun _ h=>h) (Nat.le_refl _) ho,(h.db.far fB (Ne.symm hne) (by simp only[Ids.to];omega)).mono (fun _ h=>h) (Nat.le_refl _) ho,hp,hI,hne,e1,e2,e3⟩
theorem LM.wI{c:LC}{L L':List Nt}{HA HB:His}{M':FM}(h:LM c k A B lv lv' L L' HA HB a b M0 M N ws ss)(hA:A.P<A.sd/\A.sd<A.EN/\A.EN<A.K/\A.K<=N)(ha:A.K<=a\/a=A.sd)(hM:∀x,x≠A.P->M' x=M x):LM c k A B lv lv' L L' HA HB a b M0 M' N ws ss:=
 h.op (w:=0) hA ha (Nat.le_refl _) (fun x _ h1 _ _=>⟨hM x h1,Nat.zero_testBit _⟩) (.inl rfl)
structure Dead(c:LC)(k:Nat)(A B:Ids)(lv lv':Value)(L L':List Nt)(HA HB:His)(fA fB:Nat->Nat)(i a b:Nat)(dA dB:List Sec)(qA qB:List Op)(M0 M:FM)(N:Nat)(p:Pw)(ws:List Value)(ss:List Nat):Prop where
 lm:LM c k A B lv lv' L L' HA HB a b M0 M N ws ss
 ph:PH HA HB fA fB i i
 kA:Dsk (A.to b) a M N dA qA
 kB:Dsk (B.to a) b M N dB qB
 cA:CI (FaH HA) fA dA qA/\qA.length<=100000
 cB:CI (FaH HB) fB dB qB/\qB.length<=100000
 pw:PwR A.P M p
 off:p.off=true/\p.fl<=1/\p.armed=false
 ne:a≠b
 K:A.K=B.K
 ap:A.EN<B.sd\/B.EN<A.sd
theorem EA{c:LC}{L L':List Nt}{HA HB:His}(h2:Two A B (FaH HA) (FaH HB) fA fB (fT HA) (fT HB) tb a b M N p)(hm:LM c k A B lv lv' L L' HA HB a b M0 M N ws ss)(hp:PH HA HB fA fB i i)(htb:tb<=50000)(ho:p.off=true):∃dA dB qA qB,Dead c k A B lv lv' L L' HA HB fA fB i a b dA dB qA qB M0 M N p ws ss:=by
 obtain⟨dA,qA,a1,a2,a3⟩:=h2.dsk htb
 obtain⟨dB,qB,b1,b2,b3⟩:=h2.swap.dsk htb
 exact⟨dA,dB,qA,qB,hm,hp,a1,b1,⟨a2,a3⟩,⟨b2,b3⟩,h2.pw,h2.pi.o ho,h2.ne,h2.K,h2.ap⟩
structure Fin(c:LC)(k:Nat)(A B:Ids)(lv lv':Value)(L L':List Nt)(HA HB:His)(fA fB:Nat->Nat)(i a b seen:Nat)(XA XB:List Sec)(M0 M:FM)(N:Nat)(p:Pw)(ws:List Value)(ss:List Nat):Prop where
 lm:LM c k A B lv lv' L L' HA HB a b M0 M N ws ss
 ph:PH HA HB fA fB i i
 rA:Rd (A.to b) a M N seen XA
 rB:Rd (B.to a) b M N seen XB
 gA:Good (FaH HA) fA XA
 gB:Good (FaH HB) fB XB
 pw:PwR A.P M p
 ps:PwS seen p
 on:p.off=false/\p.armed=false
 ne:a≠b
 K:A.K=B.K
 ap:A.EN<B.sd\/B.EN<A.sd
 ak:(A.K<=a\/a=A.sd)/\a<N
 bk:(B.K<=b\/b=B.sd)/\b<N
theorem Fin.swap{c:LC}{L L':List Nt}{HA HB:His}(h:Fin c k A B lv lv' L L' HA HB fA fB i a b seen XA XB M0 M N p ws ss):Fin c (1-k) B A lv' lv L' L HB HA fB fA i b a seen XB XA M0 M N p ws ss:=
 ⟨h.lm.swap,h.ph.swap,h.rB,h.rA,h.gB,h.gA,h.lm.P▸h.pw,h.ps,h.on,h.ne.symm,h.K.symm,h.ap.symm,h.bk,h.ak⟩
theorem Fin.step{c:LC}{L L':List Nt}{HA HB:His}{N':Nat}(h:Fin c k A B lv lv' L L' HA HB fA fB i a b seen XA XB M0 M N p ws ss)(hN:N<=N')(hs:∀x,x<N->x≠A.P->x≠A.D->M' x=M x)(hr:Rd (A.to b) a M' N' seen XA)(hp:PwR A.P M' p')(hI:PwS seen p')(ho:p'.off=false/\p'.armed=false):Fin c k A B lv lv' L L' HA HB fA fB i a b seen XA XB M0 M' N' p' ws ss:=by
 obtain⟨h1,h2,h3,h4,h5,h6,h7,h8,h9⟩:=h.rA.ok
 obtain⟨g1,g2,g3,g4,g5,g6,g7,g8,g9⟩:=h.rB.ok
 have e1:=h.lm.P
 have e2:=h.K
 have e3:=h.ap
 have hK:=h.rA.KN
 obtain⟨k1,k2⟩:=h.ak
 obtain⟨k3,k4⟩:=h.bk
 simp only[Ids.to]at h1 h2 h3 h4 h5 h6 h7 h8 h9 g1 g2 g3 g4 g5 g6 g7 g8 g9 hK
 have fB:Far (B.to a) M M' N N' a:=⟨⟨A.D,A.D,by simp only[Ids.to];omega,by simp only[Ids.to];omega,fun x kk k0 k5 _=>hs x kk (by rw[e1];exact k0) (by omega)⟩,hN,.inl rfl,by omega⟩
 exact⟨h.lm.op (w:=0) ⟨by omega,by omega,by omega,by omega⟩ k1 hN (fun x hx q1 q2 q3=>⟨hs x hx q1 (by omega),Nat.zero_testBit _⟩) (.inl rfl),h.ph,hr,h.rB.far fB (by simp only[Ids.to];omega),h.gA,h.gB,hp,hI,ho,h.ne,e2,e3,⟨k1,by omega⟩,⟨k3,by omega⟩⟩
theorem oq{k:Nat}(hk:k<2){i:Ids}{ps:List Op}(h:Dsk i pb M N dur ps)(hp:PwR i.P M p)(ho:p.off=true)(hc:ps.length<=100000){DB kp:Nat}{ds ks:List Value}(hdN:DB<N)(hkN:KB<N)(hd:M DB=some (.cells ds 0 false true))(hdk:fh ds k=some (.pointer (some ⟨i.D,0,none⟩)))(hkb:M KB=some (.cells ks 0 false true))(hkk:fh ks k=some (.int .u8 (kp:Int)))(hkp:kp<256)(x0 x2 x3 x4 x5 x6 x7 x8 x9 x10 x12 x13 x14 x15 x17 x18 x19 x20:Value)
  (hQ:∀y0 y2 M' N' w,N<=N'->Fr i.sd i.sd i.D pb N M M' w->Rd i pb M' N' p.fl (dR dur (ps.take kp))->Q .norm [y0,.int .i64 ((k+1:Nat):Int),y2,x3,x4,x5,x6,x7,x8,x9,x10,.pointer (some ⟨DB,0,none⟩),x12,x13,x14,x15,.pointer (some ⟨KB,0,none⟩),x17,x18,x19,x20] M' N' w):
  Gv (dt PG EL Y pk [x0,.int .i64 (k:Int),x2,x3,x4,x5,x6,x7,x8,x9,x10,.pointer (some ⟨DB,0,none⟩),x12,x13,x14,x15,.pointer (some ⟨KB,0,none⟩),x17,x18,x19,x20] M N) Q:=by
 refine jf (Y:=Y) ?_
 simp only[pk]
 have cv:=NC kp hkp
 obtain⟨h1,h2,h3,h4,h5,h6,h7,h8,h9⟩:=h.cc.ok
 have hDN:i.D<N:=by have:=h.cc.KN;omega
 simp -implicitDefEqProofs (disch:=omega)only[W2,dd,Nat.testBit,Nat.reduceAdd,Nat.reduceShiftRight,Nat.reduceAnd,Nat.reduceBNe,Nat.reduceMul,hd,hdk,hkb,hkk,cv]
 refine fx (yi h hp ho hc kp (by omega)) fun r1 m1 n1 r2 w1 hh=>?_
 obtain⟨_,rfl,q1,q2,q3⟩:=hh
 simp -implicitDefEqProofs (disch:=omega)only[W2,dd,Nat.testBit,Nat.reduceAdd,Nat.reduceShiftRight,Nat.reduceAnd,Nat.reduceBNe,Nat.reduceMul]
 exact hQ _ _ _ _ _ q1 q2 q3
theorem CI.take{fl:Nat->Nat}{ps:List Op}(h:CI Fa fl dur ps)(k:Nat):Good Fa fl (dR dur (ps.take k)):=h k
structure Rst(c:LC)(k:Nat)(A B:Ids)(lv lv':Value)(L L':List Nt)(HA HB:His)(fA fB:Nat->Nat)(i a b:Nat)(XA XB:List Sec)(M0 M:FM)(N:Nat)(p:Pw)(ws:List Value)(ss:List Nat):Prop where
 lm:LM c k A B lv lv' L L' HA HB a b M0 M N ws ss
 ph:PH HA HB fA fB i i
 rA:Rd (A.to b) a M N p.fl XA
 rB:Rd (B.to a) b M N p.fl XB
 gA:Good (FaH HA) fA XA
 gB:Good (FaH HB) fB XB
 pw:PwR A.P M p
 off:p.off=true/\p.fl<=1/\p.armed=false
 ne:a≠b
 K:A.K=B.K
 ap:A.EN<B.sd\/B.EN<A.sd
 ak:(A.K<=a\/a=A.sd)/\a<N
 bk:(B.K<=b\/b=B.sd)/\b<N
theorem tZ{c:LC}{L L':List Nt}{HA HB:His}{dA dB:List Sec}{qA qB:List Op}(h:Dead c 0 A B lv lv' L L' HA HB fA fB i a b dA dB qA qB M0 M N p ws ss){KB ka kb:Nat}(hka:ka<256)(hkb:kb<256)(hKB:KB<A.sd/\KB<B.sd/\KB≠A.P)(hk0:M0 KB=some (.cells [.int .u8 (ka:Int),.int .u8 (kb:Int)] 0 false true))(x0 x2 x3 x4 x5 x6 x7 x8 x9 x10 x12 x13 x14 x15 x17 x18 x19 x20:Value)
  (hQ:∀y0 y2 M' N' w XA XB,Rst c 0 A B lv lv' L L' HA HB fA fB i a b XA XB M0 M' N' p ws ss->(∀x,x<c.n0->Nat.testBit w x=false)->Q (.exit 9) [y0,y2,x3,x4,x5,x6,x7,x8,x9,x10,.pointer (some ⟨c.DB,0,none⟩),x12,x13,x14,x15,.pointer (some ⟨KB,0,none⟩),x17,x18,x19,x20] M' N' w):
  Gv (dt PG EL Y BL [x0,.int .i64 0,x2,x3,x4,x5,x6,x7,x8,x9,x10,.pointer (some ⟨c.DB,0,none⟩),x12,x13,x14,x15,.pointer (some ⟨KB,0,none⟩),x17,x18,x19,x20] M N) Q:=by
 obtain⟨h1,h2,h3,h4,h5,h6,h7,h8,h9⟩:=h.kA.cc.ok
 obtain⟨g1,g2,g3,g4,g5,g6,g7,g8,g9⟩:=h.kB.cc.ok
 have hKN:=h.kA.cc.KN
 have hak:=h.kA.cc.pbk
 have hbk:=h.kB.cc.pbk
 have haN:=h.kA.cc.pbN
 have hbN:=h.kB.cc.pbN
 simp only[Ids.to]at h1 h2 h3 h4 h5 h6 h7 h8 h9 g1 g2 g3 g4 g5 g6 g7 g8 g9 hKN hak hbk
 have eP:=h.lm.P
 have eK:=h.K
 have eap:=h.ap
 have hne:=h.ne
 obtain⟨o1,o2,o3,o4⟩:=h.lm.lo
 obtain⟨ds,d1,d2,d3⟩:=h.lm.db
 have kDB:=(h.lm.fix c.DB o4.1 o4.2.1 o4.2.2).trans d1
 have kKB:=(h.lm.fix KB hKB.1 hKB.2.1 hKB.2.2).trans hk0
 refine dm (L:=BL) (b:=pk) rfl ?_
 refine fL (oq (k:=0) (by omega) h.kA h.pw h.off.1 h.cA.2 (show c.DB<N by omega) (show KB<N by omega) kDB d2 kKB rfl hka x0 x2 x3 x4 x5 x6 x7 x8 x9 x10 x12 x13 x14 x15 x17 x18 x19 x20 fun y0 y2 M1 N1 w1 q1 q2 q3=>?_)
 intro r1
 simp -implicitDefEqProofs (disch:=omega)only[W2,dd,Nat.testBit,Nat.reduceAdd,Nat.reduceShiftRight,Nat.reduceAnd,Nat.reduceBNe,Nat.reduceMul]
 refine dM (dm (L:=BL) (b:=pk) rfl ?_) fun X e m n w hq=>hq
 have q2':∀x,x<N->¬(A.sd<=x/\x<=A.D)->x≠a->M1 x=M x/\Nat.testBit w1 x=false:=fun x hx k1 k2=>q2 x hx (fun e=>k1 (by simp only[Ids.to]at e;omega)) (by simp only[Ids.to];exact k1) k2
 have fB:Far (B.to a) M M1 N N1 a:=⟨⟨A.sd,A.D,by simp only[Ids.to];omega,by simp only[Ids.to];omega,fun x hx k1 k2 k3=>(q2' x hx k2 k3).1⟩,q1,.inl rfl,by omega⟩
 have dB1:Dsk (B.to a) b M1 N1 dB qB:=h.kB.far fB (Ne.symm hne) (by simp only[Ids.to];omega)
 have pw1:PwR (B.to a).P M1 p:=by
  have:=(q2' A.P (by omega) (by omega) (by omega)).1.trans h.pw
  show PwR B.P M1 p
  rw[<-eP];exact this
 have lm1:=h.lm.op (w:=w1) ⟨h1,by omega,h9,hKN⟩ hak q1 (fun x hx k1 k2 k3=>q2' x hx (by omega) k3) (.inl rfl)
 refine fL (oq (k:=1) (by omega) dB1 pw1 h.off.1 h.cB.2 (show c.DB<N1 by omega) (show KB<N1 by omega) ((q2' c.DB (by omega) (by omega) (by omega)).1.trans kDB) d3 ((q2' KB (by omega) (by omega) (by omega)).1.trans kKB) rfl hkb y0 y2 x3 x4 x5 x6 x7 x8 x9 x10 x12 x13 x14 x15 x17 x18 x19 x20 fun z0 z2 M2 N2 w2 s1 s2 s3=>?_)
 intro r2
 simp -implicitDefEqProofs (disch:=omega)only[W2,dd,Nat.testBit,Nat.reduceAdd,Nat.reduceShiftRight,Nat.reduceAnd,Nat.reduceBNe,Nat.reduceMul]
 refine dM (dm (L:=BL) (b:=pk) rfl ?_) fun X e m n w hq=>hq
 have s2':∀x,x<N1->¬(B.sd<=x/\x<=B.D)->x≠b->M2 x=M1 x/\Nat.testBit w2 x=false:=fun x hx k1 k2=>s2 x hx (fun e=>k1 (by simp only[Ids.to]at e;omega)) (by simp only[Ids.to];exact k1) k2
 have fA:Far (A.to b) M1 M2 N1 N2 b:=⟨⟨B.sd,B.D,by simp only[Ids.to];omega,by simp only[Ids.to];omega,fun x hx k1 k2 k3=>(s2' x hx k2 k3).1⟩,s1,.inl rfl,by omega⟩
 have rA2:Rd (A.to b) a M2 N2 p.fl (dR dA (qA.take ka)):=q3.far fA (by simp only[Ids.to];omega)
 have lm2:=(lm1.swap.op (w:=w2) ⟨g1,by omega,g9,by omega⟩ hbk s1 (fun x hx k1 k2 k3=>s2' x hx (by omega) k3) (.inl rfl)).swap
 simp only[pk]
 simp -implicitDefEqProofs (disch:=omega)only[W2,dd,Nat.testBit,Nat.reduceAdd,Nat.reduceShiftRight,Nat.reduceAnd,Nat.reduceBNe,Nat.reduceMul]
 refine hQ _ _ _ _ _ _ _ ⟨lm2,h.ph,rA2,s3,h.cA.1.take ka,h.cB.1.take kb,(s2' A.P (by omega) (by omega) (by omega)).1.trans (by rw[eP];exact pw1),h.off,hne,eK,eap,⟨hak,by omega⟩,⟨hbk,by omega⟩⟩ fun x hx=>?_
 simp only[c9,(q2' x (by omega) (by omega) (by omega)).2,(s2' x (by omega) (by omega) (by omega)).2];rfl
theorem Rst.on{c:LC}{L L':List Nt}{HA HB:His}{M':FM}{p:Pw}(h:Rst c k A B lv lv' L L' HA HB fA fB i a b XA XB M0 M N p ws ss)(hM:∀x,x≠A.P->M' x=M x)(hp:PwR A.P M' ⟨false,p.armed,p.left,p.fl⟩):Fin c k A B lv lv' L L' HA HB fA fB i a b p.fl XA XB M0 M' N ⟨false,p.armed,p.left,p.fl⟩ ws ss:=by
 obtain⟨h1,h2,h3,h4,h5,h6,h7,h8,h9⟩:=h.rA.ok
 obtain⟨g1,g2,g3,g4,g5,g6,g7,g8,g9⟩:=h.rB.ok
 have hKN:=h.rA.KN
 have e1:=h.lm.P
 have e2:=h.K
 have e3:=h.ap
 obtain⟨k1,k2⟩:=h.ak
 obtain⟨k3,k4⟩:=h.bk
 simp only[Ids.to]at h1 h2 h3 h4 h5 h6 h7 h8 h9 g1 g2 g3 g4 g5 g6 g7 g8 g9 hKN
 have fA:Far (A.to b) M M' N N b:=⟨⟨A.P,A.P,by simp only[Ids.to];omega,by simp only[Ids.to];omega,fun x _ k _ _=>hM x k⟩,Nat.le_refl _,.inl rfl,k4⟩
 have fB:Far (B.to a) M M' N N a:=⟨⟨A.P,A.P,by simp only[Ids.to];omega,by simp only[Ids.to];omega,fun x _ k _ _=>hM x (by rw[e1];exact k)⟩,Nat.le_refl _,.inl rfl,k2⟩
 exact⟨h.lm.wI ⟨h1,by omega,h9,hKN⟩ k1 hM,h.ph,h.rA.far fA (by simp only[Ids.to];omega),h.rB.far fB (by simp only[Ids.to];omega),h.gA,h.gB,hp,.inl ⟨rfl,rfl,h.off.2.1⟩,⟨rfl,h.off.2.2⟩,h.ne,e2,e3,⟨k1,k2⟩,⟨k3,k4⟩⟩
structure Made(i:Ids)(P lo:Nat)(pb:Nat)(dur:List Sec)(M:FM)(N:Nat):Prop where
 P:i.P=P
 lo:lo<=i.sd
 drv:Drv i pb M N dur [] (ff 6) jo 0
 no:nP dur
 n5:Mx i M
theorem Made.hi{i:Ids}{P lo:Nat}(h:Made i P lo pb dur M N):i.P<i.sd/\i.sd<i.EN/\i.sd<i.D/\i.D<i.EN/\i.EN<N:=by
 obtain⟨h1,h2,h3,h4,h5,h6,h7,h8,h9⟩:=h.drv.dsk.cc.ok
 have:=h.drv.dsk.cc.KN
 omega
theorem NW{rec:Nat->List Value->FM->Nat->OR FM}{e:List Value}{m:FM}{n:Nat}:dJ PG rec e m n (.pur (.gld 0 [.int .i64 60,.int .i64 5,.int .i64 2,.int .i64 3,.int .i64 1]) [])=.ok gV m n 0 0:=rfl
theorem qj(hU:YUp Y){k:Nat}(hk:k<2){P DB VB:Nat}(hPN:P<N/\DB<N/\VB<N/\DB≠VB/\DB≠P/\VB≠P)(hp:PwR P M p)(hun:Un p){ds vs:List Value}(hd:M DB=some (.cells ds 0 false true))(hds:ds.length=2)(hv:M VB=some (.cells vs 0 false true))(hvs:vs.length=2)(x0 x2 x6 x7 x8 x9 x10 x11 x12 x13:Value)
  (hQ:∀y0 y2 M1 N1 M' w i pb dur p',Made i P N pb dur M1 N1->(∀x,x≠DB->x≠VB->M' x=M1 x)->PwR P M' p'->Un p'->(∀x,x<N->x≠P->x≠DB->x≠VB->M' x=M x/\Nat.testBit w x=false)->M' DB=some (.cells (ds.set k (.pointer (some ⟨i.D,0,none⟩))) 0 false true)->M' VB=some (.cells (vs.set k (.pointer (some ⟨i.R,0,none⟩))) 0 false true)->Q .norm [y0,.int .i64 ((k+1:Nat):Int),y2,.pointer (some ⟨VB,0,none⟩),.pointer (some ⟨DB,0,none⟩),.pointer (some ⟨P,0,none⟩),x6,x7,x8,x9,x10,x11,x12,x13] M' N1 w):
  Gv (dt PG EL Y pn [x0,.int .i64 (k:Int),x2,.pointer (some ⟨VB,0,none⟩),.pointer (some ⟨DB,0,none⟩),.pointer (some ⟨P,0,none⟩),x6,x7,x8,x9,x10,x11,x12,x13] M N) Q:=by
 refine jf (Y:=Y) ?_
 obtain⟨b1,b2,b3,b4,b5,b6⟩:=hPN
 simp only[pn]
 simp -implicitDefEqProofs (disch:=omega)only[W2,dd,Nat.testBit,Nat.reduceAdd,Nat.reduceShiftRight,Nat.reduceAnd,Nat.reduceBNe,Nat.reduceMul,NW]
 refine dw (F5 hU hun.2.2 b1 hp) fun r1 m1 n1 r2 w1 hh=>?_
 obtain⟨q1,q2,q3,sd,md,sc,mc,C,D,rfl,hC,hCD,hDn,hDm⟩:=hh
 have hp1:PwR P m1 p:=(q2 P b1).trans hp
 simp -implicitDefEqProofs (disch:=omega)only[W2,dd,Nat.testBit,Nat.reduceAdd,Nat.reduceShiftRight,Nat.reduceAnd,Nat.reduceBNe,Nat.reduceMul]
 refine dw (new9 hU b1 hp1 hun hC hCD hDn hDm) fun r3 m2 n2 r4 w2 hh=>?_
 obtain⟨_,i,pb,dur,p',e1,e2,e3,e4,e5,rfl,hp2,hun2,hdr,hno,h5,hfr⟩:=hh
 have hsd:=hC.h0
 have l2:∀x,x<N->x≠P->m2 x=M x:=fun x hx h0=>((hfr x (by omega) h0 (by omega)).1).trans (q2 x hx)
 have hs1:=sY ds k (.pointer (some ⟨D,0,none⟩)) (by omega)
 have hs2:=sY vs k (.pointer (some ⟨i.R,0,none⟩)) (by omega)
 have kd:=(l2 DB b2 b5).trans hd
 have kv:=(l2 VB b3 b6).trans hv
 simp -implicitDefEqProofs (disch:=omega)only[W2,dd,Nat.testBit,Nat.reduceAdd,Nat.reduceShiftRight,Nat.reduceAnd,Nat.reduceBNe,Nat.reduceMul,kd,kv,hs1,hs2]
 generalize hM3:(AMem.put (AMem.put m2 DB _) VB _:FM)=M3
 have l3:∀x,x≠DB->x≠VB->M3 x=m2 x:=fun x h1 h2=>by rw[<-hM3,dc _ _ _ _ h2,dc _ _ _ _ h1]
 refine hQ _ _ m2 n2 M3 _ i pb dur p' ⟨e1,by omega,hdr,hno,h5⟩ l3 ((l3 P (by omega) (by omega)).trans hp2) hun2 (fun x hx h0 h1 h2=>⟨by rw[l3 x h1 h2,l2 x hx h0],?_⟩) ?_ ?_
 ·simp only[c9,dK (q3 N (Nat.le_refl _)) x hx,(hfr x (by omega) h0 (by omega)).2,dh h1,dh h2];rfl
 ·rw[<-hM3,dc _ _ _ _ b4,e2];exact de _ _ _
 ·rw[<-hM3];exact de _ _ _
theorem Made.drI{i:Ids}{P lo:Nat}(h:Made i P lo pb dur M N){K Q:Nat}(hN:N<=N')(hf:∀x,i.sd<=x->x<=i.EN->M' x=M x)(hK:i.EN<K)(hKN:K<=N')(hQ:Q<N')(hQb:Q<i.sd\/i.EN<Q):DrI {i with K:=K,Q:=Q} Fa (fun _=>0) [0,0,0,0,0,0] 0 i.sd M' N':=
 DrI.new h.drv h.no hN hf hK hKN hQ hQb h.n5
theorem K6(hU:YUp Y){P DB VB:Nat}(hPN:P<N/\DB<N/\VB<N/\DB≠VB/\DB≠P/\VB≠P)(hp:PwR P M p)(hun:Un p)(hd:M DB=some (.cells [.pointer none,.pointer none] 0 false true))(hv:M VB=some (.cells [.pointer none,.pointer none] 0 false true))(x0 x2 x6 x7 x8 x9 x10 x11 x12 x13:Value)
  (hQ:∀y0 y2 M' N' w A B pA pB dA dB MA NA MB p',Made A P N pA dA MA NA->Made B P NA pB dB MB N'->NA<=N'->(∀x,A.sd<=x->x<=A.EN->M' x=MA x)->(∀x,B.sd<=x->x<=B.EN->M' x=MB x)->PwR P M' p'->Un p'->(∀x,x<N->x≠P->x≠DB->x≠VB->M' x=M x/\Nat.testBit w x=false)->M' DB=some (.cells [.pointer (some ⟨A.D,0,none⟩),.pointer (some ⟨B.D,0,none⟩)] 0 false true)->M' VB=some (.cells [.pointer (some ⟨A.R,0,none⟩),.pointer (some ⟨B.R,0,none⟩)] 0 false true)->Q (.exit 0) [y0,y2,.pointer (some ⟨VB,0,none⟩),.pointer (some ⟨DB,0,none⟩),.pointer (some ⟨P,0,none⟩),x6,x7,x8,x9,x10,x11,x12,x13] M' N' w):
  Gv (dt PG EL Y BN [x0,.int .i64 0,x2,.pointer (some ⟨VB,0,none⟩),.pointer (some ⟨DB,0,none⟩),.pointer (some ⟨P,0,none⟩),x6,x7,x8,x9,x10,x11,x12,x13] M N) Q:=by
 obtain⟨b1,b2,b3,b4,b5,b6⟩:=hPN
 refine dm (L:=BN) (b:=pn) rfl ?_
 refine fL (qj hU (k:=0) (by omega) ⟨b1,b2,b3,b4,b5,b6⟩ hp hun hd rfl hv rfl x0 x2 x6 x7 x8 x9 x10 x11 x12 x13 fun y0 y2 MA NA M1 w1 A pA dA p1 hA l1 hp1 hun1 f1 k1 k2=>?_)
 intro r1
 simp -implicitDefEqProofs (disch:=omega)only[W2,dd,Nat.testBit,Nat.reduceAdd,Nat.reduceShiftRight,Nat.reduceAnd,Nat.reduceBNe,Nat.reduceMul]
 refine dM (dm (L:=BN) (b:=pn) rfl ?_) fun X e m n w hq=>hq
 obtain⟨a1,a2,a3,a4,a5⟩:=hA.hi
 have a6:=hA.lo
 have a7:=hA.P
 refine fL (qj hU (k:=1) (by omega) ⟨by omega,by omega,by omega,b4,b5,b6⟩ hp1 hun1 k1 rfl k2 rfl y0 y2 x6 x7 x8 x9 x10 x11 x12 x13 fun z0 z2 MB NB M2 w2 B pB dB p2 hB l2 hp2 hun2 f2 k3 k4=>?_)
 intro r2
 simp -implicitDefEqProofs (disch:=omega)only[W2,dd,Nat.testBit,Nat.reduceAdd,Nat.reduceShiftRight,Nat.reduceAnd,Nat.reduceBNe,Nat.reduceMul]
 refine dM (dm (L:=BN) (b:=pn) rfl ?_) fun X e m n w hq=>hq
 obtain⟨c1,c2,c3,c4,c5⟩:=hB.hi
 have c6:=hB.lo
 simp only[pn]
 simp -implicitDefEqProofs (disch:=omega)only[W2,dd,Nat.testBit,Nat.reduceAdd,Nat.reduceShiftRight,Nat.reduceAnd,Nat.reduceBNe,Nat.reduceMul]
 refine hQ _ _ _ _ _ A B pA pB dA dB MA NA MB p2 hA hB (by omega) (fun x h1 h2=>?_) (fun x h1 h2=>l2 x (by omega) (by omega)) hp2 hun2 (fun x hx h0 h1 h2=>⟨?_,?_⟩) k3 k4
 ·rw[(f2 x (by omega) (by omega) (by omega) (by omega)).1,l1 x (by omega) (by omega)]
 ·rw[(f2 x (by omega) h0 h1 h2).1,(f1 x hx h0 h1 h2).1]
 ·simp only[c9,(f2 x (by omega) h0 h1 h2).2,(f1 x hx h0 h1 h2).2];rfl
end Go.Am.CD
namespace Go.Am
open Go
section
variable{P:Program}
def lJ(d:Nat)(e:TypeId)(xs ys:Array Value):List Nat->Sem Bool
 |[]=>pure true
 |i::is=>do
  let a <-part e xs (i*1)
  let b <-part e ys (i*1)
  let r <-Op.equalIn d e a b
  if(!r)=true then pure false else lJ d e xs ys is
theorem FI{e n:Nat}(h:k8 P e n=true):dG P (sizeOf e)=some n:=by
 obtain⟨i,hi,hs⟩:=fM h
 unfold sizeOf typeInfo
 rw[fk,fk,lS,Option.bind_some,hi]
 show some i.size=some n
 rw[hs]
theorem ud(d:Nat){t e:TypeId}{n:Nat}(xs ys:Array Value)(hu:P.underlying t=some (.array n e))(hi:k8 P e 1=true):
  dG P (Op.equalIn (d+1) t (.agg xs) (.agg ys))=dG P (lJ d e xs ys (List.range' 0 n)):=by
 simp only[Op.equalIn,fk,gU hu,FI hi,Option.bind_some]
 simp only[Std.Legacy.Range.forIn_eq_forIn_range',Std.Legacy.Range.size,Nat.sub_zero,Nat.add_one_sub_one,Nat.div_one]
 generalize List.range' 0 n=is
 induction is with
 |nil=>rfl
 |cons j is ih=>
  simp only[List.forIn_cons,lJ,fk]
  cases dG P (part e xs (j*1))with
  |none=>rfl
  |some a=>
   simp only[Option.bind_some]
   cases dG P (part e ys (j*1))with
   |none=>rfl
   |some b=>
    simp only[Option.bind_some]
    cases dG P (Op.equalIn d e a b)with
    |none=>rfl
    |some r=>
     cases r
     ·rfl
     ·exact ih
theorem zY{d:Nat}{e:TypeId}{asl bs:List Int}(hu:P.underlying e=some (.int .u8)):∀(k j:Nat),asl.length=j+k->bs.length=j+k->
  dG P (lJ (d+1) e (asl.map (Value.int .u8)).toArray (bs.map (Value.int .u8)).toArray (List.range' j k))=some (decide (asl.drop j=bs.drop j))
 |0,j,ha,hb=>by
  rw[List.drop_eq_nil_of_le (by omega),List.drop_eq_nil_of_le (by omega)]
  rfl
 |k+1,j,ha,hb=>by
  have hai:j<asl.length:=by omega
  have hbi:j<bs.length:=by omega
  have ih:=zY (d:=d) (asl:=asl) (bs:=bs) hu k (j+1) (by omega) (by omega)
  rw[List.range'_succ,lJ,fk,DR hu (v:=.int .u8 asl[j]) (by simp[hai]),Option.bind_some,fk,DR hu (v:=.int .u8 bs[j]) (by simp[hbi]),Option.bind_some,fk,yp hu,Option.bind_some]
  rw[List.drop_eq_getElem_cons hai,List.drop_eq_getElem_cons hbi]
  by_cases he:asl[j]=bs[j]
  ·have hb2:(!(asl[j]==bs[j]))=false:=by simp[he]
   rw[hb2]
   show dG P (lJ (d+1) e _ _ (List.range' (j+1) k))=_
   rw[ih]
   congr 1
   rw[he]
   simp only[List.cons.injEq,true_and]
  ·have hb2:(!(asl[j]==bs[j]))=true:=by simp[he]
   rw[hb2]
   show some false=_
   simp only[List.cons.injEq,he,false_and,decide_false]
def IV(P:Program)(t n e:Nat):Bool:=
 (match P.underlying t with|some (.array k f)=>k==n&&f==e|_=>false)&&(match P.underlying e with|some (.int .u8)=>true|_=>false)&&k8 P e 1&&!P.eqGuardType P.depth t
theorem Hk{t n e:Nat}(h:IV P t n e=true)(op:BinOp)(hop:op=.eql\/op=.neq){asl bs:List Int}(ha:asl.length=n)(hb:bs.length=n):
  ji P op t (.agg (asl.map (Value.int .u8)).toArray) (.agg (bs.map (Value.int .u8)).toArray)=some (.bool (match op with | .neq=>!decide (asl=bs)|_=>decide (asl=bs))):=by
 rw[IV,Bool.and_eq_true,Bool.and_eq_true,Bool.and_eq_true]at h
 obtain⟨⟨⟨h1,h2⟩,h3⟩,h5⟩:=h
 have hu:P.underlying t=some (.array n e):=by
  split at h1
  ·rename_i k f hk
   simp only[Bool.and_eq_true,beq_iff_eq]at h1
   rw[hk,h1.1,h1.2]
  ·cases h1
 have he:P.underlying e=some (.int .u8):=by
  split at h2
  ·assumption
  ·cases h2
 have hg:P.eqGuardType P.depth t=false:=by simpa using h5
 have hfree:∀l:List Int,du (.agg (l.map (Value.int .u8)).toArray)=true:=fun l=>by
  show(l.map (Value.int .u8)).all Am.flat=true
  rw[List.all_map,List.all_eq_true];intro x _;rfl
 have e2:dG P (Op.equal t (.agg (asl.map (Value.int .u8)).toArray) (.agg (bs.map (Value.int .u8)).toArray))=some (decide (asl=bs)):=by
  show dG P (Op.equalIn (9999+1) t _ _)=_
  rw[ud _ _ _ hu h3]
  have:=zY (P:=P) (d:=9998) (asl:=asl) (bs:=bs) he n 0 (by omega) (by omega)
  simpa using this
 have e1:∀op,op=.eql\/op=.neq->dG P (eqGuard op t (.tmp 0) (.tmp 0) (.agg (asl.map (Value.int .u8)).toArray) (.agg (bs.map (Value.int .u8)).toArray))=some ():=by
  intro op ho
  have:dG P (program >>= fun p=>program >>= fun q=>if(!p.eqGuardType q.depth t)=true then pure ()else(do if<-Op.eqGuardIn Op.maxDepth t (.agg (asl.map (Value.int .u8)).toArray) (.agg (bs.map (Value.int .u8)).toArray)then unsupported (.noEntry "binop/eql: two nil values of an interface type with methods, in a part of a struct or an array")))=some ():=by
   rw[fk,lS,Option.bind_some,fk,lS,Option.bind_some,hg];rfl
  rcases ho with rfl|rfl<;>exact this
 show cond (du _&&du _&&pU _) (mz (dG P _)) none=_
 rw[hfree,hfree]
 show mz (dG P (do eqGuard op t (.tmp 0) (.tmp 0) (.agg _) (.agg _);binOp op t (.agg _) (.agg _)))=_
 rw[fk,e1 op hop,Option.bind_some]
 rcases hop with rfl|rfl
 ·show mz (dG P (Op.equal t (.agg _) (.agg _) >>= fun r=>pure (.bool r)))=_
  rw[fk,e2];rfl
 ·show mz (dG P (Op.equal t (.agg _) (.agg _) >>= fun r=>pure (.bool (!r))))=_
  rw[fk,e2];rfl
end
end Go.Am
