/- The machine and its runs, part 18: AyRp AyRq AyRr AyRt AxArgs AxWorld AxTrod AxTrod2 AxVals AyAf AyAg AyTt AxPost. -/
import Derived.OpenShut
import Derived.Test.YtokdochbjilecaaGreatDoorRows
import Derived.Lib.LaidU8
import Derived.Lib.SmallJoins
import Derived.Lib.AppendIntMem
import Derived.HandedShaped
import Derived.SizedLaws
import Derived.LaidLaws
import Derived.Stop.Joined
import Derived.Deep.DeepHandedRow
import Derived.ProofKit
import Derived.Test.YtokdochbjilecaaGreatDoorB17
set_option linter.unusedVariables false
set_option linter.unusedSimpArgs false
set_option linter.unusedSectionVars false
namespace Go.Am.CD
set_option maxRecDepth 100000
open Go Go.Am
variable{E:Nat->Option AFn}{Y:Nat->List Value->FM->Nat->OR FM}
variable{ss ds:List Nat}{k i seen a b j t Rn EN N n jb SB n1 K err ib:Nat}{Q:AX->List Value->FM->Nat->Nat->Prop}{XA XB:List Sec}{fA fB:Nat->Nat}{HA HB:His}{A B:Ids}{h:Hb}{M M0 M1 m M':FM}{ws:List Value}{L L' L0 L1:List Nt}{lv lv' v bv lv0 lv1:Value}{c:LC}{p:Pw}
def gP(h:Hb)(err:Nat)(ds:List Nat)(j:Nat):Bool:=match h.w[j]? with
 |some x=>decide (h.s<=j+1)&&((decide (x.1.kd % 4=0)&&decide (err=0)&&decide (x.1.ds=ds)) || (decide (x.1.kd % 4=1)&&decide (err=9)))
 |none=>false
def lu(h:Hb)(err:Nat)(ds:List Nat)(j:Nat):Bool:=(decide (err=9)&&decide (h.s=0)) || (List.range j).any (gP h err ds)
theorem Hl(h:Hb)(err:Nat)(ds:List Nat):lu h err ds h.w.length=gC h err ds:=rfl
theorem FJ(h:Hb)(err:Nat)(ds:List Nat)(j:Nat):lu h err ds (j+1)=(lu h err ds j || gP h err ds j):=by
 rw[lu,lu,List.range_succ,List.any_append,List.any_cons,List.any_nil,Bool.or_false,Bool.or_assoc]
theorem jx:∀{l:List Nt} (_:∀x∈l,x.cells.length=10) (j:Nat) (h:j<l.length),∃rest,(eE l).drop (j*10)=l[j].cells++rest
 |x::l,hl,0,h=>⟨eE l,by simp[eE]⟩
 |x::l,hl,j+1,h=>by
  obtain⟨rest,hr⟩:=jx (l:=l) (fun y hy=>hl y (List.mem_cons_of_mem _ hy)) j (by simpa using h)
  refine⟨rest,?_⟩
  rw[show eE (x::l)=x.cells++eE l by simp[eE],List.drop_append,hl x List.mem_cons_self,List.drop_eq_nil_of_le (by rw[hl x List.mem_cons_self];omega),List.nil_append,show(j+1)*10-10=j*10 by omega,hr]
  rfl
theorem eql47{a b:List Nat}(ha:a.length=8)(hb:b.length=8):ji PG .eql 47 (.agg (n8s a).toArray) (.agg (n8s b).toArray)=some (.bool (decide (a=b))):=by
 have:=Hk (P:=PG) (t:=47) (n:=8) (e:=5) (by kernel_rfl) .eql (.inl rfl) (asl:=a.map Int.ofNat) (bs:=b.map Int.ofNat) (by simpa using ha) (by simpa using hb)
 have e:∀l:List Nat,(l.map Int.ofNat).map (Value.int .u8)=n8s l:=fun l=>by rw[List.map_map];rfl
 rw[e,e]at this
 rw[this]
 have:(a.map Int.ofNat=b.map Int.ofNat)↔a=b:=List.map_inj_right fun x y h=>by injection h
 simp only[this]
theorem KQ(hok:h.Ok ib)(h40:ib<=1000)(he:err=0\/err=9)(hdl:ds.length=8){XB:Nat}(hS:SlZ 10 M1 K n1 v h.w.length (eE (h.w.map (·.1))))(hSB:SB<n1/\M1 SB=some (.cells (ef ss) 0 false true))(hs:ss[k*6+jb]?=some h.s)(hkj:k<2/\jb<6)(hXB:XB<n1/\M1 XB=some (.cells (n8s ds) 0 false true))(x2 x5 x6 x7 x8 x9 x10 x11 x12 x13 x14 x17 x18 x19 x20 x21 x23 x24 x25 x26 x27 x28 x29 x30 x31 x33 x34 x35 x36 x37 x38 x40 x41 x42 x43 x44 x45 x46 x47 x48 x49 x50 x51 x52 x53:Value)
  (hQ:∀y1 y2 M N w,n1<=N->(∀x,x<n1->M x=M1 x)->(∀x,x<n1->Nat.testBit w x=false)->Q (.exit 15) [.bool (gC h err ds),y1,y2,.int .i64 (h.w.length:Int),v,x5,x6,x7,x8,x9,x10,x11,x12,x13,x14,.pointer (some ⟨XB,0,none⟩),.int .i64 (err:Int),x17,x18,x19,x20,x21,.int .i64 (jb:Int),x23,x24,x25,x26,x27,x28,x29,x30,x31,.int .i64 (k:Int),x33,x34,x35,x36,x37,x38,.pointer (some ⟨SB,0,none⟩),x40,x41,x42,x43,x44,x45,x46,x47,x48,x49,x50,x51,x52,x53] M N w):
  ∀(d j:Nat),j+d=h.w.length->∀(x2:Value) (M:FM) (N w0:Nat),n1<=N->(∀x,x<n1->M x=M1 x)->(∀x,x<n1->Nat.testBit w0 x=false)->
  Gv (dt PG EL Y xR [.bool (lu h err ds j),.int .i64 (j:Int),x2,.int .i64 (h.w.length:Int),v,x5,x6,x7,x8,x9,x10,x11,x12,x13,x14,.pointer (some ⟨XB,0,none⟩),.int .i64 (err:Int),x17,x18,x19,x20,x21,.int .i64 (jb:Int),x23,x24,x25,x26,x27,x28,x29,x30,x31,.int .i64 (k:Int),x33,x34,x35,x36,x37,x38,.pointer (some ⟨SB,0,none⟩),x40,x41,x42,x43,x44,x45,x46,x47,x48,x49,x50,x51,x52,x53] M N) fun X e m n w=>Q X e m n (Nat.lor w0 w):=by
 obtain⟨hk,hj6⟩:=hkj
 obtain⟨hSB1,hSB2⟩:=hSB
 obtain⟨hXB1,hXB2⟩:=hXB
 have hlen:=hok.len
 intro d
 induction d with
 |zero=>
  intro j hj x2 M N w0 hN hM hw
  refine dm (L:=xR) (b:=vC) rfl ?_
  simp only[vC]
  obtain rfl:j=h.w.length:=by omega
  rw[Hl]
  simp -implicitDefEqProofs (disch:=omega)only[W2,dd,Nat.testBit,Nat.reduceAdd,Nat.reduceShiftRight,Nat.reduceAnd,Nat.reduceBNe,Nat.reduceMul]
  exact hQ _ _ _ _ _ hN hM hw
 |succ d ih=>
  intro j hj x2 M N w0 hN hM hw
  refine dm (L:=xR) (b:=vC) rfl ?_
  simp only[vC]
  obtain⟨b,hv,hKb,hbn,hMb⟩:∃b,v=.slice (some ⟨b,0,none⟩) h.w.length UNK/\K<=b/\b<n1/\M1 b=some (.cells (eE (h.w.map (·.1))) 10 true true):=by
   rcases hS with⟨z,_⟩|⟨_,_,b,z⟩
   ·omega
   ·exact⟨b,z⟩
  subst hv
  have hjl:j<h.w.length:=by omega
  obtain⟨hxo,hxk⟩:=hok.nt _ (List.getElem_mem hjl)
  obtain⟨d0,d1,d2,d3,d4,d5,d6,d7,hds,hcs⟩:=nc hxo
  have hgj:h.w[j]?=some h.w[j]:=List.getElem?_eq_getElem hjl
  have kM:=(hM b hbn).trans hMb
  have kS:=(hM SB hSB1).trans hSB2
  have kX:=(hM XB hXB1).trans hXB2
  obtain⟨rest,hr⟩:=jx (l:=h.w.map (·.1)) (fun y hy=>by
   obtain⟨z,z1,rfl⟩:=List.mem_map.1 hy
   obtain⟨_,_,_,_,_,_,_,_,_,e⟩:=nc (hok.nt z z1).1
   rw[e];rfl) j (by simpa using hjl)
  rw[List.getElem_map,hcs]at hr
  simp only[List.cons_append,List.nil_append]at hr
  rw[<-jd]at hr
  have hix:fU 10 j (.slice (some ⟨b,0,none⟩) h.w.length UNK)=some (.pointer (some ⟨b,j*10,none⟩)):=by rw[eY hjl,Nat.zero_add]
  have hcg:fh (ef ss) (k*6+jb)=some (.int .i64 (h.s:Int)):=by
   rw[eV,ef,List.getElem?_map,hs];rfl
  have hbl:∀n,n1<=n->et n (.slice (some ⟨b,0,none⟩) h.w.length UNK)=true:=fun n hn=>by
   show Nat.blt b n=true
   rw[Nat.blt_eq];omega
  obtain⟨e0,e1,e2,e3,e4,e5,e6,e7,rfl⟩:=eight hdl
  replace kX:M XB=some (.cells [.int .u8 (e0:Int),.int .u8 (e1:Int),.int .u8 (e2:Int),.int .u8 (e3:Int),.int .u8 (e4:Int),.int .u8 (e5:Int),.int .u8 (e6:Int),.int .u8 (e7:Int)] 0 false true):=kX
  have hdd:ji PG .eql 47 (.agg #[.int .u8 (d0:Int),.int .u8 (d1:Int),.int .u8 (d2:Int),.int .u8 (d3:Int),.int .u8 (d4:Int),.int .u8 (d5:Int),.int .u8 (d6:Int),.int .u8 (d7:Int)]) (.agg #[.int .u8 (e0:Int),.int .u8 (e1:Int),.int .u8 (e2:Int),.int .u8 (e3:Int),.int .u8 (e4:Int),.int .u8 (e5:Int),.int .u8 (e6:Int),.int .u8 (e7:Int)])=some (.bool (decide (h.w[j].1.ds=[e0,e1,e2,e3,e4,e5,e6,e7]))):=by
   rw[hds];exact eql47 (a:=[d0,d1,d2,d3,d4,d5,d6,d7]) (b:=[e0,e1,e2,e3,e4,e5,e6,e7]) rfl rfl
  have r4:=Cb h.w[j].1.kd 4 (by omega)
  simp only[show((4:Nat):Int)=4 from rfl]at r4
  have hps:=FJ h err [e0,e1,e2,e3,e4,e5,e6,e7] j
  have hgg:gP h err [e0,e1,e2,e3,e4,e5,e6,e7] j=(decide (h.s<=j+1)&&((decide (h.w[j].1.kd % 4=0)&&decide (err=0)&&decide (h.w[j].1.ds=[e0,e1,e2,e3,e4,e5,e6,e7])) || (decide (h.w[j].1.kd % 4=1)&&decide (err=9)))):=by
   rw[gP,hgj]
  rw[hgg]at hps
  clear hgg
  have IH:∀(val:Bool) (y2:Value) (M':FM) (N' w:Nat),lu h err [e0,e1,e2,e3,e4,e5,e6,e7] (j+1)=val->n1<=N'->(∀x,x<n1->M' x=M x)->(∀x,x<n1->Nat.testBit w x=false)->Gv (dt PG EL Y xR [.bool val,.int .i64 ((j+1:Nat):Int),y2,.int .i64 (h.w.length:Int),.slice (some ⟨b,0,none⟩) h.w.length UNK,x5,x6,x7,x8,x9,x10,x11,x12,x13,x14,.pointer (some ⟨XB,0,none⟩),.int .i64 (err:Int),x17,x18,x19,x20,x21,.int .i64 (jb:Int),x23,x24,x25,x26,x27,x28,x29,x30,x31,.int .i64 (k:Int),x33,x34,x35,x36,x37,x38,.pointer (some ⟨SB,0,none⟩),x40,x41,x42,x43,x44,x45,x46,x47,x48,x49,x50,x51,x52,x53] M' N') fun X e m n w'=>Q X e m n (Nat.lor w0 (Nat.lor w w')):=fun val y2 M' N' w hv h1 h2 h3=>by
   have:=ih (j+1) (by omega) y2 M' N' (Nat.lor w0 w) h1 (fun x hx=>(h2 x hx).trans (hM x hx)) (fun x hx=>by rw[c9,hw x hx,h3 x hx];rfl)
   rw[hv]at this
   exact this.mono fun X e m n w' hq=>by rw[<-dy];exact hq
  have hmk:∀x,x<n1->Nat.testBit (Nat.lor (bit N) (bit N)) x=false:=fun x hx=>by simp only[c9,dh (show x≠N by omega)];rfl
  have hput:∀(c:Blk) x,x<n1->(AMem.put M N (some c):FM) x=M x:=fun c x hx=>dc _ _ _ _ (by omega)
  by_cases hlt:j+1<h.s
  ·have hv:lu h err [e0,e1,e2,e3,e4,e5,e6,e7] (j+1)=lu h err [e0,e1,e2,e3,e4,e5,e6,e7] j:=by
    rw[hps,decide_eq_false (show¬h.s<=j+1 by omega),Bool.false_and,Bool.or_false]
   simp -implicitDefEqProofs (disch:=omega)only[W2,dd,Nat.testBit,Nat.reduceAdd,Nat.reduceShiftRight,Nat.reduceAnd,Nat.reduceBNe,Nat.reduceMul,kM,hr,hix,kS,hcg]
   exact dM (IH _ _ _ _ _ hv (by omega) (hput _) hmk) fun X e m n w' hq=>hq
  ·rw[decide_eq_true (show h.s<=j+1 by omega),Bool.true_and]at hps
   cases hb:lu h err [e0,e1,e2,e3,e4,e5,e6,e7] j with
   |true=>
    rw[hb,Bool.true_or]at hps
    simp -implicitDefEqProofs (disch:=omega)only[W2,dd,Nat.testBit,Nat.reduceAdd,Nat.reduceShiftRight,Nat.reduceAnd,Nat.reduceBNe,Nat.reduceMul,kM,hr,hix,kS,hcg]
    exact dM (IH _ _ _ _ _ hps (by omega) (hput _) hmk) fun X e m n w' hq=>hq
   |false=>
    rw[hb,Bool.false_or]at hps
    rcases hxk with hk4|hk4
    ·rw[hk4]at r4
     simp only[show((0:Nat):Int)=0 from rfl]at r4
     rcases he with rfl|rfl
     ·by_cases hd:h.w[j].1.ds=[e0,e1,e2,e3,e4,e5,e6,e7]
      ·rw[decide_eq_true hd]at hdd
       have hv:lu h 0 [e0,e1,e2,e3,e4,e5,e6,e7] (j+1)=true:=by rw[hps,hk4,decide_eq_true hd];rfl
       simp -implicitDefEqProofs (disch:=omega)only[W2,dd,Nat.testBit,Nat.reduceAdd,Nat.reduceShiftRight,Nat.reduceAnd,Nat.reduceBNe,Nat.reduceMul,kM,hr,hix,kS,hcg,kX,r4,hdd]
       exact dM (IH _ _ _ _ _ hv (by omega) (hput _) hmk) fun X e m n w' hq=>hq
      ·rw[decide_eq_false hd]at hdd
       have hv:lu h 0 [e0,e1,e2,e3,e4,e5,e6,e7] (j+1)=false:=by rw[hps,hk4,decide_eq_false hd];rfl
       simp -implicitDefEqProofs (disch:=omega)only[W2,dd,Nat.testBit,Nat.reduceAdd,Nat.reduceShiftRight,Nat.reduceAnd,Nat.reduceBNe,Nat.reduceMul,kM,hr,hix,kS,hcg,kX,r4,hdd]
       exact dM (IH _ _ _ _ _ hv (by omega) (hput _) hmk) fun X e m n w' hq=>hq
     ·have hv:lu h 9 [e0,e1,e2,e3,e4,e5,e6,e7] (j+1)=false:=by rw[hps,hk4];rfl
      simp -implicitDefEqProofs (disch:=omega)only[W2,dd,Nat.testBit,Nat.reduceAdd,Nat.reduceShiftRight,Nat.reduceAnd,Nat.reduceBNe,Nat.reduceMul,kM,hr,hix,kS,hcg,kX,r4]
      exact dM (IH _ _ _ _ _ hv (by omega) (hput _) hmk) fun X e m n w' hq=>hq
    ·rw[hk4]at r4
     simp only[show((1:Nat):Int)=1 from rfl]at r4
     rcases he with rfl|rfl
     ·have hv:lu h 0 [e0,e1,e2,e3,e4,e5,e6,e7] (j+1)=false:=by rw[hps,hk4];rfl
      simp -implicitDefEqProofs (disch:=omega)only[W2,dd,Nat.testBit,Nat.reduceAdd,Nat.reduceShiftRight,Nat.reduceAnd,Nat.reduceBNe,Nat.reduceMul,kM,hr,hix,kS,hcg,kX,r4]
      exact dM (IH _ _ _ _ _ hv (by omega) (hput _) hmk) fun X e m n w' hq=>hq
     ·have hv:lu h 9 [e0,e1,e2,e3,e4,e5,e6,e7] (j+1)=true:=by rw[hps,hk4];rfl
      simp -implicitDefEqProofs (disch:=omega)only[W2,dd,Nat.testBit,Nat.reduceAdd,Nat.reduceShiftRight,Nat.reduceAnd,Nat.reduceBNe,Nat.reduceMul,kM,hr,hix,kS,hcg,kX,r4]
      exact dM (IH _ _ _ _ _ hv (by omega) (hput _) hmk) fun X e m n w' hq=>hq
theorem z8{h:Hb}(hok:h.Ok ib)(h40:ib<=1000){err:Nat}(he:err=0\/err=9){ds:List Nat}(hdl:ds.length=8){k jb SB XB n1 K:Nat}{ss:List Nat}{v:Value}{M1:FM}(hS:SlZ 10 M1 K n1 v h.w.length (eE (h.w.map (·.1))))(hSB:SB<n1/\M1 SB=some (.cells (ef ss) 0 false true))(hs:ss[k*6+jb]?=some h.s)(hkj:k<2/\jb<6)(hXB:XB<n1/\M1 XB=some (.cells (n8s ds) 0 false true)){b0:Bool}(hb0:lu h err ds 0=b0)(x2 x5 x6 x7 x8 x9 x10 x11 x12 x13 x14 x17 x18 x19 x20 x21 x23 x24 x25 x26 x27 x28 x29 x30 x31 x33 x34 x35 x36 x37 x38 x40 x41 x42 x43 x44 x45 x46 x47 x48 x49 x50 x51 x52 x53:Value)
  (hQ:∀y1 y2 M N w,n1<=N->(∀x,x<n1->M x=M1 x)->(∀x,x<n1->Nat.testBit w x=false)->Q (.exit 15) [.bool (gC h err ds),y1,y2,.int .i64 (h.w.length:Int),v,x5,x6,x7,x8,x9,x10,x11,x12,x13,x14,.pointer (some ⟨XB,0,none⟩),.int .i64 (err:Int),x17,x18,x19,x20,x21,.int .i64 (jb:Int),x23,x24,x25,x26,x27,x28,x29,x30,x31,.int .i64 (k:Int),x33,x34,x35,x36,x37,x38,.pointer (some ⟨SB,0,none⟩),x40,x41,x42,x43,x44,x45,x46,x47,x48,x49,x50,x51,x52,x53] M N w):
  Gv (dt PG EL Y xR [.bool b0,.int .i64 0,x2,.int .i64 (h.w.length:Int),v,x5,x6,x7,x8,x9,x10,x11,x12,x13,x14,.pointer (some ⟨XB,0,none⟩),.int .i64 (err:Int),x17,x18,x19,x20,x21,.int .i64 (jb:Int),x23,x24,x25,x26,x27,x28,x29,x30,x31,.int .i64 (k:Int),x33,x34,x35,x36,x37,x38,.pointer (some ⟨SB,0,none⟩),x40,x41,x42,x43,x44,x45,x46,x47,x48,x49,x50,x51,x52,x53] M1 n1) Q:=by
 subst hb0
 exact(KQ hok h40 he hdl hS hSB hs hkj hXB x2 x5 x6 x7 x8 x9 x10 x11 x12 x13 x14 x17 x18 x19 x20 x21 x23 x24 x25 x26 x27 x28 x29 x30 x31 x33 x34 x35 x36 x37 x38 x40 x41 x42 x43 x44 x45 x46 x47 x48 x49 x50 x51 x52 x53 hQ h.w.length 0 (Nat.zero_add _) x2 M1 n1 0 (Nat.le_refl _) (fun _ _=>rfl) fun _ _=>Nat.zero_testBit _).mono fun X e m' n' w hq=>by simpa only[dx]using hq
theorem yq(h:Hb)(ds ds':List Nat):gC h 9 ds=gC h 9 ds':=by simp[gC]
theorem Ll(hk:h.Ok i)(h0:h.fl=0):h.s=0:=by
 rcases Nat.eq_zero_or_pos h.s with hs|hs
 ·exact hs
 ·have hsl:=hk.s
  have hlt:h.s-1<h.w.length:=by omega
  have e:h.fl=h.w[h.s-1].2:=by rw[Hb.fl,if_neg (by omega),List.getElem?_eq_getElem hlt]
  have:=(hk.lo _ (List.getElem_mem hlt)).1
  omega
theorem Cg(hok:∀h∈HA,h.Ok i)(hfl:∀(j:Nat) h,HA[j]?=some h->h.fl<=fA j)(hj:HA[j]?=some h)(hj6:j<6){es:List Ent}(hlen:XA.length=90)(hg:Good (FaH HA) fA XA)(htop:Top es XA)(hje:j<es.length)(hv:NG XA es j hje v):∃(ver:Int) (err d0 d1 d2 d3 d4 d5 d6 d7:Nat),v=.tuple #[.int .u64 ver,.agg #[.int .u8 (d0:Int),.int .u8 (d1:Int),.int .u8 (d2:Int),.int .u8 (d3:Int),.int .u8 (d4:Int),.int .u8 (d5:Int),.int .u8 (d6:Int),.int .u8 (d7:Int)],.int .i64 (err:Int)]/\(err=0\/err=9)/\gC h err [d0,d1,d2,d3,d4,d5,d6,d7]=true:=by
 have hk:=hok h (List.mem_of_getElem? hj)
 have hfl':=hfl j h hj
 have hver:fA j=0\/fA j<=es[j].ver:=by
  rcases hg.2 j hj6 with h0|⟨a,r,a1,a2,rfl,a4⟩
  ·exact .inl h0
  ·obtain⟨q1,q2⟩:=htop a r a1 (by have:=(List.getElem?_eq_some_iff.1 a2).1;omega) a2
   exact .inr (Nat.le_trans a4 q2)
 have hrec:∀(a:Nat) (rc:Rec),XA[a]?=some (Sec.ent rc)->rc.blk=j->rc.ver=es[j].ver->h.fits rc/\h.fl<=rc.ver:=fun a rc h1 h2 h3=>by
  obtain⟨h',e1,e2⟩:=hg.1 a rc h1
  rw[h2,hj]at e1
  injection e1 with e1
  subst e1
  exact⟨e2,by omega⟩
 rcases hv with⟨rfl,hv|⟨a,rc,h1,h2,h3,h4⟩⟩|⟨a,rc,h1,h2,h3,h4,h5,rfl⟩
 ·refine⟨0,9,0,0,0,0,0,0,0,0,rfl,.inr rfl,vQ (Ll hk (by omega)) _⟩
 ·obtain⟨f1,f2⟩:=hrec a rc h1 h2 h3
  have:=rO hk f1 f2
  rw[if_neg (by omega)]at this
  exact⟨0,9,0,0,0,0,0,0,0,0,rfl,.inr rfl,by rw[yq h _ rc.ds];exact this⟩
 ·obtain⟨f1,f2⟩:=hrec a rc h1 h2 h3
  have:=rO hk f1 f2
  rw[if_pos h4]at this
  obtain⟨d0,d1,d2,d3,d4,d5,d6,d7,hd⟩:=eight h5.dl
  rw[hd]at this ⊢
  exact⟨rc.ver,0,d0,d1,d2,d3,d4,d5,d6,d7,rfl,.inl rfl,this⟩
theorem RdD.dF{i:Ids}{pb:Nat}{xs:List Sec}{m':FM}{n':Nat}{es:List Ent}{p:Pw}(h:RdD i pb seen xs m n Rn EN es bv t p)(hn:n<=n')(hf:∀x,x<n->m' x=m x):RdD i pb seen xs m' n' Rn EN es bv t p:=by
 obtain⟨⟨i1,i2,i3⟩,i4,i5,i6⟩:=h.ids
 have:=h.rd.ok.h1
 have hP:i.P<n:=by
  obtain⟨h1,h2,h3,h4,h5,h6,h7,h8,h9⟩:=h.rd.ok
  have:=h.rd.KN
  omega
 exact⟨⟨by omega,by omega,i5,i6⟩,h.dr.dF (hf _ i1) (hf _ i4),h.bv,h.rd.dF hn hf,(hf _ hP).trans h.pw,h.ps,h.on,h.con,h.top⟩
def zm(c:LC)(k:Nat)(A B:Ids)(lv lv':Value)(L L':List Nt)(HA HB:His)(fA fB:Nat->Nat)(i a b seen:Nat)(XA XB:List Sec)(M0:FM)(ws:List Value)(ss:List Nat)(Rn EN:Nat)(es:List Ent)(bv:Value)(t:Nat)(M:FM)(N:Nat):Prop:=
 ∃p,Fin c k A B lv lv' L L' HA HB fA fB i a b seen XA XB M0 M N p ws ss/\RdD (A.to b) a seen XA M N Rn EN es bv t p
theorem zm.dF{a:Nat}{es:List Ent}{M':FM}{N':Nat}(h:zm c k A B lv lv' L L' HA HB fA fB i a b seen XA XB M0 ws ss Rn EN es bv t M N)(hN:N<=N')(hf:∀x,x<N->M' x=M x):zm c k A B lv lv' L L' HA HB fA fB i a b seen XA XB M0 ws ss Rn EN es bv t M' N':=by
 obtain⟨p,h1,h2⟩:=h
 have hP:A.P<N:=by
  obtain⟨q1,q2,q3,q4,q5,q6,q7,q8,q9⟩:=h1.rA.ok
  have:=h1.rA.KN
  simp only[Ids.to]at *
  omega
 exact⟨p,h1.step hN (fun x hx _ _=>hf x hx) (h1.rA.dF hN hf) ((hf _ hP).trans h1.pw) h1.ps h1.on,h2.dF hN hf⟩
theorem Cc(hU:YUp Y){es:List Ent}(h:zm c k A B lv lv' L L' HA HB fA fB i a b seen XA XB M0 ws ss Rn EN es bv t M N)(hi:i<=1000)(hj:j<6)(x0 x2 x3 x4 x6 x7 x8 x9 x10 x12 x13 x14 x15 x16 x17 x20 x21 x22 x23 x24 x25 x26 x27 x28 x29 x30 x31 x32:Value)
  (hQ:∀y0 y2 M' N' w,zm c k A B lv lv' L L' HA HB fA fB i a b seen XA XB M0 ws ss Rn EN es bv t M' N'->(∀x,x<c.n0->Nat.testBit w x=false)->Q .norm [y0,.int .i64 ((j+1:Nat):Int),y2,x3,x4,.pointer (some ⟨Rn,0,none⟩),x6,x7,x8,x9,x10,.int .i64 (k:Int),x12,x13,x14,x15,x16,x17,.pointer (some ⟨c.SB,0,none⟩),.pointer (some ⟨c.WB,0,none⟩),x20,x21,x22,x23,x24,x25,x26,x27,x28,x29,x30,x31,x32] M' N' w):
  Gv (dt PG EL Y rD [x0,.int .i64 (j:Int),x2,x3,x4,.pointer (some ⟨Rn,0,none⟩),x6,x7,x8,x9,x10,.int .i64 (k:Int),x12,x13,x14,x15,x16,x17,.pointer (some ⟨c.SB,0,none⟩),.pointer (some ⟨c.WB,0,none⟩),x20,x21,x22,x23,x24,x25,x26,x27,x28,x29,x30,x31,x32] M N) Q:=by
 refine jf (Y:=Y) ?_
 obtain⟨p,hF,hR⟩:=h
 have hel:=hR.dr.el
 have hje:j<es.length:=by omega
 obtain⟨h1,h2,h3,h4,h5,h6,h7,h8,h9⟩:=hF.rA.ok
 have hKN:=hF.rA.KN
 simp only[Ids.to]at h1 h2 h3 h4 h5 h6 h7 h8 h9 hKN
 obtain⟨o1,o2,o3,o4⟩:=hF.lm.lo
 obtain⟨g1,g2,g3⟩:=hF.lm.gap
 have hk2:=hF.lm.k2
 have hjA:j<HA.length:=by rw[hF.ph.lA];exact hj
 have hgA:=List.getElem?_eq_getElem hjA
 simp only[rD]
 simp -implicitDefEqProofs (disch:=omega)only[W2,dd,Nat.testBit,Nat.reduceAdd,Nat.reduceShiftRight,Nat.reduceAnd,Nat.reduceBNe,Nat.reduceMul]
 refine dw (Ov hU hR hje) fun v m1 n1 r1 w1 hh=>?_
 obtain⟨q1,q2,q3,p',hR1⟩:=hh
 simp only[Ids.to]at q3
 have hF1:=hF.step q1 (fun x hx k1 k2=>(q3 x hx k1 k2).1) hR1.rd hR1.pw hR1.ps hR1.on
 obtain⟨ver,err,d0,d1,d2,d3,d4,d5,d6,d7,rfl,he,hpo⟩:=Cg hF.ph.okA hF.ph.flA hgA hj hF.rA.len hF.gA hR.top hje q2
 have mSB:=hF1.lm.sb
 have mWB:=hF1.lm.wb
 obtain⟨u,u1,u2⟩:=hF1.lm.wA j _ hgA
 have u3:=hF1.lm.sA j _ hgA
 have hcw:fh ws (k*6+j)=some u:=by rw[eV];exact u1
 have hcs:fh (ef ss) (k*6+j)=some (.int .i64 (HA[j].s:Int)):=by
  rw[eV,ef,List.getElem?_map,u3];rfl
 have hul:=u2.1.len
 rw[List.length_map]at hul
 have hS0:SlZ 10 m1 A.K n1 u HA[j].w.length (eE (HA[j].w.map (·.1))):=by have:=u2.1;rwa [List.length_map]at this
 have hub:=u2.1.bel (n1+1) (by omega)
 rcases he with rfl|rfl
 ·have hb0:lu HA[j] 0 [d0,d1,d2,d3,d4,d5,d6,d7] 0=false:=by simp[lu]
  simp -implicitDefEqProofs (disch:=omega)only[W2,dd,Nat.testBit,Nat.reduceAdd,Nat.reduceShiftRight,Nat.reduceAnd,Nat.reduceBNe,Nat.reduceMul,mSB,mWB,hcw,hcs,hul,hub]
  generalize hM3:(AMem.put m1 n1 _:FM)=M3
  have l3:∀x,x<n1->M3 x=m1 x:=fun x hx=>by rw[<-hM3,dc _ _ _ _ (by omega)]
  have k3:M3 n1=some (.cells (n8s [d0,d1,d2,d3,d4,d5,d6,d7]) 0 false true):=by rw[<-hM3];exact de _ _ _
  clear hM3
  refine fL (z8 (h:=HA[j]) (hF.ph.okA _ (List.getElem_mem hjA)) hi (err:=0) (by decide) (ds:=[d0,d1,d2,d3,d4,d5,d6,d7]) rfl (k:=k) (jb:=j) (SB:=c.SB) (XB:=n1) (n1:=n1+1) (K:=A.K) (ss:=ss) (v:=u) (M1:=M3) (hS0.frame (by omega) fun x _ hx=>l3 x hx) ⟨by omega,(l3 _ (by omega)).trans mSB⟩ u3 ⟨hk2,hj⟩ ⟨by omega,k3⟩ hb0 _ _ _ _ _ _ _ _ _ _ _ _ _ _ _ _ _ _ _ _ _ _ _ _ _ _ _ _ _ _ _ _ _ _ _ _ _ _ _ _ _ _ _ _ _ fun y1 y2 M4 N4 w4 s1 s2 s3=>?_)
  rw[hpo]
  intro rr
  simp -implicitDefEqProofs (disch:=omega)only[W2,dd,Nat.testBit,Nat.reduceAdd,Nat.reduceShiftRight,Nat.reduceAnd,Nat.reduceBNe,Nat.reduceMul]
  refine hQ _ _ _ _ _ (zm.dF ⟨p',hF1,hR1⟩ (by omega) fun x hx=>(s2 x (by omega)).trans (l3 x hx)) fun x hx=>?_
  simp only[c9,(q3 x (by omega) (by omega) (by omega)).2,dh (show x≠n1 by omega),s3 x (by omega)];rfl
 ·have hb0:lu HA[j] 9 [d0,d1,d2,d3,d4,d5,d6,d7] 0=decide ((HA[j].s:Int)=0):=by simp[lu]
  simp -implicitDefEqProofs (disch:=omega)only[W2,dd,Nat.testBit,Nat.reduceAdd,Nat.reduceShiftRight,Nat.reduceAnd,Nat.reduceBNe,Nat.reduceMul,mSB,mWB,hcw,hcs,hul,hub]
  generalize hM3:(AMem.put m1 n1 _:FM)=M3
  have l3:∀x,x<n1->M3 x=m1 x:=fun x hx=>by rw[<-hM3,dc _ _ _ _ (by omega)]
  have k3:M3 n1=some (.cells (n8s [d0,d1,d2,d3,d4,d5,d6,d7]) 0 false true):=by rw[<-hM3];exact de _ _ _
  clear hM3
  refine fL (z8 (h:=HA[j]) (hF.ph.okA _ (List.getElem_mem hjA)) hi (err:=9) (by decide) (ds:=[d0,d1,d2,d3,d4,d5,d6,d7]) rfl (k:=k) (jb:=j) (SB:=c.SB) (XB:=n1) (n1:=n1+1) (K:=A.K) (ss:=ss) (v:=u) (M1:=M3) (hS0.frame (by omega) fun x _ hx=>l3 x hx) ⟨by omega,(l3 _ (by omega)).trans mSB⟩ u3 ⟨hk2,hj⟩ ⟨by omega,k3⟩ hb0 _ _ _ _ _ _ _ _ _ _ _ _ _ _ _ _ _ _ _ _ _ _ _ _ _ _ _ _ _ _ _ _ _ _ _ _ _ _ _ _ _ _ _ _ _ fun y1 y2 M4 N4 w4 s1 s2 s3=>?_)
  rw[hpo]
  intro rr
  simp -implicitDefEqProofs (disch:=omega)only[W2,dd,Nat.testBit,Nat.reduceAdd,Nat.reduceShiftRight,Nat.reduceAnd,Nat.reduceBNe,Nat.reduceMul]
  refine hQ _ _ _ _ _ (zm.dF ⟨p',hF1,hR1⟩ (by omega) fun x hx=>(s2 x (by omega)).trans (l3 x hx)) fun x hx=>?_
  simp only[c9,(q3 x (by omega) (by omega) (by omega)).2,dh (show x≠n1 by omega),s3 x (by omega)];rfl
theorem KO(hU:YUp Y){es:List Ent}(hi:i<=1000)(x3 x4 x6 x7 x8 x9 x10 x12 x13 x14 x15 x16 x17 x20 x21 x22 x23 x24 x25 x26 x27 x28 x29 x30 x31 x32:Value)
  (hQ:∀y0 y1 y2 M N w,zm c k A B lv lv' L L' HA HB fA fB i a b seen XA XB M0 ws ss Rn EN es bv t M N->(∀x,x<c.n0->Nat.testBit w x=false)->Q (.exit 13) [y0,y1,y2,x3,x4,.pointer (some ⟨Rn,0,none⟩),x6,x7,x8,x9,x10,.int .i64 (k:Int),x12,x13,x14,x15,x16,x17,.pointer (some ⟨c.SB,0,none⟩),.pointer (some ⟨c.WB,0,none⟩),x20,x21,x22,x23,x24,x25,x26,x27,x28,x29,x30,x31,x32] M N w):
  ∀(d j:Nat),j+d=6->∀(x0 x2:Value) (M:FM) (N w0:Nat),zm c k A B lv lv' L L' HA HB fA fB i a b seen XA XB M0 ws ss Rn EN es bv t M N->(∀x,x<c.n0->Nat.testBit w0 x=false)->
  Gv (dt PG EL Y EX [x0,.int .i64 (j:Int),x2,x3,x4,.pointer (some ⟨Rn,0,none⟩),x6,x7,x8,x9,x10,.int .i64 (k:Int),x12,x13,x14,x15,x16,x17,.pointer (some ⟨c.SB,0,none⟩),.pointer (some ⟨c.WB,0,none⟩),x20,x21,x22,x23,x24,x25,x26,x27,x28,x29,x30,x31,x32] M N) fun X e m n w=>Q X e m n (Nat.lor w0 w):=by
 intro d
 induction d with
 |zero=>
  intro j hj x0 x2 M N w0 h hw
  refine dm (L:=EX) (b:=rD) rfl ?_
  simp only[rD]
  obtain rfl:j=6:=by omega
  simp -implicitDefEqProofs (disch:=omega)only[W2,dd,Nat.testBit,Nat.reduceAdd,Nat.reduceShiftRight,Nat.reduceAnd,Nat.reduceBNe,Nat.reduceMul]
  exact hQ _ _ _ _ _ _ h hw
 |succ d ih=>
  intro j hj x0 x2 M N w0 h hw
  refine dm (L:=EX) (b:=rD) rfl ?_
  refine fL (Cc hU h hi (show j<6 by omega) x0 x2 x3 x4 x6 x7 x8 x9 x10 x12 x13 x14 x15 x16 x17 x20 x21 x22 x23 x24 x25 x26 x27 x28 x29 x30 x31 x32 fun y0 y2 M1 N1 w1 h1 m1=>?_)
  intro rr
  simp -implicitDefEqProofs (disch:=omega)only[W2,dd,Nat.testBit,Nat.reduceAdd,Nat.reduceShiftRight,Nat.reduceAnd,Nat.reduceBNe,Nat.reduceMul]
  refine dM (ih (j+1) (by omega) _ _ _ _ (Nat.lor w0 w1) h1 fun x hx=>?_) fun X e m n w hq=>?_
  ·rw[c9,hw x hx,m1 x hx];rfl
  rw[<-dy]
  exact hq
theorem ui(hs:ScY Y){k:Nat}(h:∃p,Fin c k A B lv lv' L L' HA HB fA fB i a b seen XA XB M0 M N p ws ss)(hi:i<=1000)(x0 x2 x3 x4 x5 x6 x7 x10 x11 x12 x14 x15 x16 x17 x18 x19 x20 x21 x22:Value)
  (hQ:∀y0 y2 M' N' w,(∃p,Fin c k A B lv lv' L L' HA HB fA fB i a b seen XA XB M0 M' N' p ws ss)->(∀x,x<c.n0->Nat.testBit w x=false)->Q .norm [y0,.int .i64 ((k+1:Nat):Int),y2,x3,x4,x5,x6,x7,.pointer (some ⟨c.SB,0,none⟩),.pointer (some ⟨c.WB,0,none⟩),x10,x11,x12,.pointer (some ⟨c.DB,0,none⟩),x14,x15,x16,x17,x18,x19,x20,x21,x22] M' N' w):
  Gv (dt PG EL Y pj [x0,.int .i64 (k:Int),x2,x3,x4,x5,x6,x7,.pointer (some ⟨c.SB,0,none⟩),.pointer (some ⟨c.WB,0,none⟩),x10,x11,x12,.pointer (some ⟨c.DB,0,none⟩),x14,x15,x16,x17,x18,x19,x20,x21,x22] M N) Q:=by
 refine jf (Y:=Y) ?_
 obtain⟨p,hF⟩:=h
 obtain⟨h1,h2,h3,h4,h5,h6,h7,h8,h9⟩:=hF.rA.ok
 have hKN:=hF.rA.KN
 simp only[Ids.to]at h1 h2 h3 h4 h5 h6 h7 h8 h9 hKN
 obtain⟨o1,o2,o3,o4⟩:=hF.lm.lo
 have hk2:=hF.lm.k2
 obtain⟨ds,d1,d2,d3⟩:=hF.lm.db
 have kDB:=(hF.lm.fix c.DB o4.1 o4.2.1 o4.2.2).trans d1
 have hDN:A.D<N:=by omega
 simp only[pj]
 simp -implicitDefEqProofs (disch:=omega)only[W2,dd,Nat.testBit,Nat.reduceAdd,Nat.reduceShiftRight,Nat.reduceAnd,Nat.reduceBNe,Nat.reduceMul,kDB,d2]
 have hop:Rt (df PG EL Y 16 [.pointer (some ⟨A.D,0,none⟩),.int .u64 0,.int .i64 6] M N) (Kj (A.to b) a seen XA M N):=Ox hs (i:=A.to b) hF.rA hF.pw hF.ps hF.on
 refine dw hop fun v m1 n1 r1 w1 hh=>?_
 obtain⟨Rn,EN,es,bv,t,p',ho⟩:=hh
 obtain⟨i1,i2,i3,i4⟩:=ho.ids
 have hv:=ho.v
 subst hv
 have hsm:=ho.same
 simp only[Ids.to]at hsm
 have hrd1:=ho.rd.dF (N':=n1) (by omega) fun _ _=>rfl
 have hF1:=hF.step (N':=n1) (by omega) (fun x hx k1 k2=>(hsm x hx k1 k2).1) hrd1 ho.pw ho.ps ho.on
 have hR1:RdD (A.to b) a seen XA m1 n1 Rn EN es bv t p':=⟨⟨⟨i2,by simp only[Ids.to];omega,by simp only[Ids.to];omega⟩,i4,by simp only[Ids.to];omega,by simp only[Ids.to];omega⟩,ho.dr,ho.bv,hrd1,ho.pw,ho.ps,ho.on,ho.con,ho.top⟩
 simp -implicitDefEqProofs (disch:=omega)only[W2,dd,Nat.testBit,Nat.reduceAdd,Nat.reduceShiftRight,Nat.reduceAnd,Nat.reduceBNe,Nat.reduceMul]
 refine fL ((KO hs.up hi _ _ _ _ _ _ _ _ _ _ _ _ _ _ _ _ _ _ _ _ _ _ _ _ _ _ (fun y0 y1 y2 M2 N2 w2 h2 m2=>?_) 6 0 rfl _ _ m1 n1 0 ⟨p',hF1,hR1⟩ fun x _=>Nat.zero_testBit _).mono fun X e m' n' w hq=>by simpa only[dx]using hq)
 intro rr
 simp -implicitDefEqProofs (disch:=omega)only[W2,dd,Nat.testBit,Nat.reduceAdd,Nat.reduceShiftRight,Nat.reduceAnd,Nat.reduceBNe,Nat.reduceMul]
 obtain⟨p2,hF2,_⟩:=h2
 refine hQ _ _ _ _ _ ⟨p2,hF2⟩ fun x hx=>?_
 simp only[c9,(hsm x (by omega) (by omega) (by omega)).2,m2 x hx];rfl
theorem D1(hs:ScY Y)(h:∃p,Fin c 0 A B lv lv' L L' HA HB fA fB i a b seen XA XB M0 M N p ws ss)(hi:i<=1000)(x0 x2 x3 x4 x5 x6 x7 x10 x11 x12 x14 x15 x16 x17 x18 x19 x20 x21 x22:Value)
  (hQ:∀e M' N' w,(∀x,x<c.n0->Nat.testBit w x=false)->Q (.exit 11) e M' N' w):
  Gv (dt PG EL Y BK [x0,.int .i64 0,x2,x3,x4,x5,x6,x7,.pointer (some ⟨c.SB,0,none⟩),.pointer (some ⟨c.WB,0,none⟩),x10,x11,x12,.pointer (some ⟨c.DB,0,none⟩),x14,x15,x16,x17,x18,x19,x20,x21,x22] M N) Q:=by
 refine dm (L:=BK) (b:=pj) rfl ?_
 refine fL (ui hs h hi x0 x2 x3 x4 x5 x6 x7 x10 x11 x12 x14 x15 x16 x17 x18 x19 x20 x21 x22 fun y0 y2 M1 N1 w1 h1 m1=>?_)
 intro r1
 simp -implicitDefEqProofs (disch:=omega)only[W2,dd,Nat.testBit,Nat.reduceAdd,Nat.reduceShiftRight,Nat.reduceAnd,Nat.reduceBNe,Nat.reduceMul]
 refine dM (dm (L:=BK) (b:=pj) rfl ?_) fun X e m n w hq=>hq
 obtain⟨p1,h1⟩:=h1
 refine fL (ui hs (k:=1) ⟨p1,h1.swap⟩ hi y0 y2 x3 x4 x5 x6 x7 x10 x11 x12 x14 x15 x16 x17 x18 x19 x20 x21 x22 fun z0 z2 M2 N2 w2 h2 m2=>?_)
 intro r2
 simp -implicitDefEqProofs (disch:=omega)only[W2,dd,Nat.testBit,Nat.reduceAdd,Nat.reduceShiftRight,Nat.reduceAnd,Nat.reduceBNe,Nat.reduceMul]
 refine dM (dm (L:=BK) (b:=pj) rfl ?_) fun X e m n w hq=>hq
 simp only[pj]
 simp -implicitDefEqProofs (disch:=omega)only[W2,dd,Nat.testBit,Nat.reduceAdd,Nat.reduceShiftRight,Nat.reduceAnd,Nat.reduceBNe,Nat.reduceMul]
 refine hQ _ _ _ _ fun x hx=>?_
 simp only[c9,m1 x hx,m2 x hx];rfl
theorem iL.mono{n0:Nat}{l:List Nt}(h:iL M n0 v l)(hf:∀b,b<n0->M' b=M b):iL M' n0 v l:=by
 obtain⟨h1,h2,h3,h4⟩:=h
 refine⟨h1,h2,h3,fun j hj=>?_⟩
 obtain⟨b,o,c,s,op,w,rest,e1,e2,e3,e4⟩:=h4 j hj
 exact⟨b,o,c,s,op,w,rest,e1,e2,(hf b e2).trans e3,e4⟩
def H0:His:=List.replicate 6 ⟨[],0⟩
theorem Dk(hj:H0[j]?=some h):j<6/\h=⟨[],0⟩:=by
 rw[H0,List.getElem?_replicate]at hj
 split at hj
 ·rename_i h1
  injection hj with hj
  exact⟨h1,hj.symm⟩
 ·cases hj
theorem ph0:PH H0 H0 (fun _=>0) (fun _=>0) 0 0:=by
 have ok:∀h∈H0,h.Ok 0:=fun h hh=>by
  rw[List.eq_of_mem_replicate hh]
  exact⟨List.Pairwise.nil,fun x hx=>absurd hx List.not_mem_nil,fun x hx=>absurd hx List.not_mem_nil,Nat.le_refl _⟩
 have fl:∀(j:Nat) h,H0[j]?=some h->h.fl<=0:=fun j h hj=>by
  rw[(Dk hj).2];exact Nat.le_refl _
 exact⟨rfl,rfl,ok,ok,fl,fl⟩
theorem KM(x m:Nat)(hm:0<m):fN .rem .u16 (x:Int) (m:Int)=some (.int .u16 ((x % m:Nat):Int)):=by
 rw[H5,if_neg (by omega),Int.tmod_eq_emod_of_nonneg (by omega)];rfl
theorem Oy(x:Nat)(h:x<65536):iO .i64 (.int .u16 (x:Int))=some (.int .i64 (x:Int)):=by
 show some (Value.int .i64 (gn .i64 (x:Int)))=_
 rw[eW,wrap_i64 (by omega) (by omega)]
theorem KZ(a b:Nat):mxV (.int .i64 (a:Int)) (.int .i64 (b:Int))=some (.int .i64 ((Nat.max a b:Nat):Int)):=by
 show some (Value.int .i64 (cond (ltB (a:Int) (b:Int)) (b:Int) (a:Int)))=_
 rw[iW]
 rcases Nat.lt_or_ge a b with h|h
 ·rw[decide_eq_true (by omega),show Nat.max a b=b from Nat.max_eq_right (by omega)];rfl
 ·rw[decide_eq_false (by omega),show Nat.max a b=a from Nat.max_eq_left h];rfl
theorem DJ{α:Type}{x y:α}(h:(List.replicate k x)[j]?=some y):y=x:=by
 rw[List.getElem?_replicate]at h
 split at h
 ·injection h with h
  exact h.symm
 ·cases h
theorem FQ{n2 N4 NA:Nat}{pA pB:Nat}{dA dB:List Sec}{MA MB M6:FM}(hn2:n+3<=n2)(hA:Made A (n+2) (n2+2) pA dA MA NA)(hB:Made B (n+2) NA pB dB MB N4)(hAN:NA<=N4)(fA:∀x,A.sd<=x->x<=A.EN->M6 x=MA x)(fB:∀x,B.sd<=x->x<=B.EN->M6 x=MB x)(hp:PwR (n+2) M6 p)(hI:PwI p)(kD:M6 n2=some (.cells [.pointer (some ⟨A.D,0,none⟩),.pointer (some ⟨B.D,0,none⟩)] 0 false true))(kV:M6 (n2+1)=some (.cells [.pointer (some ⟨A.R,0,none⟩),.pointer (some ⟨B.R,0,none⟩)] 0 false true))(kL:M6 n=some (.cells [lv0,lv1] 0 false true))(kW:M6 N4=some (.cells (List.replicate 12 (.slice none 0 0)) 0 false true))(kS:M6 (N4+1)=some (.cells (ef (List.replicate 12 0)) 0 false true))(hin0:iL M6 n lv0 L0)(hin1:iL M6 n lv1 L1)(hn0:∀x∈L0,x.Ok)(hn1:∀x∈L1,x.Ok):Scr ⟨n,n,n2,n2+1,N4,N4+1⟩ 0 {A with K:=N4+2} {B with K:=N4+2} lv0 lv1 L0 L1 0 0 0 M6 M6 (N4+2):=by
 obtain⟨a1,a2,a3,a4,a5⟩:=hA.hi
 obtain⟨b1,b2,b3,b4,b5⟩:=hB.hi
 have a6:=hA.lo
 have b6:=hB.lo
 have a7:=hA.P
 have b7:=hB.P
 have wl:∀{k:Nat} (j:Nat) (h:Hb),k<2->H0[j]?=some h->∃v,(List.replicate 12 (Value.slice none 0 0))[k*6+j]?=some v/\WL M6 (N4+2) (N4+2) A.sd B.sd v (h.w.map (·.1)):=fun{k} j h hk hj=>by
  obtain⟨hj6,rfl⟩:=Dk hj
  exact⟨_,by rw[List.getElem?_replicate,if_pos (by omega)],.inl ⟨rfl,rfl,rfl⟩,fun x n c e=>by cases e⟩
 have sl:∀{k:Nat} (j:Nat) (h:Hb),k<2->H0[j]?=some h->(List.replicate 12 0)[k*6+j]?=some h.s:=fun{k} j h hk hj=>by
  obtain⟨hj6,rfl⟩:=Dk hj
  rw[List.getElem?_replicate,if_pos (by omega)]
 refine⟨H0,H0,fun _=>0,fun _=>0,A.sd,B.sd,p,List.replicate 12 (.slice none 0 0),List.replicate 12 0,?_,?_,ph0⟩
 ·exact⟨.inl (hA.drI (K:=N4+2) (Q:=B.sd) (by omega) fA (by omega) (Nat.le_refl _) (by omega) (by omega)),.inl (hB.drI (K:=N4+2) (Q:=A.sd) (by omega) fB (by omega) (Nat.le_refl _) (by omega) (by omega)),by show PwR A.P M6 p;rw[a7];exact hp,hI,by omega,by show A.P=B.P;omega,rfl,by show A.EN<B.sd\/B.EN<A.sd;omega⟩
 ·exact{
   k2:=by omega
   P:=by show A.P=B.P;omega
   K:=rfl
   wl:=rfl
   sl:=rfl
   wb:=kW
   sb:=kS
   wA:=fun j h hj=>wl (k:=0) j h (by omega) hj
   wB:=fun j h hj=>wl (k:=1) j h (by omega) hj
   sA:=fun j h hj=>sl (k:=0) j h (by omega) hj
   sB:=fun j h hj=>sl (k:=1) j h (by omega) hj
   dj:=fun j1 j2 x n1 c1 n2 c2 _ h1 _=>by cases DJ h1
   lt:=fun j x n1 c1 h1=>by cases DJ h1
   fix:=fun x _ _ _=>rfl
   gap:=by
    show(A.EN<N4/\B.EN<N4/\N4<N4+2)/\(A.EN<N4+1/\B.EN<N4+1/\N4+1<N4+2)/\N4≠N4+1
    omega
   lo:=by
    show n<=A.P/\(n<=n/\n<A.sd/\n<B.sd/\n≠A.P)/\(n2+1<A.sd/\n2+1<B.sd/\n2+1≠A.P)/\(n2<A.sd/\n2<B.sd/\n2≠A.P)
    omega
   vb:=⟨_,kV,rfl,rfl⟩
   db:=⟨_,kD,rfl,rfl⟩
   lb:=⟨_,kL,rfl,rfl⟩
   inA:=hin0
   inB:=hin1
   ntA:=hn0
   ntB:=hn1}
theorem HR(hs:ScY Y)(h4:∀m n,Pure (df PG EL Y 4 [] m n) m n (.bool true)){stop ka kb:Nat}(hin0:iL m n lv0 L0)(hin1:iL m n lv1 L1)(hn0:∀x∈L0,x.Ok)(hn1:∀x∈L1,x.Ok)(hst:stop<65536)(hka:ka<256)(hkb:kb<256)(hl0:L0.length<=40)(hl1:L1.length<=40):Pure (df PG EL Y 3 [.agg #[lv0,lv1],.int .u16 (stop:Int),.agg #[.int .u8 (ka:Int),.int .u8 (kb:Int)]] m n) m n (.bool true):=by
 have hU:=hs.up
 obtain⟨a1,a2,a3,a4⟩:=hin0
 obtain⟨b1,b2,b3,b4⟩:=hin1
 refine dz e3 rfl rfl ?_
 simp only[ac3]
 simp -implicitDefEqProofs (disch:=omega)only[W2,dd,Nat.testBit,Nat.reduceAdd,Nat.reduceShiftRight,Nat.reduceAnd,Nat.reduceBNe,Nat.reduceMul,a3,b3]
 refine di (h4 _ _) fun r1=>?_
 generalize hM1:(AMem.put (AMem.put m n _) (n+1) _:FM)=M1
 have l1:∀b,b<n->M1 b=m b:=fun b hb=>by rw[<-hM1,dc _ _ _ _ (by omega),dc _ _ _ _ (by omega)]
 have k1:M1 n=some (.cells [lv0,lv1] 0 false true):=by rw[<-hM1,dc _ _ _ _ (by omega)];exact de _ _ _
 have k2:M1 (n+1)=some (.cells [.int .u8 (ka:Int),.int .u8 (kb:Int)] 0 false true):=by rw[<-hM1];exact de _ _ _
 clear hM1
 have ba0:=a2 (n+2) (by omega)
 have ba1:=b2 (n+2) (by omega)
 simp -implicitDefEqProofs (disch:=omega)only[W2,dd,Nat.testBit,Nat.reduceAdd,Nat.reduceShiftRight,Nat.reduceAnd,Nat.reduceBNe,Nat.reduceMul,k1,a1,b1,a3,b3,ba0,ba1]
 refine dw (Ce M1 (n+2)) fun r2 m2 n2 r3 w2 hh=>?_
 obtain⟨p1,p2,p3,rfl,p4,p5⟩:=hh
 simp -implicitDefEqProofs (disch:=omega)only[W2,dd,Nat.testBit,Nat.reduceAdd,Nat.reduceShiftRight,Nat.reduceAnd,Nat.reduceBNe,Nat.reduceMul]
 generalize hM3:(AMem.put (AMem.put m2 n2 _) (n2+1) _:FM)=M3
 have l3:∀b,b<n2->M3 b=m2 b:=fun b hb=>by rw[<-hM3,dc _ _ _ _ (by omega),dc _ _ _ _ (by omega)]
 have kD3:M3 n2=some (.cells [.pointer none,.pointer none] 0 false true):=by rw[<-hM3,dc _ _ _ _ (by omega)];exact de _ _ _
 have kV3:M3 (n2+1)=some (.cells [.pointer none,.pointer none] 0 false true):=by rw[<-hM3];exact de _ _ _
 clear hM3
 refine fL (K6 hU (P:=n+2) (DB:=n2) (VB:=n2+1) ⟨by omega,by omega,by omega,by omega,by omega,by omega⟩ ((l3 _ p4).trans p5) ⟨rfl,rfl,rfl⟩ kD3 kV3 _ _ _ _ _ _ _ _ _ _ fun y0 y2 M4 N4 w4 A B pA pB dA dB MA NA MB p' hA hB hAN fA fB hp4 hun4 f4 kD4 kV4=>?_)
 intro rr
 have cvs:=Oy (stop % 400) (by omega)
 have r400:=KM stop 400 (by omega)
 simp only[show((400:Nat):Int)=400 from rfl]at r400
 simp -implicitDefEqProofs (disch:=omega)only[W2,dd,Nat.testBit,Nat.reduceAdd,Nat.reduceShiftRight,Nat.reduceAnd,Nat.reduceBNe,Nat.reduceMul,r400,cvs]
 obtain⟨a1',a2',a3',a4',a5'⟩:=hA.hi
 obtain⟨b1',b2',b3',b4',b5'⟩:=hB.hi
 have a6:=hA.lo
 have b6:=hB.lo
 have a7:=hA.P
 refine dw (BF (show n+2<N4 by omega) hp4 hun4.1 (stop % 400)) fun r5 m5 n5 r6 w5 hh=>?_
 obtain⟨_,rfl,f5,hp5⟩:=hh
 have g5:∀b,b≠n+2->m5 b=M4 b:=fun b hb=>(f5 b hb).1
 have k5L:m5 n=some (.cells [lv0,lv1] 0 false true):=by
  rw[g5 n (by omega),(f4 n (by omega) (by omega) (by omega) (by omega)).1,l3 n (by omega),p2 n (by omega)];exact k1
 have k5K:m5 (n+1)=some (.cells [.int .u8 (ka:Int),.int .u8 (kb:Int)] 0 false true):=by
  rw[g5 _ (by omega),(f4 _ (by omega) (by omega) (by omega) (by omega)).1,l3 _ (by omega),p2 _ (by omega)];exact k2
 have hlo5:∀b,b<n->m5 b=m b:=fun b hb=>by
  rw[g5 _ (by omega),(f4 _ (by omega) (by omega) (by omega) (by omega)).1,l3 _ (by omega),p2 _ (by omega),l1 b hb]
 have bb0:=a2 (n5+2) (by omega)
 have bb1:=b2 (n5+2) (by omega)
 have hmx:mxV (.int .i64 (L0.length:Int)) (.int .i64 (L1.length:Int))=some (.int .i64 ((Nat.max L0.length L1.length:Nat):Int)):=KZ _ _
 have hmxl:Nat.max L0.length L1.length<=40:=Nat.max_le.2 ⟨hl0,hl1⟩
 simp -implicitDefEqProofs (disch:=omega)only[W2,dd,Nat.testBit,Nat.reduceAdd,Nat.reduceShiftRight,Nat.reduceAnd,Nat.reduceBNe,Nat.reduceMul,k5L,a1,b1,bb0,bb1,hmx]
 generalize hM6:(AMem.put (AMem.put m5 n5 _) (n5+1) _:FM)=M6
 have l6:∀b,b<n5->M6 b=m5 b:=fun b hb=>by rw[<-hM6,dc _ _ _ _ (by omega),dc _ _ _ _ (by omega)]
 have kW6:M6 n5=some (.cells (List.replicate 12 (.slice none 0 0)) 0 false true):=by rw[<-hM6,dc _ _ _ _ (by omega)];exact de _ _ _
 have kS6:M6 (n5+1)=some (.cells (ef (List.replicate 12 0)) 0 false true):=by rw[<-hM6];exact de _ _ _
 clear hM6
 have hlo6:∀b,b<n->M6 b=m b:=fun b hb=>(l6 b (by omega)).trans (hlo5 b hb)
 have k6K:=(l6 (n+1) (by omega)).trans k5K
 have hS0:=FQ (M6:=M6) (by omega) hA hB hAN (fun x h1 h2=>by rw[l6 x (by omega),g5 x (by omega),fA x h1 h2]) (fun x h1 h2=>by rw[l6 x (by omega),g5 x (by omega),fB x h1 h2]) ((l6 _ (by omega)).trans hp5) (.inl ⟨rfl,hun4.2.2⟩) ((l6 _ (by omega)).trans ((g5 _ (by omega)).trans kD4)) ((l6 _ (by omega)).trans ((g5 _ (by omega)).trans kV4)) ((l6 _ (by omega)).trans k5L) kW6 kS6 (iL.mono ⟨a1,a2,a3,a4⟩ hlo6) (iL.mono ⟨b1,b2,b3,b4⟩ hlo6) hn0 hn1
 have k0:∀x,x<n->Nat.testBit (0:Nat) x=false:=fun x _=>Nat.zero_testBit _
 rw[<-a7]
 refine fL ((Fy hU (mx:=Nat.max L0.length L1.length) hmxl _ _ _ _ _ _ _ _ _ _ (fun x1 M7 N7 w7 hS m7=>?_) (Nat.max L0.length L1.length) 0 (Nat.zero_add _) _ M6 (n5+2) 0 hS0 k0).mono fun X e m' n' w hq=>by simpa only[dx]using hq)
 intro r7
 obtain⟨HA,HB,gA,gB,a,b,p6,ws,ss,t2,tm,tp⟩:=hS
 have hpw:PwR A.P M7 p6:=t2.pw
 obtain⟨_,hK7,haN7,hak7,hbN7⟩:=t2.ids
 have hK7':n5+2<=N7:=hK7
 have hak':n5+2<=a\/a=A.sd:=hak7
 have htb:800*Nat.max L0.length L1.length<=50000:=by omega
 have hEP:A.P<A.sd/\A.sd<A.EN/\A.EN<n5+2/\n5+2<=N7:=by omega
 simp -implicitDefEqProofs (disch:=omega)only[W2,dd,Nat.testBit,Nat.reduceAdd,Nat.reduceShiftRight,Nat.reduceAnd,Nat.reduceBNe,Nat.reduceMul]
 refine di (Hx (show A.P<N7 by omega) hpw) fun r8=>?_
 cases ho:p6.off with
 |true=>
  simp -implicitDefEqProofs (disch:=omega)only[W2,dd,Nat.testBit,Nat.reduceAdd,Nat.reduceShiftRight,Nat.reduceAnd,Nat.reduceBNe,Nat.reduceMul]
  obtain⟨eA,eB,qA,qB,hdd⟩:=EA t2 tm tp htb ho
  refine fL (tZ hdd hka hkb (KB:=n+1) ⟨by show n+1<A.sd;omega,by show n+1<B.sd;omega,by show n+1≠A.P;omega⟩ k6K _ _ _ _ _ _ _ _ _ _ _ _ _ _ _ _ _ _ fun z0 z2 M9 N9 w9 XA XB hr m9=>?_)
  intro r9
  simp -implicitDefEqProofs (disch:=omega)only[W2,dd,Nat.testBit,Nat.reduceAdd,Nat.reduceShiftRight,Nat.reduceAnd,Nat.reduceBNe,Nat.reduceMul]
  have hN9:n5+2<=N9:=hr.rA.KN
  refine dw (D6 (show A.P<N9 by omega) hr.pw) fun r10 m10 n10 r11 w10 hh=>?_
  obtain⟨_,rfl,f10,hp10⟩:=hh
  have hfin:=hr.on (M':=m10) (fun x hx=>(f10 x hx).1) hp10
  simp -implicitDefEqProofs (disch:=omega)only[W2,dd,Nat.testBit,Nat.reduceAdd,Nat.reduceShiftRight,Nat.reduceAnd,Nat.reduceBNe,Nat.reduceMul]
  refine fL (D1 hs ⟨_,hfin⟩ (by omega) _ _ _ _ _ _ _ _ _ _ _ _ _ _ _ _ _ _ _ fun e11 M11 N11 w11 m11=>?_)
  intro r12
  simp -implicitDefEqProofs (disch:=omega)only[W2,dd,Nat.testBit,Nat.reduceAdd,Nat.reduceShiftRight,Nat.reduceAnd,Nat.reduceBNe,Nat.reduceMul]
  have q2:=p3 n (by omega)
  have q4:Nat.mod w4 (bit n)=0:=fm fun x hx=>(f4 x (by omega) (by omega) (by omega) (by omega)).2
  have q5:Nat.mod w5 (bit n)=0:=fm fun x hx=>(f5 x (by omega)).2
  have q7:Nat.mod w7 (bit n)=0:=fm fun x hx=>m7 x hx
  have q9:Nat.mod w9 (bit n)=0:=fm fun x hx=>m9 x hx
  have q10:Nat.mod w10 (bit n)=0:=fm fun x hx=>(f10 x (by omega)).2
  have q11:Nat.mod w11 (bit n)=0:=fm fun x hx=>m11 x hx
  simp only[q2,q4,q5,q7,q9,q10,q11,and_self]
 |false=>
  simp -implicitDefEqProofs (disch:=omega)only[W2,dd,Nat.testBit,Nat.reduceAdd,Nat.reduceShiftRight,Nat.reduceAnd,Nat.reduceBNe,Nat.reduceMul]
  refine dw (BF (show A.P<N7 by omega) hpw ho 0) fun r8 m8 n8 r9 w8 hh=>?_
  obtain⟨_,rfl,f8,hp8⟩:=hh
  have hfl:p6.fl=0:=by
   rcases t2.pi with⟨_,h⟩|⟨h,_⟩
   ·exact h
   ·rw[ho]at h;cases h
  have t28:=t2.wI (M':=m8) (p':=⟨false,true,0,p6.fl⟩) (fun x hx=>(f8 x hx).1) hp8 (.inl ⟨rfl,hfl⟩) (fun h=>by rw[ho]at h;cases h)
  have tm8:=tm.wI (M':=m8) hEP hak' fun x hx=>(f8 x hx).1
  obtain⟨vs,v1,v2,v3⟩:=tm8.vb
  have kVB:=(tm8.fix (n2+1) (by show n2+1<A.sd;omega) (by show n2+1<B.sd;omega) (by show n2+1≠A.P;omega)).trans v1
  simp -implicitDefEqProofs (disch:=omega)only[W2,dd,Nat.testBit,Nat.reduceAdd,Nat.reduceShiftRight,Nat.reduceAnd,Nat.reduceBNe,Nat.reduceMul,kVB,v2]
  have hfls:Rt (df PG EL Y 11 [.pointer (some ⟨A.R,0,none⟩)] m8 n8) fun r m' n' w=>TwoF {A with K:=n5+2} {B with K:=n5+2} (FaH HA) (FaH HB) gA gB (fT HA) (fT HB) (800*Nat.max L0.length L1.length) a b ⟨false,true,0,p6.fl⟩ m8 n8 r m' n' w:=wg hU t28 (by omega)
  refine dw hfls fun r13 m13 n13 r14 w13 hh=>?_
  obtain⟨u1,u2,a',p13,u3,u4⟩:=hh
  have u4:r13=.int .i64 13/\p13.off=true/\Two {A with K:=n5+2} {B with K:=n5+2} (FaH HA) (FaH HB) gA gB (fT HA) (fT HB) (800*Nat.max L0.length L1.length) a' b m13 n13 p13:=by
   rcases u4 with⟨_,u,_⟩|u
   ·exact absurd ⟨rfl,rfl⟩ u
   ·exact u
  obtain⟨rfl,u5,t13⟩:=u4
  have tm13:=tm8.op (w:=w13) hEP hak' u1 u2 u3
  simp -implicitDefEqProofs (disch:=omega)only[W2,dd,Nat.testBit,Nat.reduceAdd,Nat.reduceShiftRight,Nat.reduceAnd,Nat.reduceBNe,Nat.reduceMul]
  obtain⟨eA,eB,qA,qB,hdd⟩:=EA t13 tm13 tp htb u5
  have u2':∀x,x<n->Nat.testBit w13 x=false:=fun x hx=>(u2 x (by omega) (by show x≠A.P;omega) (by show¬(A.sd<=x/\x<=A.EN);omega) (by omega)).2
  refine fL (tZ hdd hka hkb (KB:=n+1) ⟨by show n+1<A.sd;omega,by show n+1<B.sd;omega,by show n+1≠A.P;omega⟩ k6K _ _ _ _ _ _ _ _ _ _ _ _ _ _ _ _ _ _ fun z0 z2 M9 N9 w9 XA XB hr m9=>?_)
  intro r9
  simp -implicitDefEqProofs (disch:=omega)only[W2,dd,Nat.testBit,Nat.reduceAdd,Nat.reduceShiftRight,Nat.reduceAnd,Nat.reduceBNe,Nat.reduceMul]
  have hN9:n5+2<=N9:=hr.rA.KN
  refine dw (D6 (show A.P<N9 by omega) hr.pw) fun r10 m10 n10 r11 w10 hh=>?_
  obtain⟨_,rfl,f10,hp10⟩:=hh
  have hfin:=hr.on (M':=m10) (fun x hx=>(f10 x hx).1) hp10
  simp -implicitDefEqProofs (disch:=omega)only[W2,dd,Nat.testBit,Nat.reduceAdd,Nat.reduceShiftRight,Nat.reduceAnd,Nat.reduceBNe,Nat.reduceMul]
  refine fL (D1 hs ⟨_,hfin⟩ (by omega) _ _ _ _ _ _ _ _ _ _ _ _ _ _ _ _ _ _ _ fun e11 M11 N11 w11 m11=>?_)
  intro r12
  simp -implicitDefEqProofs (disch:=omega)only[W2,dd,Nat.testBit,Nat.reduceAdd,Nat.reduceShiftRight,Nat.reduceAnd,Nat.reduceBNe,Nat.reduceMul]
  have q2:=p3 n (by omega)
  have q4:Nat.mod w4 (bit n)=0:=fm fun x hx=>(f4 x (by omega) (by omega) (by omega) (by omega)).2
  have q5:Nat.mod w5 (bit n)=0:=fm fun x hx=>(f5 x (by omega)).2
  have q7:Nat.mod w7 (bit n)=0:=fm fun x hx=>m7 x hx
  have q9:Nat.mod w9 (bit n)=0:=fm fun x hx=>m9 x hx
  have q10:Nat.mod w10 (bit n)=0:=fm fun x hx=>(f10 x (by omega)).2
  have q11:Nat.mod w11 (bit n)=0:=fm fun x hx=>m11 x hx
  have q8:Nat.mod w8 (bit n)=0:=fm fun x hx=>(f8 x (by omega)).2
  have q13:Nat.mod w13 (bit n)=0:=fm fun x hx=>u2' x hx
  simp only[q2,q4,q5,q7,q9,q10,q11,q8,q13,and_self]
end Go.Am.CD
namespace Go.Am
open Go Go.Am.V Go.RowKit
theorem Env.topW{P:Program}{tab:List (Nat×AFn)}{Y:Nat->List Value->FM->Nat->OR FM}(h:Env P tab Y){f:Nat}{args:List Value}{m0 m:FM}{n0 n r wm:Nat}(hrun:df P (look tab) Y f args m0 n0=.ok (.bool true) m n r wm)
  {ρ:Ren} {w:World} {args':Array Value} (ha:dO ρ args args'.toList) (hm:MRel ρ m0 w w.heap.size) (hf:gI ρ n0):
  Calls P f args' w fun e w'=>e=.returned (.bool true)/\Below w.heap.size w w':=by
 obtain⟨k,hk⟩:=uX f args m0 n0 _ _ _ _ _ hrun
 obtain⟨_,hc⟩:=h.calls k f args m0 n0 (.bool true) m n r wm (hk k (Nat.le_refl _)) ρ m0 w w.heap.size (Nat.lor r wm) args' ha (Sub.refl _) (fun b hb _=>rfl) hm hf
 refine hc.mono fun e w' hh=>?_
 obtain⟨ρ',v',rfl,hv,hp⟩:=hh
 rw[hv.dN rfl]
 exact⟨rfl,hp.below⟩
theorem Gg{w:World}{a:Addr}{n:Nat}{f:Nat->Value}(h0:0<n)(h:∀i,i<n->w.cell? (a.add i)=some (f i)):
  ∃(blk off:Nat) (cc:Array Value) (e:TypeId) (fz:Nat×Nat),a=⟨blk,off,none⟩/\w.heap[blk]?=some (.cells cc e fz)/\off+n<=cc.size/\∀i,i<n->cc[off+i]?=some (f i):=by
 obtain⟨blk,off,spot⟩:=a
 have ha:∀i,(Addr.add ⟨blk,off,spot⟩ i).block=blk/\(Addr.add ⟨blk,off,spot⟩ i).off=off+i:=fun i=>by
  unfold Addr.add
  by_cases hi:i=0
  ·rw[if_pos hi,hi];exact⟨rfl,rfl⟩
  ·rw[if_neg hi];exact⟨rfl,rfl⟩
 have hc:=h 0 h0
 have hadd:Addr.add ⟨blk,off,spot⟩ 0=⟨blk,off,spot⟩:=by unfold Addr.add;rw[if_pos rfl]
 rw[hadd]at hc
 unfold World.cell? at hc
 split at hc
 ·rename_i cc e fz hh
  replace hh:w.heap[blk]?=some (.cells cc e fz):=hh
  cases spot with
  |some s=>simp at hc
  |none=>
   have hall:∀i,i<n->cc[off+i]?=some (f i):=fun i hi=>by
    have hci:=h i hi
    unfold World.cell? at hci
    rw[(ha i).1,hh,(ha i).2]at hci
    replace hci:(if(Addr.add ⟨blk,off,none⟩ i).spot.isSome then none else cc[off+i]?)=some (f i):=hci
    split at hci
    ·cases hci
    ·exact hci
   refine⟨blk,off,cc,e,fz,rfl,hh,?_,hall⟩
   have:=(Array.getElem?_eq_some_iff.1 (hall (n-1) (by omega))).1
   omega
 ·cases hc
open Go Go.RowKit
structure Ent where
 p:Place
 cs:List Value
def uJ(L:List (Option Ent)):Ren:=fun b=>(L[b]?).bind fun o=>o.map (·.p)
def oT(L:List (Option Ent)):FM:=fun b=>(L[b]?).bind fun o=>o.map fun e=>.cells e.cs e.p.sz false false
structure EntOk(w:World)(ρ:Ren)(e:Ent):Prop where
 ok:∃(cc:Array Value) (ty:TypeId) (fz:Nat×Nat),w.heap[e.p.blk]?=some (.cells cc ty fz)/\e.p.base+e.cs.length<=cc.size/\∀(j:Nat) x,e.cs[j]?=some x->∃y,cc[e.p.base+j]?=some y/\VRel ρ x y
theorem F4{w:World}{L:List (Option Ent)}(hgl:kl w.heap.size w)(h:∀(i:Nat) e,L[i]?=some (some e)->EntOk w (uJ L) e):MRel (uJ L) (oT L) w w.heap.size/\gI (uJ L) L.length:=by
 have hlt:∀{b:Nat} {x},w.heap[b]?=some x->b<w.heap.size:=fun hb=>(Array.getElem?_eq_some_iff.1 hb).1
 refine⟨⟨?_,?_,?_,Nat.le_refl _,hgl⟩,?_⟩
 ·intro b p O hp hO
  replace hp:((L[b]?).bind fun o=>o.map (·.p))=some p:=hp
  replace hO:((L[b]?).bind fun o=>o.map fun e=>Blk.cells e.cs e.p.sz false false)=some O:=hO
  cases hy:L[b]? with
  |none=>rw[hy]at hp;cases hp
  |some o=>
   rw[hy]at hp hO
   cases o with
   |none=>cases hp
   |some e=>
   injection hp with hp;subst hp
   injection hO with hO;subst hO
   obtain⟨cc,ty,fz,h1,h2,h3⟩:=(h b e hy).ok
   exact⟨rfl,cc,ty,fz,h1,h3,fun h=>absurd h (by decide),fun h=>absurd h (by decide),h2⟩
 ·intro b1 b2 p1 p2 O1 O2 _ _ hO1 _ _ hw
  replace hO1:((L[b1]?).bind fun o=>o.map fun e=>Blk.cells e.cs e.p.sz false false)=some O1:=hO1
  cases hy:L[b1]? with
  |none=>rw[hy]at hO1;cases hO1
  |some o=>
   rw[hy]at hO1
   cases o with
   |none=>cases hO1
   |some e=>injection hO1 with hO1;subst hO1;cases hw
 ·intro b p hp
  replace hp:((L[b]?).bind fun o=>o.map (·.p))=some p:=hp
  cases hy:L[b]? with
  |none=>rw[hy]at hp;cases hp
  |some o=>
   rw[hy]at hp
   cases o with
   |none=>cases hp
   |some e=>
   injection hp with hp;subst hp
   obtain⟨cc,ty,fz,h1,h2,h3⟩:=(h b e hy).ok
   exact hlt h1
 ·intro b hb
  show(L[b]?).bind _=none
  rw[List.getElem?_eq_none (by omega)];rfl
open Go Go.RowKit Go.ChangeShapes
theorem Bm{w:World}{base k:Nat}{a:Addr}{l:List Value}(h:w.cells? base a k=some l)(hk:0<k):∃(blk off:Nat) (cc:Array Value) (ty:TypeId) (fz:Nat×Nat),a=⟨blk,off,none⟩/\w.heap[blk]?=some (.cells cc ty fz)/\off+k<=cc.size/\l.length=k/\∀j,j<k->cc[off+j]?=l[j]?:=by
 obtain⟨_,hl,hc⟩:=World.cells?_some h
 have hget:∀i,i<k->w.cell? (a.add i)=some (l.getD i undef):=fun i hi=>by
  have h1:l[i]?=some (l.getD i undef):=by rw[List.getD_eq_getElem?_getD,List.getElem?_eq_getElem (by omega)];rfl
  have:=hc i hi
  rw[h1]at this
  exact this
 obtain⟨blk,off,cc,ty,fz,rfl,hh,hs,hcell⟩:=Gg hk hget
 refine⟨blk,off,cc,ty,fz,rfl,hh,hs,hl,fun j hj=>?_⟩
 rw[hcell j hj,List.getD_eq_getElem?_getD,List.getElem?_eq_getElem (by omega)];rfl
theorem OK(blk off i:Nat):Addr.add ⟨blk,off,none⟩ i=⟨blk,off+i,none⟩:=by
 unfold Addr.add
 by_cases h:i=0
 ·rw[if_pos h,h];rfl
 ·rw[if_neg h]
def vJ(w:World)(k:Nat)(R:List Value->Prop)(v:Value)(len:Nat):Prop:=
 (v=.slice none 0 0/\len=0)\/(∃a c,v=.slice (some a) 0 c/\len=0)\/
  ∃(blk off cap:Nat) (cc:Array Value) (ty:TypeId) (fz:Nat×Nat),v=.slice (some ⟨blk,off,none⟩) len cap/\0<len/\len<=cap/\w.heap[blk]?=some (.cells cc ty fz)/\off+len*k<=cc.size/\
   ∀i,i<len->∃l:List Value,l.length=k/\(∀j,j<k->cc[off+i*k+j]?=l[j]?)/\R l
theorem vN{H:Type}{enc:TypeId×Value->H}{P:Program}{w:World}{held:Bool}{sp:Nat->Bool}{t e k:Nat}{fuel:Nat}{cs:List Value}{x:DataW H×List MemPlace}(ht:P.underlying t=some (.slice e))(ck:P.cellsOf e=k)(hk:0<k)
  (h:DataW.trod enc P w 0 sp held fuel t cs=some x):∃v len,cs=[v]/\len<=maxLen/\vJ w k (fun l=>∃n y,DataW.trod enc P w 0 sp held n e l=some y) v len:=by
 rcases DataW.trod_slice ht h with⟨rfl,_⟩|⟨a,len,cap,elems,rest,n,_,rfl,_,_,hlc,hcm,hel,hi,_⟩
 ·exact⟨_,0,rfl,Nat.zero_le _,.inl ⟨rfl,rfl⟩⟩
 ·rcases Nat.eq_zero_or_pos len with h0|h0
  ·subst h0
   exact⟨_,0,rfl,Nat.zero_le _,.inr (.inl ⟨a,cap,rfl,rfl⟩)⟩
  ·have key:∀i,i<len->∃l y,w.cells? 0 (a.add (i*k)) k=some l/\DataW.trod enc P w 0 sp held n e l=some y:=fun i hil=>by
    have h1:=hi i hil
    rw[ck,List.getElem?_eq_getElem (by omega)]at h1
    cases hc:w.cells? 0 (a.add (i*k)) k with
    |none=>rw[hc]at h1;cases h1
    |some l=>rw[hc]at h1;exact⟨l,_,rfl,h1⟩
   obtain⟨l0,y0,c0,_⟩:=key 0 h0
   have ha:a.add (0*k)=a:=by rw[Nat.zero_mul];rfl
   rw[ha]at c0
   obtain⟨blk,off,cc,ty,fz,rfl,hh,_,_,_⟩:=Bm c0 hk
   have all:∀i,i<len->∃l:List Value,l.length=k/\off+i*k+k<=cc.size/\(∀j,j<k->cc[off+i*k+j]?=l[j]?)/\∃n y,DataW.trod enc P w 0 sp held n e l=some y:=fun i hil=>by
    obtain⟨l,y,c,hy⟩:=key i hil
    rw[OK]at c
    obtain⟨blk',off',cc',ty',fz',he,hh',hs,hl,hj⟩:=Bm c hk
    injection he with e1 e2 _
    subst e1;subst e2
    rw[hh]at hh'
    injection hh' with hh';injection hh' with q1 q2 q3
    subst q1
    exact⟨l,hl,hs,hj,n,y,hy⟩
   refine⟨_,len,rfl,by omega,.inr (.inr ⟨blk,off,cap,cc,ty,fz,rfl,h0,hlc,hh,?_,fun i hil=>?_⟩)⟩
   ·obtain⟨_,_,hs,_⟩:=all (len-1) (by omega)
    have:len*k=(len-1)*k+k:=by
     obtain⟨q,rfl⟩:∃q,len=q+1:=⟨len-1,by omega⟩
     rw[Nat.add_sub_cancel,Nat.succ_mul]
    omega
   ·obtain⟨l,hl,_,hj,hy⟩:=all i hil
    exact⟨l,hl,hj,hy⟩
def intOf:Value->Int
 | .int _ n=>n
 |_=>0
theorem vJ.mono{w:World}{k:Nat}{R R':List Value->Prop}{v:Value}{len:Nat}(h:vJ w k R v len)(hr:∀l,l.length=k->R l->R' l):vJ w k R' v len:=by
 rcases h with h|h|⟨blk,off,cap,cc,ty,fz,h1,h2,h3,h4,h5,h6⟩
 ·exact .inl h
 ·exact .inr (.inl h)
 ·exact .inr (.inr ⟨blk,off,cap,cc,ty,fz,h1,h2,h3,h4,h5,fun i hi=>by
   obtain⟨l,q1,q2,q3⟩:=h6 i hi
   exact⟨l,q1,q2,hr l q1 q3⟩⟩)
end Go.Am
namespace Go.Am.CD
open Go Go.Am Go.Am.V Go.RowKit
set_option maxRecDepth 1000000
variable{cs:List Value}{fuel:Nat}{v:Value}{x:Nt}{l:List Nt}{ps:List MemPlace}
theorem Good.filter{P:Program}{l:List (Nat×AFn)}(p:Nat×AFn->Bool)(h:Am.Good P l):Am.Good P (l.filter p):=by
 induction h with
 |nil=>exact .nil
 |@cons f fn af l h hc hl ih=>
  rw[List.filter_cons]
  split
  ·exact .cons h hc ih
  ·exact ih
theorem Nx:Am.Good Proofs.Tryz.prog NR:=Good.filter _ yI
noncomputable def yB:Nat->List Value->FM->Nat->OR FM:=yX awA (mw awA)
theorem codeB(k:Nat):kK FM PG EL awA k:=(qm K2 uN tc yT Nx.look k).1
theorem KF:eQ (μ:=FM) PG (mw awA):=GZ tc yT codeB
theorem envB:Env Proofs.Tryz.prog NR yB where
 mix:=K2
 yI:=Nx
 loc:=tf tc G0
 sim:=td yT KF
theorem upA:YUp awA:=fun f args m n v m' n' r wm h=>by
 obtain⟨_,_,_,rfl,rfl,rfl,rfl⟩:=C7 h
 exact⟨Nat.le_refl _,fun b hb=>⟨by simp,by simp⟩⟩
theorem upB:YUp yB:=fun f args m n v m' n' r wm h=>by
 unfold yB yX at h
 split at h
 ·exact KE _ _ _ _ _ _ _ _ _ h
 ·rename_i h1
  injection h with e1 e2 e3 e4 e5
  subst e1;subst e2;subst e3;subst e4;subst e5
  exact upA _ _ _ _ _ _ _ _ _ h1
theorem scB:ScY yB:=⟨upB,awA,tc,fun args m n=>rfl⟩
theorem vp(m:FM)(n:Nat):Pure (df PG EL yB 4 [] m n) m n (.bool true):=by
 unfold df dX
 rw[e4]
 exact⟨0,rfl⟩
theorem HS{m:FM}{n:Nat}{lv0 lv1:Value}{k0 k1:Nat}(h0:jS false lv0=some (.int .i64 (k0:Int)))(h1:jS false lv1=some (.int .i64 (k1:Int)))(o0:Am.one lv0=true)(o1:Am.one lv1=true)(b0:∀n',n<=n'->et n' lv0=true)(b1:∀n',n<=n'->et n' lv1=true)(hk:40<k0\/40<k1)(stop ka kb:Nat):Pure (df PG EL yB 3 [.agg #[lv0,lv1],.int .u16 (stop:Int),.agg #[.int .u8 (ka:Int),.int .u8 (kb:Int)]] m n) m n (.bool true):=by
 refine dz e3 rfl rfl ?_
 simp only[ac3]
 simp -implicitDefEqProofs (disch:=omega)only[W2,dd,Nat.testBit,Nat.reduceAdd,Nat.reduceShiftRight,Nat.reduceAnd,Nat.reduceBNe,Nat.reduceMul,o0,o1]
 refine di (vp _ _) fun r1=>?_
 have c0:=b0 (n+2) (by omega)
 have c1:=b1 (n+2) (by omega)
 by_cases hq:40<k0
 ·simp -implicitDefEqProofs (disch:=omega)only[W2,dd,Nat.testBit,Nat.reduceAdd,Nat.reduceShiftRight,Nat.reduceAnd,Nat.reduceBNe,Nat.reduceMul,h0,c0]
 ·have hq1:40<k1:=by omega
  simp -implicitDefEqProofs (disch:=omega)only[W2,dd,Nat.testBit,Nat.reduceAdd,Nat.reduceShiftRight,Nat.reduceAnd,Nat.reduceBNe,Nat.reduceMul,h0,h1,c0,c1]
open Go Go.Am Go.Am.V Go.RowKit Go.ChangeShapes
def pq(w:World)(v:Value)(l:List Nt):Prop:=
 (v=.slice none 0 0/\l=[])\/(∃a c,v=.slice (some a) 0 c/\l=[])\/
  ∃(blk off cap:Nat) (cc:Array Value) (ty:TypeId) (fz:Nat×Nat),v=.slice (some ⟨blk,off,none⟩) l.length cap/\0<l.length/\l.length<=cap/\w.heap[blk]?=some (.cells cc ty fz)/\off+l.length*10<=cc.size/\∀i (h:i<l.length),∀j,j<10->cc[off+i*10+j]?=l[i].cells[j]?
theorem yy(h:x.Ok):x.cells.length=10:=by
 obtain⟨_,_,_,_,_,_,_,_,_,e⟩:=nc h
 rw[e];rfl
theorem KX(h:x.Ok):∀y∈x.cells,flat y=true:=by
 obtain⟨_,_,_,_,_,_,_,_,_,e⟩:=nc h
 rw[e]
 intro y hy
 simp only[List.mem_cons,List.not_mem_nil,or_false]at hy
 rcases hy with rfl|rfl|rfl|rfl|rfl|rfl|rfl|rfl|rfl|rfl<;>rfl
theorem yx:∀{l:List Nt},(∀x∈l,x.Ok)->(eE l).length=l.length*10
 |[],_=>rfl
 |x::l,h=>by
  rw[show eE (x::l)=x.cells++eE l by simp[eE],List.length_append,yy (h x List.mem_cons_self),yx fun y hy=>h y (List.mem_cons_of_mem _ hy),List.length_cons]
  omega
theorem KW(h:∀x∈l,x.Ok){i:Nat}(hi:i<l.length){j:Nat}(hj:j<10):(eE l)[i*10+j]?=l[i].cells[j]?:=by
 obtain⟨rest,hr⟩:=jx (l:=l) (fun x hx=>yy (h x hx)) i hi
 rw[<-List.getElem?_drop,hr,List.getElem?_append_left (by rw[yy (h _ (List.getElem_mem hi))];exact hj)]
theorem wL{w:World}{sv:Value}(h:pq w sv l)(hk:∀x∈l,x.Ok)(i:Nat):∃(o:Option Am.Ent) (v:Value),(∀ρ:Ren,(∀e,o=some e->ρ i=some e.p)->VRel ρ v sv)/\(∀ρ e,o=some e->EntOk w ρ e)/\
  ∀(m:FM) (n:Nat),i<n->(∀e,o=some e->m i=some (.cells e.cs e.p.sz false false))->iL m n v l:=by
 rcases h with⟨rfl,rfl⟩|⟨a,c,rfl,rfl⟩|⟨blk,off,cap,cc,ty,fz,rfl,h0,h1,h2,h3,h4⟩
 ·exact⟨none,.slice none 0 0,fun ρ _=>.flat rfl,fun ρ e h=>(by cases h),fun m n _ _=>⟨rfl,fun n' _=>rfl,rfl,fun j hj=>absurd hj (Nat.not_lt_zero j)⟩⟩
 ·refine⟨none,.slice (some ⟨0,0,none⟩) 0 VAG,fun ρ _=>.vag,fun ρ e h=>(by cases h),fun m n hi _=>⟨rfl,fun n' hn=>?_,rfl,fun j hj=>absurd hj (Nat.not_lt_zero j)⟩⟩
  show Nat.blt 0 n'=true
  rw[Nat.blt_eq];omega
 ·refine⟨some ⟨⟨blk,off,cap*10,10⟩,eE l⟩,.slice (some ⟨i,0,none⟩) l.length UNK,fun ρ hρ=>?_,fun ρ e he=>?_,fun m n hi hm=>⟨rfl,fun n' hn=>?_,rfl,fun j hj=>?_⟩⟩
  ·exact VRel.slice (p:=⟨blk,off,cap*10,10⟩) (hρ _ rfl) h1 (fun _=>by show 0+cap*10=cap*10;omega) (fun h=>absurd rfl h) (by decide)
  ·injection he with he;subst he
   refine⟨cc,ty,fz,h2,by show off+(eE l).length<=_;rw[yx hk];exact h3,fun j x hx=>?_⟩
   replace hx:(eE l)[j]?=some x:=hx
   have hj:j<l.length*10:=by rw[<-yx hk];exact(List.getElem?_eq_some_iff.1 hx).1
   have hq:j / 10<l.length:=by omega
   have hr:j % 10<10:=Nat.mod_lt _ (by omega)
   have e1:=KW hk hq hr
   have e2:=h4 (j / 10) hq (j % 10) hr
   rw[show j / 10*10+j % 10=j by omega]at e1
   rw[show off+j / 10*10+j % 10=off+j by omega,<-e1,hx]at e2
   have hfl:flat x=true:=KX (hk _ (List.getElem_mem hq)) x (List.mem_of_getElem? (i:=j % 10) (by rw[<-e1];exact hx))
   exact⟨x,e2,.flat hfl⟩
  ·show Nat.blt i n'=true
   rw[Nat.blt_eq];omega
  ·obtain⟨rest,hr⟩:=jx (l:=l) (fun x hx=>yy (hk x hx)) j hj
   exact⟨i,j*10,_,_,_,_,rest,by rw[eY hj,Nat.zero_add],hi,hm _ rfl,by rw[jd];exact hr⟩
theorem u49:PG.underlying 49=some (.struct (PG.fieldsOf 49)):=by kernel_rfl
theorem u22:PG.underlying 22=some (.slice 49):=by kernel_rfl
theorem u23:PG.underlying 23=some (.array 2 22):=by kernel_rfl
theorem u25:PG.underlying 25=some (.array 2 5):=by kernel_rfl
theorem u24:PG.underlying 24=some (.int .u16):=by kernel_rfl
theorem u47:PG.underlying 47=some (.array 8 5):=by kernel_rfl
theorem u5:PG.underlying 5=some (.int .u8):=by kernel_rfl
theorem u3:PG.underlying 3=some (.int .i64):=by kernel_rfl
theorem ce3:PG.cellsOf 3=1:=by kernel_rfl
theorem ce5:PG.cellsOf 5=1:=by kernel_rfl
theorem ce22:PG.cellsOf 22=1:=by kernel_rfl
theorem ce23:PG.cellsOf 23=2:=by kernel_rfl
theorem ce25:PG.cellsOf 25=2:=by kernel_rfl
theorem ce47:PG.cellsOf 47=8:=by kernel_rfl
theorem ce49:PG.cellsOf 49=10:=by kernel_rfl
theorem l49:(PG.fieldsOf 49).toList.map (fun f=>(f.offset,f.type))=[(0,5),(1,5),(2,47)]:=by kernel_rfl
section
variable{H:Type}{enc:TypeId×Value->H}{w:World}{held:Bool}{sp:Nat->Bool}
theorem LG{z:Int}(h:(Lit.int .u8 z).wf=true):0<=z/\z<256:=by
 simp only[Lit.wf,Bool.and_eq_true,decide_eq_true_eq]at h
 have h1:(0:Int)<=z:=h.1
 have h2:z<=255:=h.2
 exact⟨h1,by omega⟩
theorem mm{x:DataW H×List MemPlace}(h:DataW.trod enc PG w 0 sp held fuel 5 cs=some x):∃d:Nat,d<256/\cs=[.int .u8 (d:Int)]:=by
 obtain⟨z,hz,_,hw⟩:=DataW.trod_int u5 h
 obtain⟨h1,h2⟩:=LG hw
 exact⟨z.toNat,by omega,by rw[hz,Int.toNat_of_nonneg h1]⟩
theorem vT{x:DataW H×List MemPlace}(hl:cs.length=8)(h:DataW.trod enc PG w 0 sp held fuel 47 cs=some x):∃d:List Nat,d.length=8/\(∀y∈d,y<256)/\cs=n8s d:=by
 obtain⟨xs,m,_,_,_,hn,hall⟩:=DataW.trod_array u47 h
 have at_:∀i (h:i<cs.length),∃d:Nat,d<256/\cs[i]=.int .u8 (d:Int):=fun i hi=>by
  have h3:=hall i (by omega)
  rw[ce5,Nat.mul_one,List.getElem?_eq_getElem (by omega)]at h3
  obtain⟨d,hd,e⟩:=mm h3
  refine⟨d,hd,?_⟩
  have:=congrArg (fun l=>l[0]?) e
  simp only[List.getElem?_take,List.getElem?_drop,Nat.add_zero]at this
  rw[if_pos (by omega),List.getElem?_eq_getElem hi]at this
  simpa using this
 refine⟨cs.map fun v=>(intOf v).toNat,by rw[List.length_map,hl],fun y hy=>?_,?_⟩
 ·obtain⟨v,hv,rfl⟩:=List.mem_map.1 hy
  obtain⟨i,hi,rfl⟩:=List.mem_iff_getElem.1 hv
  obtain⟨d,hd,e⟩:=at_ i hi
  rw[e];show((d:Int)).toNat<256
  omega
 ·refine List.ext_getElem (by simp[n8s]) fun i h1 h2=>?_
  obtain⟨d,hd,e⟩:=at_ i h1
  simp only[n8s,List.getElem_map,e]
  rfl
theorem yz{x:DataW H×List MemPlace}(h:DataW.trod enc PG w 0 sp held fuel 49 cs=some x):∃t:Nt,t.Ok/\cs=t.cells:=by
 obtain⟨xs,n,_,hx,hl,hn,hall⟩:=DataW.trod_struct u49 h
 rw[ce49]at hl
 have fld:∀(i off t:Nat),[(0,5),(1,5),(2,47)][i]?=some (off,t)->∃y,DataW.trod enc PG w _ _ _ n t ((cs.drop off).take (PG.cellsOf t))=some y:=fun i off t hi=>by
  rw[<-l49,List.getElem?_map]at hi
  cases hf:(PG.fieldsOf 49).toList[i]? with
  |none=>rw[hf]at hi;cases hi
  |some f=>
   rw[hf]at hi
   injection hi with hi;injection hi with e1 e2
   have hf':(PG.fieldsOf 49)[i]?=some f:=by simpa using hf
   have hi9:i<xs.length:=by rw[hn];exact(Array.getElem?_eq_some_iff.1 hf').1
   have:=hall i f hf'
   rw[e2,e1]at this
   exact⟨xs[i],by rw[this,List.getElem?_eq_getElem hi9]⟩
 obtain⟨y0,q0⟩:=fld 0 0 5 rfl
 obtain⟨y1,q1⟩:=fld 1 1 5 rfl
 obtain⟨y2,q2⟩:=fld 2 2 47 rfl
 rw[ce5]at q0 q1
 rw[ce47]at q2
 obtain⟨d0,b0,k0⟩:=mm q0
 obtain⟨d1,b1,k1⟩:=mm q1
 obtain⟨d2,c2,b2,k2⟩:=vT (by rw[List.length_take,List.length_drop,hl];rfl) q2
 refine⟨⟨d0,d1,d2⟩,⟨b0,b1,c2,b2⟩,?_⟩
 rw[Nt.cells,<-k2]
 match cs,hl,k0,k1 with
 |[v0,v1,v2,v3,v4,v5,v6,v7,v8,v9],_,k0,k1=>
  injection k0 with k0
  injection k1 with k1
  subst k0;subst k1
  rfl
theorem uo{len:Nat}(h:vJ w 10 (fun l=>∃t:Nt,t.Ok/\l=t.cells) v len):∃l:List Nt,l.length=len/\(∀x∈l,x.Ok)/\pq w v l:=by
 rcases h with⟨rfl,rfl⟩|⟨a,c,rfl,rfl⟩|⟨blk,off,cap,cc,ty,fz,rfl,h0,h1,h2,h3,h4⟩
 ·exact⟨[],rfl,fun x hx=>(by cases hx),.inl ⟨rfl,rfl⟩⟩
 ·exact⟨[],rfl,fun x hx=>(by cases hx),.inr (.inl ⟨a,c,rfl,rfl⟩)⟩
 ·have h6:∃f:Nat->Nt,∀i,i<len->(f i).Ok/\∀j,j<10->cc[off+i*10+j]?=(f i).cells[j]?:=
   ⟨fun i=>if h:i<len then Classical.choose (Classical.choose_spec (h4 i h)).2.2 else⟨0,0,[]⟩,fun i hi=>by
    simp only[dif_pos hi]
    have s1:=Classical.choose_spec (h4 i hi)
    have s2:=Classical.choose_spec s1.2.2
    exact⟨s2.1,fun j hj=>by rw[<-s2.2];exact s1.2.1 j hj⟩⟩
  obtain⟨f,hf⟩:=h6
  have hl:((List.range len).map f).length=len:=by simp
  refine⟨(List.range len).map f,hl,fun x hx=>?_,.inr (.inr ⟨blk,off,cap,cc,ty,fz,by rw[hl],by rw[hl];exact h0,by rw[hl];exact h1,h2,by rw[hl];omega,fun i hi j hj=>?_⟩)⟩
  ·obtain⟨i,hi,rfl⟩:=List.mem_map.1 hx
   exact(hf i (List.mem_range.1 hi)).1
  ·rw[hl]at hi
   rw[(hf i hi).2 j hj];simp
theorem ow{x:DataW H×List MemPlace}(h:DataW.trod enc PG w 0 sp held fuel 22 cs=some x):∃(v:Value) (l:List Nt),cs=[v]/\l.length<=maxLen/\(∀x∈l,x.Ok)/\pq w v l:=by
 obtain⟨v,len,rfl,hlen,hS⟩:=vN u22 ce49 (by omega) h
 obtain⟨l,h1,h2,h3⟩:=uo (hS.mono fun l hl ⟨n,y,hy⟩=>yz hy)
 exact⟨v,l,rfl,by omega,h2,h3⟩
end
theorem px(w:World)(hgl:kl w.heap.size w)(s0 s1:Value)(l0 l1:List Nt)(h0:pq w s0 l0)(h1:pq w s1 l1)(hk0:∀x∈l0,x.Ok)(hk1:∀x∈l1,x.Ok){st ka kb:Nat}(hst:st<65536)(hka:ka<256)(hkb:kb<256):
  Calls Proofs.Tryz.prog 3 #[.agg #[s0,s1],.int .u16 (st:Int),.agg #[.int .u8 (ka:Int),.int .u8 (kb:Int)]] w fun e w'=>e=.returned (.bool true)/\Below w.heap.size w w':=by
 obtain⟨o0,v0,k1,k2,k3⟩:=wL h0 hk0 0
 obtain⟨o1,v1,q1,q2,q3⟩:=wL h1 hk1 1
 have at0:∀(i:Nat) e,[o0,o1][i]?=some (some e)->(i=0/\o0=some e)\/(i=1/\o1=some e):=fun i e he=>by
  match i,he with
  |0,he=>injection he with he;exact .inl ⟨rfl,he⟩
  |1,he=>injection he with he;exact .inr ⟨rfl,he⟩
  |i+2,he=>simp at he
 have hren0:∀e,o0=some e->uJ [o0,o1] 0=some e.p:=fun e he=>by subst he;rfl
 have hren1:∀e,o1=some e->uJ [o0,o1] 1=some e.p:=fun e he=>by subst he;rfl
 have hmem0:∀e,o0=some e->oT [o0,o1] 0=some (.cells e.cs e.p.sz false false):=fun e he=>by subst he;rfl
 have hmem1:∀e,o1=some e->oT [o0,o1] 1=some (.cells e.cs e.p.sz false false):=fun e he=>by subst he;rfl
 obtain⟨hm,hf⟩:=F4 (w:=w) (L:=[o0,o1]) hgl fun i e he=>by
  rcases at0 i e he with⟨_,h⟩|⟨_,h⟩
  ·exact k2 _ e h
  ·exact q2 _ e h
 have n0:iL (oT [o0,o1]) 2 v0 l0:=k3 _ _ (by omega) hmem0
 have n1:iL (oT [o0,o1]) 2 v1 l1:=q3 _ _ (by omega) hmem1
 have hp:Pure (df PG EL yB 3 [.agg #[v0,v1],.int .u16 (st:Int),.agg #[.int .u8 (ka:Int),.int .u8 (kb:Int)]] (oT [o0,o1]) 2) (oT [o0,o1]) 2 (.bool true):=by
  by_cases hl:l0.length<=40/\l1.length<=40
  ·exact HR scB vp n0 n1 hk0 hk1 hst hka hkb hl.1 hl.2
  ·obtain⟨a1,a2,a3,_⟩:=n0
   obtain⟨b1,b2,b3,_⟩:=n1
   exact HS a1 b1 a3 b3 a2 b2 (by omega) st ka kb
 obtain⟨r,hrun⟩:=hp
 exact Go.Am.Env.topW envB (args':=#[.agg #[s0,s1],.int .u16 (st:Int),.agg #[.int .u8 (ka:Int),.int .u8 (kb:Int)]]) hrun (.cons (dO.agg (.cons (k1 _ hren0) (.cons (q1 _ hren1) (.nil _)))) (.cons (.flat rfl) (.cons (dO.agg (.cons (.flat rfl) (.cons (.flat rfl) (.nil _)))) (.nil _)))) hm hf
open Go Go.Am Go.Am.V Go.RowKit Go.ChangeShapes Go.WideShapes Go.ChangeAt
theorem tW{H:Type}{enc:TypeId×Value->H}{a:Assume}{C:Checked}{os:Os}{f:FuncId}{fn:Func}{s:ChangeSpec}{conds:List PathCond}{apart fresh handsOn again:Bool}{X:World->Array Value->Prop}
  (hX:∀(w w':World) (args:Array Value),w.heap=w'.heap->X w args->X w' args)
  (own:ownKnob C.prog.godebug=none) (started:os.Started) (noInit:C.prog.inits.idxOf? f=none) (hfn:C.prog.funcs[f]?=some fn)
  (witness:∃(w:World) (tape:Tape) (i:Input),w.os=os/\(w.forCall tape i).Shaped C.prog/\i.vars=[]/\Input.okWide C.prog (w.forCall tape i) .any w.heap.size f i/\
   ((s.pre enc C.prog fn conds apart (w.forCall tape i).memory i.args/\X (w.forCall tape i).memory i.args)/\sizedMet enc C.prog fn (OpenSpec.ofChange s) apart (w.forCall tape i).memory i.args)/\a.holds C.prog (lone (Frame.enter C.prog f i.args .normal) [] (w.forCall tape i)))
  (contract:∀(W:World) (args:Array Value) (base:Nat) (ds gs:List (DataW H)) (before:List MemPlace),
   (∀(j:Nat) t v,fn.params[j]?=some t->args[j]?=some v->Value.okWide C.prog W .any base t v)->
   DataW.Whole enc C.prog fn.params.toList s.vars apart W args.toList ds gs before->
   (DataW.weightsEach C.prog (fn.params.toList++s.plain.varTypes C.prog) (ds++gs)).all (·<=reachBytes)=true->X W args->W.ShapedOpen C.prog->
   Calls C.prog f args W fun e W'=>∃v,e=.returned v/\s.post enc C.prog fn apart fresh handsOn again W args v W'):
  ReturnsInHanded a C os f .any (fun w args=>(s.pre enc C.prog fn conds apart w args/\X w args)/\sizedMet enc C.prog fn (OpenSpec.ofChange s) apart w args) (s.post enc C.prog fn apart fresh handsOn again):=by
 refine returnsInHanded_of_calls own started noInit witness ?_
 intro w tape i _ hsh _ hok hpre hholds
 obtain⟨_,_,_,fn',hfn',_,_,_,_,hval⟩:=hok
 have e:fn'=fn:=Option.some.inj (hfn'.symm.trans hfn)
 subst e
 obtain⟨⟨⟨ds,gs,before,hw,hc⟩,hx⟩,hz⟩:=hpre
 have hw':=DataW.Whole.of_heap (w':=w.forCall tape i) (by rfl) hw
 refine(contract (w.forCall tape i) i.args w.heap.size ds gs before hval hw' (hz.weights hw) (hX _ _ _ (by rfl) hx) hsh).mono fun e W' ⟨v,he,hp⟩=>?_
 subst he
 exact ChangeSpec.post_blind hp
theorem c37:PG.cellsOf 37=5:=by kernel_rfl
theorem l37:(PG.fieldsOf 37).toList.map (fun f=>(f.offset,f.type))=[(0,3),(1,3),(2,3),(3,3),(4,3)]:=by kernel_rfl
theorem u37:PG.underlying 37=some (.struct (PG.fieldsOf 37)):=by kernel_rfl
theorem GN{w:World}{l:List (String×DataW Unit)}(h:laidMet PG l w)(hm:("tegula/tegulatop.small",Go.Proofs.YtokdochbjilecaaGreatDoor.Rows.laid_tegula_tegulatop_small)∈l):
  ∃(cc:Array Value) (t:TypeId) (fz:Nat×Nat),w.heap[0]?=some (.cells cc t fz)/\cc.toList=[.int .i64 60,.int .i64 5,.int .i64 2,.int .i64 3,.int .i64 1]:=by
 obtain⟨g,t,cs,fuel,p,h1,h2,h3,h4⟩:=Lib.laidMet.reads h hm
 obtain rfl:g=0:=Option.some.inj (h1.symm.trans (by kernel_rfl))
 obtain rfl:t=37:=Option.some.inj (h2.symm.trans (by kernel_rfl))
 obtain⟨xs,n,_,hx,hl,hn,hall⟩:=DataW.trod_struct u37 h4
 rw[c37]at hl
 have fld:∀(i off:Nat),[(0,3),(1,3),(2,3),(3,3),(4,3)][i]?=some (off,3)->∃y,xs[i]?=some y/\DataW.trod _ PG w _ _ _ n 3 ((cs.toList.drop off).take 1)=some y:=fun i off hi=>by
  rw[<-l37,List.getElem?_map]at hi
  cases hf:(PG.fieldsOf 37).toList[i]? with
  |none=>rw[hf]at hi;cases hi
  |some f=>
   rw[hf]at hi
   injection hi with hi;injection hi with e1 e2
   have hf':(PG.fieldsOf 37)[i]?=some f:=by simpa using hf
   have hi9:i<xs.length:=by rw[hn];exact(Array.getElem?_eq_some_iff.1 hf').1
   have:=hall i f hf'
   rw[e2,ce3,e1]at this
   exact⟨xs[i],List.getElem?_eq_getElem hi9,by rw[this,List.getElem?_eq_getElem hi9]⟩
 obtain⟨y0,i0,q0⟩:=fld 0 0 rfl
 obtain⟨y1,i1,q1⟩:=fld 1 1 rfl
 obtain⟨y2,i2,q2⟩:=fld 2 2 rfl
 obtain⟨y3,i3,q3⟩:=fld 3 3 rfl
 obtain⟨y4,i4,q4⟩:=fld 4 4 rfl
 obtain⟨z0,k0,d0,_⟩:=DataW.trod_int u3 q0
 obtain⟨z1,k1,d1,_⟩:=DataW.trod_int u3 q1
 obtain⟨z2,k2,d2,_⟩:=DataW.trod_int u3 q2
 obtain⟨z3,k3,d3,_⟩:=DataW.trod_int u3 q3
 obtain⟨z4,k4,d4,_⟩:=DataW.trod_int u3 q4
 have hxs:xs=[y0,y1,y2,y3,y4]:=by
  have hl5:xs.length=5:=by rw[hn];kernel_rfl
  match xs,hl5 with
  |[a0,a1,a2,a3,a4],_=>
   injection i0 with i0;injection i1 with i1;injection i2 with i2;injection i3 with i3;injection i4 with i4
   rw[i0,i1,i2,i3,i4]
 subst hxs
 injection hx with hx1 hx2
 simp only[Go.Proofs.YtokdochbjilecaaGreatDoor.Rows.laid_tegula_tegulatop_small,d0,d1,d2,d3,d4,List.map_cons,List.map_nil,DataW.agg.injEq,List.cons.injEq,DataW.lit.injEq,Lit.int.injEq,true_and,and_true]at hx1
 obtain⟨rfl,rfl,rfl,rfl,rfl⟩:=hx1
 have hcs:cs.toList=[.int .i64 60,.int .i64 5,.int .i64 2,.int .i64 3,.int .i64 1]:=by
  obtain⟨cs⟩:=cs
  replace hl:cs.length=5:=hl
  match cs,hl with
  |[a0,a1,a2,a3,a4],_=>
   injection k0 with k0;injection k1 with k1;injection k2 with k2;injection k3 with k3;injection k4 with k4
   rw[k0,k1,k2,k3,k4]
 unfold World.var? at h3
 rw[h1]at h3
 replace h3:(match(w.heap[(0:Nat)]?:Option Obj)with|some (.cells cs _ _)=>some cs|_=>none)=some cs:=h3
 split at h3
 ·rename_i c t fz hc
  injection h3 with h3
  exact⟨c,t,fz,hc,by rw[<-hcs,<-h3]⟩
 ·cases h3
theorem Le{w:World}{l:List (String×DataW Unit)}(h:laidMet PG l w)(hm:("tegula/tegulatop.small",Go.Proofs.YtokdochbjilecaaGreatDoor.Rows.laid_tegula_tegulatop_small)∈l):kl w.heap.size w:=fun w' hb p hp i x hx=>by
 obtain⟨cc,t,fz,hc,hl⟩:=GN h hm
 obtain rfl:=List.mem_singleton.1 hp
 have h0:w'.heap[0]?=some (.cells cc t fz):=(hb.block 0 (Array.getElem?_eq_some_iff.1 hc).1).trans hc
 simp only[World.cell?,h0]
 rw[<-Array.getElem?_toList,hl]
 exact hx
theorem Hu{H:Type}{enc:TypeId×Value->H}{W:World}{base:Nat}{d:DataW H}(hval:Value.okWide PG W .any base 23 v)(h:DataW.Trod enc PG W 0 (fun _=>true) true 23 v d ps):
  ∃(s0 s1:Value) (l0 l1:List Nt),v=.agg #[s0,s1]/\pq W s0 l0/\pq W s1 l1/\(∀x∈l0,x.Ok)/\∀x∈l1,x.Ok:=by
 simp only[Value.okWide,u23]at hval
 obtain⟨cs,rfl,hcs,_⟩:=hval
 rw[ce23]at hcs
 obtain⟨l⟩:=cs
 match l,hcs with
 |[x,y],_=>
  obtain⟨fuel,hf⟩:=h
  obtain⟨xs,m,_,_,_,hn,hall⟩:=DataW.trod_array u23 hf
  have h0:=hall 0 (by omega)
  have h1:=hall 1 (by omega)
  rw[ce22,List.getElem?_eq_getElem (by omega)]at h0 h1
  obtain⟨v0,l0,e0,_,k0,q0⟩:=ow h0
  obtain⟨v1,l1,e1,_,k1,q1⟩:=ow h1
  replace e0:[x]=[v0]:=e0
  replace e1:[y]=[v1]:=e1
  injection e0 with e0
  injection e1 with e1
  subst e0;subst e1
  exact⟨x,y,l0,l1,rfl,q0,q1,k0,k1⟩
section
variable{H:Type}{enc:TypeId×Value->H}{P:Program}{W:World}{base:Nat}{sp:Nat->Bool}{held:Bool}{t e:TypeId}{k:IntKind}
theorem FK{r:Reach}{b0:Nat}{d:DataW H}(hu:P.underlying t=some (.array 2 e))(he:P.underlying e=some (.int k))(h1:P.cellsOf e=1)(hs:P.cellsOf t=2)(hval:Value.okWide P W r b0 t v)(hd:DataW.Trod enc P W base sp held t v d ps):
  ∃a b,v=.agg #[.int k a,.int k b]/\d=.agg [.lit (.int k a),.lit (.int k b)]/\ps=[]/\(Lit.int k a).wf=true/\(Lit.int k b).wf=true:=by
 simp only[Value.okWide,hu]at hval
 obtain⟨cs,rfl,hcs,_⟩:=hval
 rw[hs]at hcs
 obtain⟨l⟩:=cs
 match l,hcs with
 |[x,y],_=>
  obtain⟨fuel,hf⟩:=hd
  cases fuel with
  |zero=>simp[DataW.trod]at hf
  |succ m=>
   unfold DataW.trod at hf
   simp only[hu,Value.cells,h1,hs,List.length_cons,List.length_nil,if_true]at hf
   simp only[List.range_succ,List.range_zero,List.nil_append,List.cons_append,List.mapM_cons,List.mapM_nil,bind,Option.bind_eq_some_iff,Option.map_eq_some_iff,pure,Option.some.injEq]at hf
   obtain⟨_,⟨p1,g1,_,⟨p2,g2,_,rfl,rfl⟩,rfl⟩,hx⟩:=hf
   obtain⟨a,ea,rfl,wa⟩:=DataW.trod_int he g1
   obtain⟨b,eb,rfl,wb⟩:=DataW.trod_int he g2
   simp at ea eb
   subst ea;subst eb
   simp only[Prod.mk.injEq]at hx
   exact⟨a,b,rfl,hx.1.symm,by simpa using hx.2.symm,wa,wb⟩
theorem Fv{a b:Int}(hu:P.underlying t=some (.array 2 e))(he:P.underlying e=some (.int k))(h1:P.cellsOf e=1)(hs:P.cellsOf t=2)(wa:(Lit.int k a).wf=true)(wb:(Lit.int k b).wf=true):
  DataW.Trod enc P W base sp held t (.agg #[.int k a,.int k b]) (.agg [.lit (.int k a),.lit (.int k b)]) []:=
 ⟨2,by simp[DataW.trod,Value.cells,hu,he,h1,hs,wa,wb,List.range_succ]⟩
end
end Go.Am.CD
namespace Go.Am
open Go Go.RowKit Go.ChangeShapes
theorem Cf{H:Type}{enc:TypeId×Value->H}{P:Program}{f:Func}{s:ChangeSpec}{apart fresh handsOn again:Bool}{W W':World}{args:Array Value}{v:Value}{ds gs:List (DataW H)}{before pa pv:List MemPlace}
  (hW:DataW.Whole enc P f.params.toList s.vars apart W args.toList ds gs before)
  (hres:∀(b:Nat) (sp:Nat->Bool) (hd:Bool),DataW.TrodAll enc P W' b sp hd f.resultTypes.toList (v.resultList f.resultTypes.size) (s.fn H (ds++gs)).results [])
  (hargs:∀sp:Nat->Bool,(∀p∈before,sp p.block=true)->DataW.TrodAll enc P W' 0 sp true f.params.toList args.toList (s.fn H (ds++gs)).args pa)
  (hvars:∀sp:Nat->Bool,(∀p∈before,sp p.block=true)->DataW.TrodVars enc P W' sp s.vars (s.fn H (ds++gs)).vars pv)
  (hps:before=pa++pv) (hb:Below W.heap.size W W')
  (hok:∀(j:Nat) (t:TypeId) (r:Value),f.resultTypes[j]?=some t->(v.resultList f.resultTypes.size)[j]?=some r->Value.okWide P W' .any 0 t r):
  s.post enc P f apart fresh handsOn again W args v W':=by
 have hlt:=hW.lt
 obtain⟨_,_,_,_,_,hz,hn⟩:=id hW
 refine⟨ds,gs,before,[],pa,pv,hW,hres _ _ _,hargs _ fun p hp=>by simpa using hlt p hp,hvars _ fun p hp=>by simpa using hlt p hp,World.keptBut_mono (fun p hp=>⟨hp,?_⟩) (hb.frame (·∈before)),fun _=>⟨hok,_,_,([]++pa)++pv,⟨[]++pa,pv,trodAll_append (hargs _ fun _ _=>rfl) (hres _ _ _),hvars _ fun _ _=>rfl,rfl,fun b off hp=>?_,fun ha=>?_⟩,fun p hp _=>?_⟩⟩
 ·rw[hps,List.mem_append]at hp;exact .inr hp
 ·have hm:MemPlace.cell b off∈before:=by rw[hps];simpa using hp
  rw[hb.frozen (p:=⟨b,off,none⟩) (hlt _ hm)]
  exact hz b off hm
 ·have:=hn ha
  rw[hps]at this
  simpa using this
 ·rw[hps];simpa using hp
end Go.Am
