/- The machine and its runs, part 10: AySq AySr AySs AySt AySu AySv AySw AySx AySy AyMa. -/
import Derived.Laws.Shifts
import Derived.Test.YtokdochbjilecaaGreatDoorB9
set_option linter.unusedVariables false
set_option linter.unusedSimpArgs false
set_option linter.unusedSectionVars false
namespace Go.Am.CD
set_option maxRecDepth 100000
open Go Go.Am
variable{E:Nat->Option AFn}{Y:Nat->List Value->FM->Nat->OR FM}
variable{pb N n k S x N' w P lo hi n0 b pb' j o mb cb bo bl l0 A sz:Nat}{i:Ids}{v pv:Value}{M m M':FM}{l:List Bnd}{Q:AX->List Value->FM->Nat->Nat->Prop}{ns:List Nat}{us:List Int}{opn wr:Bool}{cs0 B C:List Value}{a:Int}{raw:List (Int×Value)}
def EV(l:List Bnd)(z:Int):Int:=((l[z.toNat]?).map Bnd.age).getD 0
def jR(l:List Bnd)(z:Int)(j:Nat):Bool:=decide (z<0\/EV l z<EV l (j:Int))
def gW(S:Nat)(x:Bnd):Bool:=decide (0<x.used/\x.used<S)
def opF(S:Nat)(l:List Bnd):Nat->Int
 |0=>-1
 |j+1=>bif (match l[j]? with|some x=>gW S x|none=>false)&&jR l (opF S l j) j then(j:Int)else opF S l j
theorem Hv(S:Nat)(l:List Bnd):∀j,-1<=opF S l j/\opF S l j<j
 |0=>by simp[opF]
 |j+1=>by
  have:=Hv S l j
  rw[opF]
  cases(match l[j]? with|some x=>gW S x|none=>false)&&jR l (opF S l j) j
  ·simp only[cond_false];omega
  ·simp only[cond_true];omega
theorem xP(h:j<l.length):EV l (j:Int)=l[j].age:=by
 rw[EV,Int.toNat_natCast,List.getElem?_eq_getElem h];rfl
theorem Co(h:BsW i pb m n v l){z:Int}(hbo:bo<n)(hmo:m bo=some (.cells [.int .i64 z] 0 false true))(hbl:bl<n)(hml:m bl=some (.cells [v] 0 false true))(hj:j<l.length)(hz:z<l.length):
  Pure (df PG EL Y 117 [.int .i64 (j:Int),.pointer (some ⟨bo,0,none⟩),.pointer (some ⟨bl,0,none⟩)] m n) m n (.bool (jR l z j)):=by
 obtain⟨p1,p2,p3,p4⟩:=h.p
 obtain⟨ab,hi,hab,_,_,opn,wr,hma⟩:=h.at
 obtain⟨_,_,_,_,_,_,_,_,_,_,hl5⟩:=h
 refine dz e117 rfl rfl ?_
 simp only[J1]
 by_cases hz0:z<0
 ·rw[show jR l z j=true by rw[jR,decide_eq_true_eq];exact .inl hz0]
  simp -implicitDefEqProofs (disch:=omega)only[W2,dd,Nat.testBit,Nat.reduceAdd,Nat.reduceShiftRight,Nat.reduceAnd,Nat.reduceBNe,Nat.reduceMul,hmo,hml,p2]
 ·obtain⟨k,rfl⟩:∃k:Nat,z=(k:Int):=⟨z.toNat,by omega⟩
  have hk:k<l.length:=by omega
  obtain⟨c1,c2,c3,c4,c5⟩:=eM hk
  obtain⟨d1,d2,d3,d4,d5⟩:=eM hj
  have hik:=hi k hk
  have hij:=hi j hj
  have e:jR l (k:Int) j=decide (l[k].age<l[j].age):=by
   rw[jR,xP hk,xP hj]
   have:¬(k:Int)<0:=by omega
   simp[this]
  rw[e]
  by_cases hlt:l[k].age<l[j].age
  ·rw[decide_eq_true hlt]
   simp -implicitDefEqProofs (disch:=omega)only[W2,dd,Nat.testBit,Nat.reduceAdd,Nat.reduceShiftRight,Nat.reduceAnd,Nat.reduceBNe,Nat.reduceMul,hmo,hml,p2,p3,hik,hij,hma,c4,d4]
  ·rw[decide_eq_false hlt]
   simp -implicitDefEqProofs (disch:=omega)only[W2,dd,Nat.testBit,Nat.reduceAdd,Nat.reduceShiftRight,Nat.reduceAnd,Nat.reduceBNe,Nat.reduceMul,hmo,hml,p2,p3,hik,hij,hma,c4,d4]
theorem pS(S:Nat)(l:List Bnd)(j:Nat)(h:j<l.length):opF S l (j+1)=bif gW S l[j]&&jR l (opF S l j) j then(j:Int)else opF S l j:=by
 rw[opF,List.getElem?_eq_getElem h]
theorem KU(h:BsW i pb m n v l){S n0:Nat}(hS2:S<=100)(hn0:n0<=n){bo bl:Nat}(hK:n0<=bo)(hbo:bo<n)(hbl:bl<n)(hne:bl≠bo)(hml:m bl=some (.cells [v] 0 false true))(hvb:∀b o c len,v=.slice (some ⟨b,o,none⟩) len c->b≠bo)(x6 x7:Value)
  (hQ:∀x1 M N w,n<=N->(∀b,b<n->b≠bo->M b=m b)->M bo=some (.cells [.int .i64 (opF S l l.length)] 0 false true)->Nat.mod w (bit n0)=0->Q (.exit 0) [x1,.int .i64 (l.length:Int),v,.func (.func 117) #[] #[.pointer (some ⟨bo,0,none⟩),.pointer (some ⟨bl,0,none⟩)],.pointer (some ⟨bo,0,none⟩),x6,x7,.pointer (some ⟨bl,0,none⟩),v,.int .i64 (S:Int)] M N w):
  ∀(d j:Nat),j+d=l.length->∀(x1:Value) (M:FM) (N w0:Nat),n<=N->(∀b,b<n->b≠bo->M b=m b)->M bo=some (.cells [.int .i64 (opF S l j)] 0 false true)->Nat.mod w0 (bit n0)=0->
  Gv (dt PG EL Y vx [.int .i64 (j:Int),x1,.int .i64 (l.length:Int),v,.func (.func 117) #[] #[.pointer (some ⟨bo,0,none⟩),.pointer (some ⟨bl,0,none⟩)],.pointer (some ⟨bo,0,none⟩),x6,x7,.pointer (some ⟨bl,0,none⟩),v,.int .i64 (S:Int)] M N) fun X e m n w=>Q X e m n (Nat.lor w0 w):=by
 obtain⟨p1,p2,p3,p4⟩:=h.p
 obtain⟨ab,hi,hab,_,_,opn,wr,hma⟩:=h.at
 have habo:ab≠bo:=by
  obtain⟨b,c,opn,wr,rfl,h2,h3,h4,h5,h6,h7⟩:=h
  have:=hi 0 h6
  rw[eY h6]at this
  injection this with this
  injection this with this
  injection this with this
  injection this with this
  subst this
  exact hvb _ _ _ _ rfl
 have hl5:l.length<=5:=by obtain⟨_,_,_,_,_,_,_,_,_,_,h7⟩:=h;exact h7
 intro d
 induction d with
 |zero=>
  intro j hj x1 M N w0 hN hf hb hw
  refine dm (L:=vx) (b:=qv) rfl ?_
  simp only[qv]
  obtain rfl:j=l.length:=by omega
  simp -implicitDefEqProofs (disch:=omega)only[W2,dd,Nat.testBit,Nat.reduceAdd,Nat.reduceShiftRight,Nat.reduceAnd,Nat.reduceBNe,Nat.reduceMul]
  exact hQ _ _ _ _ hN hf hb hw
 |succ d ih=>
  intro j hj x1 M N w0 hN hf hb hw
  have hj1:j<l.length:=by omega
  obtain⟨c1,c2,c3,c4,c5⟩:=eM hj1
  have hix:=hi j hj1
  have hmM:=(hf ab hab habo).trans hma
  refine dm (L:=vx) (b:=qv) rfl ?_
  simp only[qv]
  generalize hM1:(AMem.put M N (some (.cells [.int .i64 (l[j].used:Int),.int .i64 (l[j].live:Int),.int .u64 l[j].age,.int .u64 l[j].wear] 0 false true)):FM)=M1
  have l1:∀b,b<N->M1 b=M b:=fun b hb=>by rw[<-hM1,dc _ _ _ _ (by omega)]
  have l0:M1 N=some (.cells [.int .i64 (l[j].used:Int),.int .i64 (l[j].live:Int),.int .u64 l[j].age,.int .u64 l[j].wear] 0 false true):=by rw[<-hM1];exact de _ _ _
  have fin:opF S l (j+1)=opF S l j->Wr PG EL Y [] (Nat.lor (bit N) (bit N)) (dt PG EL Y vx [.int .i64 ((j+1:Nat):Int),x1,.int .i64 (l.length:Int),v,.func (.func 117) #[] #[.pointer (some ⟨bo,0,none⟩),.pointer (some ⟨bl,0,none⟩)],.pointer (some ⟨bo,0,none⟩),x6,x7,.pointer (some ⟨bl,0,none⟩),v,.int .i64 (S:Int)] M1 (N+1)) fun X e m n w=>Q X e m n (Nat.lor w0 w):=fun es=>by
   refine dM (ih (j+1) (by omega) _ _ _ (Nat.lor w0 (Nat.lor (bit N) (bit N))) (by omega) (fun b h1 h2=>by rw[l1 b (by omega),hf b h1 h2]) (by rw[es,l1 bo (by omega)];exact hb) (by simp only[eL];exact⟨hw,dE (by omega),dE (by omega)⟩)) fun X e m n w hq=>?_
   rw[show Nat.lor w0 (Nat.lor (Nat.lor (bit N) (bit N)) w)=Nat.lor (Nat.lor w0 (Nat.lor (bit N) (bit N))) w from(dy _ _ _).symm]
   exact hq
  by_cases hu:0<l[j].used
  ·by_cases hs:l[j].used<S
   ·have hB1:BsW i pb M1 (N+1) v l:=by
     obtain⟨b,c,opn,wr,e1,h2,h3,h4,h5,h6,h7⟩:=h
     have:=hvb b 0 c _ e1
     exact⟨b,c,opn,wr,e1,h2,h3,by omega,by rw[l1 b (by omega),hf b h4 this];exact h5,h6,h7⟩
    simp -implicitDefEqProofs (disch:=omega)only[W2,dd,Nat.testBit,Nat.reduceAdd,Nat.reduceShiftRight,Nat.reduceAnd,Nat.reduceBNe,Nat.reduceMul,p2,hix,hmM,c1,hM1,l0,jw,ml,List.cons_append,List.nil_append]
    refine di (Co hB1 (by omega) ((l1 bo (by omega)).trans hb) (by omega) (by rw[l1 bl (by omega),hf bl hbl hne];exact hml) hj1 (by have:=(Hv S l j).2;omega)) fun r1=>?_
    have es:=pS S l j hj1
    rw[show gW S l[j]=true by rw[gW,decide_eq_true_eq];exact⟨hu,hs⟩,Bool.true_and]at es
    cases hnw:jR l (opF S l j) j
    ·rw[hnw,cond_false]at es
     simp -implicitDefEqProofs (disch:=omega)only[W2,dd,Nat.testBit,Nat.reduceAdd,Nat.reduceShiftRight,Nat.reduceAnd,Nat.reduceBNe,Nat.reduceMul]
     exact fin es
    ·rw[hnw,cond_true]at es
     simp -implicitDefEqProofs (disch:=omega)only[W2,dd,Nat.testBit,Nat.reduceAdd,Nat.reduceShiftRight,Nat.reduceAnd,Nat.reduceBNe,Nat.reduceMul,(l1 bo (by omega)).trans hb]
     refine dM (ih (j+1) (by omega) _ _ _ (Nat.lor w0 (Nat.lor (Nat.lor (bit N) (bit N)) (bit bo))) (by omega) (fun b h1 h2=>by rw[dc _ _ _ _ h2,l1 b (by omega),hf b h1 h2]) (by rw[es];exact de _ _ _) (by simp only[eL];exact⟨hw,⟨dE (by omega),dE (by omega)⟩,dE hK⟩)) fun X e m n w hq=>?_
     rw[show Nat.lor w0 (Nat.lor (Nat.lor (Nat.lor (bit N) (bit N)) (bit bo)) w)=Nat.lor (Nat.lor w0 (Nat.lor (Nat.lor (bit N) (bit N)) (bit bo))) w from(dy _ _ _).symm]
     exact hq
   ·simp -implicitDefEqProofs (disch:=omega)only[W2,dd,Nat.testBit,Nat.reduceAdd,Nat.reduceShiftRight,Nat.reduceAnd,Nat.reduceBNe,Nat.reduceMul,p2,hix,hmM,c1,hM1,l0]
    refine fin ?_
    rw[pS S l j hj1,show gW S l[j]=false by rw[gW,decide_eq_false_iff_not];exact fun q=>hs q.2];rfl
  ·simp -implicitDefEqProofs (disch:=omega)only[W2,dd,Nat.testBit,Nat.reduceAdd,Nat.reduceShiftRight,Nat.reduceAnd,Nat.reduceBNe,Nat.reduceMul,p2,hix,hmM,c1,hM1,l0]
   refine fin ?_
   rw[pS S l j hj1,show gW S l[j]=false by rw[gW,decide_eq_false_iff_not];exact fun q=>hu q.1];rfl
theorem oW(h:BsW i pb m n v l){S:Nat}(hS:1<=S)(hS2:S<=100)(ho:BOk S l):Pure (df PG EL Y 67 [v,.int .i64 (S:Int)] m n) m n (.int .i64 (opF S l l.length)):=by
 obtain⟨p1,p2,p3,p4⟩:=h.p
 refine dz e67 rfl rfl ?_
 simp only[O9]
 simp -implicitDefEqProofs (disch:=omega)only[W2,dd,Nat.testBit,Nat.reduceAdd,Nat.reduceShiftRight,Nat.reduceAnd,Nat.reduceBNe,Nat.reduceMul,p1,p2,gj,dW p2]
 generalize hM1:(AMem.put m n _:FM)=M1
 have l1:∀b,b<n->M1 b=m b:=fun b hb=>by rw[<-hM1,dc _ _ _ _ (by omega)]
 have l0:M1 n=some (.cells [v] 0 false true):=by rw[<-hM1];exact de _ _ _
 have hB1:=h.dF (show n<=n+1 by omega) l1
 refine di (sD hB1 hS hS2 ho) fun r1=>?_
 simp -implicitDefEqProofs (disch:=omega)only[W2,dd,Nat.testBit,Nat.reduceAdd,Nat.reduceShiftRight,Nat.reduceAnd,Nat.reduceBNe,Nat.reduceMul,l0,p1,gj,p2]
 generalize hM2:(AMem.put M1 (n+1) _:FM)=M2
 have l2:∀b,b<n+1->M2 b=M1 b:=fun b hb=>by rw[<-hM2,dc _ _ _ _ (by omega)]
 have l3:M2 (n+1)=some (.cells [.int .i64 (-1)] 0 false true):=by rw[<-hM2];exact de _ _ _
 refine dS ((KU (hB1.dF (show n+1<=n+2 by omega) l2) (S:=S) hS2 (n0:=n) (by omega) (bo:=n+1) (bl:=n) (by omega) (by omega) (by omega) (by omega) (by rw[l2 n (by omega)];exact l0) (fun b o c len e=>?_) _ _ (fun x1 M N w hN hf hb hw=>?_) l.length 0 (Nat.zero_add _) _ M2 (n+2) 0 (Nat.le_refl _) (fun _ _ _=>rfl) l3 (jg _)).mono fun X e m' n' w hq=>by simpa only[dx]using hq)
 ·obtain⟨b',c',opn,wr,e1,h2,h3,h4,h5,h6,h7⟩:=h
  rw[e1]at e
  injection e with e
  injection e with e
  injection e with e
  omega
 ·intro rr
  simp -implicitDefEqProofs (disch:=omega)only[W2,dd,Nat.testBit,Nat.reduceAdd,Nat.reduceShiftRight,Nat.reduceAnd,Nat.reduceBNe,Nat.reduceMul,hb]
  simp -implicitDefEqProofs (disch:=omega)only[W2,dd,Nat.testBit,Nat.reduceAdd,Nat.reduceShiftRight,Nat.reduceAnd,Nat.reduceBNe,Nat.reduceMul,hw]
def xT(l:List Bnd)(z:Int):Int:=((l[z.toNat]?).map Bnd.wear).getD 0
def pZ(l:List Bnd)(z:Int)(j:Nat):Bool:=decide (z<0\/xT l (j:Int)<xT l z)
def lsF(l:List Bnd):Nat->Int
 |0=>-1
 |j+1=>bif (match l[j]? with|some x=>x.used==0|none=>false)&&pZ l (lsF l j) j then(j:Int)else lsF l j
theorem HJ(l:List Bnd):∀j,-1<=lsF l j/\lsF l j<j
 |0=>by simp[lsF]
 |j+1=>by
  have:=HJ l j
  rw[lsF]
  cases(match l[j]? with|some x=>x.used==0|none=>false)&&pZ l (lsF l j) j
  ·simp only[cond_false];omega
  ·simp only[cond_true];omega
theorem tz(h:j<l.length):xT l (j:Int)=l[j].wear:=by
 rw[xT,Int.toNat_natCast,List.getElem?_eq_getElem h];rfl
theorem Av(l:List Bnd)(j:Nat)(h:j<l.length):lsF l (j+1)=bif (l[j].used==0)&&pZ l (lsF l j) j then(j:Int)else lsF l j:=by
 rw[lsF,List.getElem?_eq_getElem h]
theorem BsW.bel(h:BsW i pb M N v l)(k:Nat)(hk:N<=k):et k v=true:=by
 obtain⟨b,c,opn,wr,rfl,h2,h3,h4,h5,h6,h7⟩:=h
 exact dC (show b<k by omega)
theorem HP(h:BsW i pb m n v l)(x4 x5 x6:Value)
  (hQ:∀x1 x2 M N w,Nat.mod w (bit n)=0->Q (.exit 0) [.int .i64 (lsF l l.length),x1,x2,x4,x5,x6,v] M N w):
  ∀(d j:Nat),j+d=l.length->∀(x2:Value) (M:FM) (N w0:Nat),n<=N->(∀b,b<n->M b=m b)->Nat.mod w0 (bit n)=0->
  Gv (dt PG EL Y qJ [.int .i64 (lsF l j),.int .i64 (j:Int),x2,.int .i64 (l.length:Int),x4,x5,x6,v] M N) fun X e m n w=>Q X e m n (Nat.lor w0 w):=by
 obtain⟨p1,p2,p3,p4⟩:=h.p
 obtain⟨ab,hi,hab,_,_,opn,wr,hma⟩:=h.at
 have hl5:l.length<=5:=by obtain⟨_,_,_,_,_,_,_,_,_,_,h7⟩:=h;exact h7
 intro d
 induction d with
 |zero=>
  intro j hj x2 M N w0 hN hf hw
  refine dm (L:=qJ) (b:=nF) rfl ?_
  simp only[nF]
  obtain rfl:j=l.length:=by omega
  simp -implicitDefEqProofs (disch:=omega)only[W2,dd,Nat.testBit,Nat.reduceAdd,Nat.reduceShiftRight,Nat.reduceAnd,Nat.reduceBNe,Nat.reduceMul]
  exact hQ _ _ _ _ _ hw
 |succ d ih=>
  intro j hj x2 M N w0 hN hf hw
  have hj1:j<l.length:=by omega
  obtain⟨c1,c2,c3,c4,c5⟩:=eM hj1
  have hix:=hi j hj1
  have hmM:=(hf ab hab).trans hma
  refine dm (L:=qJ) (b:=nF) rfl ?_
  simp only[nF]
  generalize hM1:(AMem.put M N (some (.cells [.int .i64 (l[j].used:Int),.int .i64 (l[j].live:Int),.int .u64 l[j].age,.int .u64 l[j].wear] 0 false true)):FM)=M1
  have l1:∀b,b<N->M1 b=M b:=fun b hb=>by rw[<-hM1,dc _ _ _ _ (by omega)]
  have l0:M1 N=some (.cells [.int .i64 (l[j].used:Int),.int .i64 (l[j].live:Int),.int .u64 l[j].age,.int .u64 l[j].wear] 0 false true):=by rw[<-hM1];exact de _ _ _
  have hmM1:=(l1 ab (by omega)).trans hmM
  have hbd:=HJ l j
  have es:=Av l j hj1
  have p5:=h.bel (N+1) (by omega)
  have fin:∀z,lsF l (j+1)=z->Wr PG EL Y [] (Nat.lor (bit N) (bit N)) (dt PG EL Y qJ [.int .i64 z,.int .i64 ((j+1:Nat):Int),x2,.int .i64 (l.length:Int),x4,x5,x6,v] M1 (N+1)) fun X e m n w=>Q X e m n (Nat.lor w0 w):=fun z hz=>by
   subst hz
   refine dM (ih (j+1) (by omega) _ _ _ (Nat.lor w0 (Nat.lor (bit N) (bit N))) (by omega) (fun b h1=>by rw[l1 b (by omega),hf b h1]) (by simp only[eL];exact⟨hw,dE (by omega),dE (by omega)⟩)) fun X e m n w hq=>?_
   rw[show Nat.lor w0 (Nat.lor (Nat.lor (bit N) (bit N)) w)=Nat.lor (Nat.lor w0 (Nat.lor (bit N) (bit N))) w from(dy _ _ _).symm]
   exact hq
  generalize lsF l j=z at *
  by_cases hu:l[j].used=0
  ·by_cases hz0:z<0
   ·simp -implicitDefEqProofs (disch:=omega)only[W2,dd,Nat.testBit,Nat.reduceAdd,Nat.reduceShiftRight,Nat.reduceAnd,Nat.reduceBNe,Nat.reduceMul,p2,hix,hmM,c1,hM1,l0]
    refine fin _ ?_
    rw[es,hu,show pZ l z j=true by rw[pZ,decide_eq_true_eq];exact .inl hz0];rfl
   ·obtain⟨k,rfl⟩:∃k:Nat,z=(k:Int):=⟨z.toNat,by omega⟩
    have hk:k<l.length:=by omega
    obtain⟨d1,d2,d3,d4,d5⟩:=eM hk
    have hik:=hi k hk
    have hik2:¬(k:Int)<0:=by omega
    have e:pZ l (k:Int) j=decide (l[j].wear<l[k].wear):=by
     rw[pZ,tz hk,tz hj1]
     simp[hik2]
    rw[e,hu]at es
    by_cases hlt:l[j].wear<l[k].wear
    ·simp -implicitDefEqProofs (disch:=omega)only[W2,dd,Nat.testBit,Nat.reduceAdd,Nat.reduceShiftRight,Nat.reduceAnd,Nat.reduceBNe,Nat.reduceMul,p2,p5,hix,hmM,c1,hM1,l0,hik,hmM1,d5]
     refine fin _ ?_
     rw[es,decide_eq_true hlt];rfl
    ·simp -implicitDefEqProofs (disch:=omega)only[W2,dd,Nat.testBit,Nat.reduceAdd,Nat.reduceShiftRight,Nat.reduceAnd,Nat.reduceBNe,Nat.reduceMul,p2,p5,hix,hmM,c1,hM1,l0,hik,hmM1,d5]
     refine fin _ ?_
     rw[es,decide_eq_false hlt];rfl
  ·simp -implicitDefEqProofs (disch:=omega)only[W2,dd,Nat.testBit,Nat.reduceAdd,Nat.reduceShiftRight,Nat.reduceAnd,Nat.reduceBNe,Nat.reduceMul,p2,hix,hmM,c1,hM1,l0]
   refine fin _ ?_
   rw[es,show(l[j].used==0)=false by simpa using hu];rfl
theorem uA(h:BsW i pb m n v l)(hf:0<=lsF l l.length):Pure (df PG EL Y 150 [v] m n) m n (.tuple #[.int .i64 (lsF l l.length),.int .i64 0]):=by
 obtain⟨p1,p2,p3,p4⟩:=h.p
 refine dz e150 rfl rfl ?_
 simp only[JD]
 simp -implicitDefEqProofs (disch:=omega)only[W2,dd,Nat.testBit,Nat.reduceAdd,Nat.reduceShiftRight,Nat.reduceAnd,Nat.reduceBNe,Nat.reduceMul,p1,p2]
 refine dS ((HP h _ _ _ (fun x1 x2 M N w hw=>?_) l.length 0 (Nat.zero_add _) _ m n 0 (Nat.le_refl _) (fun _ _=>rfl) (jg _)).mono fun X e m' n' w hq=>by simpa only[dx]using hq)
 intro rr
 simp -implicitDefEqProofs (disch:=omega)only[W2,dd,Nat.testBit,Nat.reduceAdd,Nat.reduceShiftRight,Nat.reduceAnd,Nat.reduceBNe,Nat.reduceMul]
 exact hw
theorem wz(op:BinOp)(t:Nat)(x y:Opd)(e:List Value)(m:FM)(n:Nat):dJ PG (df PG EL Y) e m n (.pur (.bit op t) [x,y])=eG m n (mq PG op t (ev e x) (ev e y)):=rfl
theorem EO(a b:Int):∃z,mq PG .and 40 (.int .u64 a) (.int .u64 b)=some (.int .u64 z):=⟨_,rfl⟩
theorem EM(a:Int):∃z,mq PG .shr 40 (.int .u64 a) (.int .u64 32)=some (.int .u64 z):=⟨_,rfl⟩
noncomputable def OJ(a b:Int):Int:=(EO a b).choose
noncomputable def shrZ(a:Int):Int:=(EM a).choose
theorem and_eq(a b:Int):mq PG .and 40 (.int .u64 a) (.int .u64 b)=some (.int .u64 (OJ a b)):=(EO a b).choose_spec
theorem NU(a:Int):mq PG .shr 40 (.int .u64 a) (.int .u64 32)=some (.int .u64 (shrZ a)):=(EM a).choose_spec
theorem uu(m:FM)(n:Nat)(a b:Int):∃h l:Int,Pure (df PG EL Y 160 [.int .u64 a,.int .u64 b] m n) m n (.tuple #[.int .u64 h,.int .u64 l]):=by
 obtain⟨v,⟨h,l,rfl⟩,hp⟩:=jL (P:=PG) (Y:=Y) (m:=m) (n:=n) (args:=[.int .u64 a,.int .u64 b]) (S:=fun v=>∃h l:Int,v=.tuple #[.int .u64 h,.int .u64 l]) e160 rfl (fun v hS=>by obtain⟨h,l,rfl⟩:=hS;rfl) (by
  simp only[Ju]
  simp -implicitDefEqProofs (disch:=omega)only[W2,dd,Nat.testBit,Nat.reduceAdd,Nat.reduceShiftRight,Nat.reduceAnd,Nat.reduceBNe,Nat.reduceMul,wz,and_eq,NU]
  exact⟨_,rfl,_,_,rfl⟩)
 exact⟨h,l,hp⟩
theorem xj(m:FM)(n:Nat)(x:Bnd)(h:x.live<=100):Pure (df PG EL Y 157 [.agg #[.int .i64 (x.used:Int),.int .i64 (x.live:Int),.int .u64 x.age,.int .u64 x.wear]] m n) m n (.bool true):=by
 refine dz e157 rfl rfl ?_
 simp only[Jw]
 simp -implicitDefEqProofs (disch:=omega)only[W2,dd,Nat.testBit,Nat.reduceAdd,Nat.reduceShiftRight,Nat.reduceAnd,Nat.reduceBNe,Nat.reduceMul]
theorem min_eq(a b:Int):∃z,mnV (.int .u64 a) (.int .u64 b)=some (.int .u64 z):=⟨_,rfl⟩
noncomputable def minZ(a b:Int):Int:=(min_eq a b).choose
theorem mn_eq(a b:Int):mnV (.int .u64 a) (.int .u64 b)=some (.int .u64 (minZ a b)):=(min_eq a b).choose_spec
theorem EG(a:Int):∃z,iO .u64 (.int .i64 a)=some (.int .u64 z):=⟨_,rfl⟩
noncomputable def cvZ(a:Int):Int:=(EG a).choose
theorem ND(a:Int):iO .u64 (.int .i64 a)=some (.int .u64 (cvZ a)):=(EG a).choose_spec
theorem tx(m:FM)(n:Nat)(x:Bnd)(now:Int)(h:x.live<=S)(hS:S<=100):∃p q:Int,Pure (df PG EL Y 159 [.agg #[.int .i64 (x.used:Int),.int .i64 (x.live:Int),.int .u64 x.age,.int .u64 x.wear],.int .i64 (S:Int),.int .u64 now] m n) m n (.tuple #[.int .u64 p,.int .u64 q]):=by
 obtain⟨v,⟨p,q,rfl⟩,hp⟩:=jL (P:=PG) (Y:=Y) (m:=m) (n:=n) (args:=[.agg #[.int .i64 (x.used:Int),.int .i64 (x.live:Int),.int .u64 x.age,.int .u64 x.wear],.int .i64 (S:Int),.int .u64 now]) (S:=fun v=>∃h l:Int,v=.tuple #[.int .u64 h,.int .u64 l]) e159 rfl (fun v hS=>by obtain⟨h,l,rfl⟩:=hS;rfl) (by
  simp only[Jv]
  by_cases hlt:x.age<now
  ·simp -implicitDefEqProofs (disch:=omega)only[W2,dd,Nat.testBit,Nat.reduceAdd,Nat.reduceShiftRight,Nat.reduceAnd,Nat.reduceBNe,Nat.reduceMul,show∀x y:Opd,∀(e:List Value) (m:FM) (n:Nat),dJ PG (df PG EL Y) e m n (.pur .min [x,y])=eG m n (mnV (ev e x) (ev e y))from fun _ _ _ _ _=>rfl,mn_eq,ND]
   exact⟨_,rfl,_,_,rfl⟩
  ·simp -implicitDefEqProofs (disch:=omega)only[W2,dd,Nat.testBit,Nat.reduceAdd,Nat.reduceShiftRight,Nat.reduceAnd,Nat.reduceBNe,Nat.reduceMul,ND]
   exact⟨_,rfl,_,_,rfl⟩)
 exact⟨p,q,hp⟩
theorem sE(m:FM)(n:Nat)(x y:Bnd)(now:Int)(hx:x.live<=S)(hy:y.live<=S)(hS1:1<=S)(hS:S<=100):∃r:Bool,Pure (df PG EL Y 116 [.agg #[.int .i64 (x.used:Int),.int .i64 (x.live:Int),.int .u64 x.age,.int .u64 x.wear],.agg #[.int .i64 (y.used:Int),.int .i64 (y.live:Int),.int .u64 y.age,.int .u64 y.wear],.int .i64 (S:Int),.int .u64 now] m n) m n (.bool r):=by
 obtain⟨v,⟨r,rfl⟩,hp⟩:=jL (P:=PG) (Y:=Y) (m:=m) (n:=n) (args:=[.agg #[.int .i64 (x.used:Int),.int .i64 (x.live:Int),.int .u64 x.age,.int .u64 x.wear],.agg #[.int .i64 (y.used:Int),.int .i64 (y.live:Int),.int .u64 y.age,.int .u64 y.wear],.int .i64 (S:Int),.int .u64 now]) (S:=fun v=>∃r:Bool,v=.bool r) e116 rfl (fun v hS=>by obtain⟨r,rfl⟩:=hS;rfl) (by
  simp only[J2]
  simp -implicitDefEqProofs (disch:=omega)only[W2,dd,Nat.testBit,Nat.reduceAdd,Nat.reduceShiftRight,Nat.reduceAnd,Nat.reduceBNe,Nat.reduceMul]
  refine di (xj _ _ x (by omega)) fun r1=>?_
  simp -implicitDefEqProofs (disch:=omega)only[W2,dd,Nat.testBit,Nat.reduceAdd,Nat.reduceShiftRight,Nat.reduceAnd,Nat.reduceBNe,Nat.reduceMul]
  refine di (xj _ _ y (by omega)) fun r2=>?_
  simp -implicitDefEqProofs (disch:=omega)only[W2,dd,Nat.testBit,Nat.reduceAdd,Nat.reduceShiftRight,Nat.reduceAnd,Nat.reduceBNe,Nat.reduceMul]
  generalize hM1:(AMem.put (AMem.put m n _) (n+1) _:FM)=M1
  have l0:M1 n=some (.cells [.int .i64 (x.used:Int),.int .i64 (x.live:Int),.int .u64 x.age,.int .u64 x.wear] 0 false true):=by rw[<-hM1,dc _ _ _ _ (by omega)];exact de _ _ _
  have l1:M1 (n+1)=some (.cells [.int .i64 (y.used:Int),.int .i64 (y.live:Int),.int .u64 y.age,.int .u64 y.wear] 0 false true):=by rw[<-hM1];exact de _ _ _
  obtain⟨p,q,hy1⟩:=tx (Y:=Y) M1 (n+2) x now hx hS
  obtain⟨p',q',hy2⟩:=tx (Y:=Y) M1 (n+2) y now hy hS
  obtain⟨a1,b1,hm1⟩:=uu (Y:=Y) M1 (n+2) p q'
  obtain⟨a2,b2,hm2⟩:=uu (Y:=Y) M1 (n+2) p' q
  refine di hy1 fun r3=>?_
  simp -implicitDefEqProofs (disch:=omega)only[W2,dd,Nat.testBit,Nat.reduceAdd,Nat.reduceShiftRight,Nat.reduceAnd,Nat.reduceBNe,Nat.reduceMul,dH,l0,l1]
  refine di hy2 fun r4=>?_
  simp -implicitDefEqProofs (disch:=omega)only[W2,dd,Nat.testBit,Nat.reduceAdd,Nat.reduceShiftRight,Nat.reduceAnd,Nat.reduceBNe,Nat.reduceMul,dH]
  refine di hm1 fun r5=>?_
  simp -implicitDefEqProofs (disch:=omega)only[W2,dd,Nat.testBit,Nat.reduceAdd,Nat.reduceShiftRight,Nat.reduceAnd,Nat.reduceBNe,Nat.reduceMul,dH]
  refine di hm2 fun r6=>?_
  have fz:Nat.mod (Nat.lor (bit n) (bit (n+1))) (bit n)=0:=by rw[eL];exact⟨dE (Nat.le_refl _),dE (by omega)⟩
  by_cases c1:a2<a1
  ·simp -implicitDefEqProofs (disch:=omega)only[W2,dd,Nat.testBit,Nat.reduceAdd,Nat.reduceShiftRight,Nat.reduceAnd,Nat.reduceBNe,Nat.reduceMul,dH]
   exact⟨_,rfl,_,rfl⟩
  ·by_cases c2:a1=a2
   ·by_cases c3:b2<b1
    ·simp -implicitDefEqProofs (disch:=omega)only[W2,dd,Nat.testBit,Nat.reduceAdd,Nat.reduceShiftRight,Nat.reduceAnd,Nat.reduceBNe,Nat.reduceMul,dH]
     exact⟨_,rfl,_,rfl⟩
    ·simp -implicitDefEqProofs (disch:=omega)only[W2,dd,Nat.testBit,Nat.reduceAdd,Nat.reduceShiftRight,Nat.reduceAnd,Nat.reduceBNe,Nat.reduceMul,dH]
     exact⟨_,rfl,_,rfl⟩
   ·simp -implicitDefEqProofs (disch:=omega)only[W2,dd,Nat.testBit,Nat.reduceAdd,Nat.reduceShiftRight,Nat.reduceAnd,Nat.reduceBNe,Nat.reduceMul,dH]
    exact⟨_,rfl,_,rfl⟩)
 exact⟨r,hp⟩
def mA(S:Nat)(z:Int)(l:List Bnd)(j:Nat):Prop:=∃h:j<l.length,(j:Int)≠z/\0<l[j].used/\l[j].live<S
def ChI(S:Nat)(z:Int)(l:List Bnd)(j:Nat)(best:Int):Prop:=(best=-1/\∀k,k<j->¬mA S z l k)\/(∃k:Nat,best=(k:Int)/\k<j/\mA S z l k)
theorem Gf(h:BsW i pb m n v l)(hS1:1<=S)(hS:S<=100)(ho:BOk S l)(now z:Int)(x4 x5 x6 x7:Value)
  (hQ:∀best x1 x2 M N w,ChI S z l l.length best->Nat.mod w (bit n)=0->Q (.exit 0) [.int .i64 best,x1,x2,x4,x5,x6,x7,v,.int .i64 (S:Int),.int .u64 now,.int .i64 z] M N w):
  ∀(d j:Nat),j+d=l.length->∀(best:Int) (x2:Value) (M:FM) (N w0:Nat),ChI S z l j best->n<=N->(∀b,b<n->M b=m b)->Nat.mod w0 (bit n)=0->
  Gv (dt PG EL Y vy [.int .i64 best,.int .i64 (j:Int),x2,.int .i64 (l.length:Int),x4,x5,x6,x7,v,.int .i64 (S:Int),.int .u64 now,.int .i64 z] M N) fun X e m n w=>Q X e m n (Nat.lor w0 w):=by
 obtain⟨p1,p2,p3,p4⟩:=h.p
 obtain⟨ab,hi,hab,_,_,opn,wr,hma⟩:=h.at
 have hl5:l.length<=5:=by obtain⟨_,_,_,_,_,_,_,_,_,_,h7⟩:=h;exact h7
 intro d
 induction d with
 |zero=>
  intro j hj best x2 M N w0 hI hN hf hw
  refine dm (L:=vy) (b:=qw) rfl ?_
  simp only[qw]
  obtain rfl:j=l.length:=by omega
  simp -implicitDefEqProofs (disch:=omega)only[W2,dd,Nat.testBit,Nat.reduceAdd,Nat.reduceShiftRight,Nat.reduceAnd,Nat.reduceBNe,Nat.reduceMul]
  exact hQ _ _ _ _ _ _ hI hw
 |succ d ih=>
  intro j hj best x2 M N w0 hI hN hf hw
  have hj1:j<l.length:=by omega
  obtain⟨c1,c2,c3,c4,c5⟩:=eM hj1
  have hix:=hi j hj1
  have hmM:=(hf ab hab).trans hma
  refine dm (L:=vy) (b:=qw) rfl ?_
  simp only[qw]
  generalize hM1:(AMem.put M N (some (.cells [.int .i64 (l[j].used:Int),.int .i64 (l[j].live:Int),.int .u64 l[j].age,.int .u64 l[j].wear] 0 false true)):FM)=M1
  have l1:∀b,b<N->M1 b=M b:=fun b hb=>by rw[<-hM1,dc _ _ _ _ (by omega)]
  have l0:M1 N=some (.cells [.int .i64 (l[j].used:Int),.int .i64 (l[j].live:Int),.int .u64 l[j].age,.int .u64 l[j].wear] 0 false true):=by rw[<-hM1];exact de _ _ _
  have hmM1:=(l1 ab (by omega)).trans hmM
  have p5:=h.bel (N+1) (by omega)
  have oj:=ho _ (List.getElem_mem hj1)
  have fin:∀z',ChI S z l (j+1) z'->Wr PG EL Y [] (Nat.lor (bit N) (bit N)) (dt PG EL Y vy [.int .i64 z',.int .i64 ((j+1:Nat):Int),x2,.int .i64 (l.length:Int),x4,x5,x6,x7,v,.int .i64 (S:Int),.int .u64 now,.int .i64 z] M1 (N+1)) fun X e m n w=>Q X e m n (Nat.lor w0 w):=fun z' hz=>by
   refine dM (ih (j+1) (by omega) _ _ _ _ (Nat.lor w0 (Nat.lor (bit N) (bit N))) hz (by omega) (fun b h1=>by rw[l1 b (by omega),hf b h1]) (by simp only[eL];exact⟨hw,dE (by omega),dE (by omega)⟩)) fun X e m n w hq=>?_
   rw[show Nat.lor w0 (Nat.lor (Nat.lor (bit N) (bit N)) w)=Nat.lor (Nat.lor w0 (Nat.lor (bit N) (bit N))) w from(dy _ _ _).symm]
   exact hq
  have skip:¬mA S z l j->ChI S z l (j+1) best:=fun hc=>by
   rcases hI with⟨e,hn⟩|⟨k,e,hk,hc'⟩
   ·refine .inl ⟨e,fun k hk=>?_⟩
    by_cases e2:k=j
    ·subst e2;exact hc
    ·exact hn k (by omega)
   ·exact .inr ⟨k,e,by omega,hc'⟩
  have keepI:∀k:Nat,best=(k:Int)->ChI S z l (j+1) best:=fun k e=>by
   rcases hI with⟨e',hn⟩|⟨k,e,hk,hc'⟩
   ·omega
   ·exact .inr ⟨k,e,by omega,hc'⟩
  by_cases hz:(j:Int)=z
  ·simp -implicitDefEqProofs (disch:=omega)only[W2,dd,Nat.testBit,Nat.reduceAdd,Nat.reduceShiftRight,Nat.reduceAnd,Nat.reduceBNe,Nat.reduceMul,p2,hix,hmM,c1,hM1,l0]
   exact fin _ (skip fun⟨_,q,_⟩=>q hz)
  ·by_cases hu:l[j].used=0
   ·simp -implicitDefEqProofs (disch:=omega)only[W2,dd,Nat.testBit,Nat.reduceAdd,Nat.reduceShiftRight,Nat.reduceAnd,Nat.reduceBNe,Nat.reduceMul,p2,hix,hmM,c1,hM1,l0]
    exact fin _ (skip fun⟨_,_,q,_⟩=>by omega)
   ·by_cases hlv:S<=l[j].live
    ·simp -implicitDefEqProofs (disch:=omega)only[W2,dd,Nat.testBit,Nat.reduceAdd,Nat.reduceShiftRight,Nat.reduceAnd,Nat.reduceBNe,Nat.reduceMul,p2,hix,hmM,c1,hM1,l0]
     exact fin _ (skip fun⟨_,_,_,q⟩=>by omega)
    ·have hcand:mA S z l j:=⟨hj1,hz,by omega,by omega⟩
     have here:ChI S z l (j+1) (j:Int):=.inr ⟨j,rfl,by omega,hcand⟩
     rcases hI with⟨rfl,hn⟩|⟨k,rfl,hk,hc'⟩
     ·simp -implicitDefEqProofs (disch:=omega)only[W2,dd,Nat.testBit,Nat.reduceAdd,Nat.reduceShiftRight,Nat.reduceAnd,Nat.reduceBNe,Nat.reduceMul,p2,hix,hmM,c1,hM1,l0]
      exact fin _ here
     ·have hk1:k<l.length:=by omega
      obtain⟨d1,d2,d3,d4,d5⟩:=eM hk1
      have hik:=hi k hk1
      have ok:=ho _ (List.getElem_mem hk1)
      obtain⟨r1,hb1⟩:=sE (Y:=Y) M1 (N+1) l[j] l[k] now (by omega) (by omega) hS1 hS
      obtain⟨r2,hb2⟩:=sE (Y:=Y) M1 (N+1) l[k] l[j] now (by omega) (by omega) hS1 hS
      simp -implicitDefEqProofs (disch:=omega)only[W2,dd,Nat.testBit,Nat.reduceAdd,Nat.reduceShiftRight,Nat.reduceAnd,Nat.reduceBNe,Nat.reduceMul,p2,p5,hix,hmM,c1,hM1,l0,hik,hmM1,d1]
      refine dV hb1 fun q1=>?_
      cases r1
      ·simp -implicitDefEqProofs (disch:=omega)only[W2,dd,Nat.testBit,Nat.reduceAdd,Nat.reduceShiftRight,Nat.reduceAnd,Nat.reduceBNe,Nat.reduceMul,p2,p5,hix,hmM,c1,hM1,l0,hik,hmM1,d1]
       refine dV hb2 fun q2=>?_
       cases r2
       ·by_cases hlt:l[j].wear<l[k].wear
        ·simp -implicitDefEqProofs (disch:=omega)only[W2,dd,Nat.testBit,Nat.reduceAdd,Nat.reduceShiftRight,Nat.reduceAnd,Nat.reduceBNe,Nat.reduceMul,p2,p5,hix,hmM,c1,hM1,l0,hik,hmM1,d1,d5]
         exact fin _ here
        ·simp -implicitDefEqProofs (disch:=omega)only[W2,dd,Nat.testBit,Nat.reduceAdd,Nat.reduceShiftRight,Nat.reduceAnd,Nat.reduceBNe,Nat.reduceMul,p2,p5,hix,hmM,c1,hM1,l0,hik,hmM1,d1,d5]
         exact fin _ (.inr ⟨k,rfl,by omega,hc'⟩)
       ·simp -implicitDefEqProofs (disch:=omega)only[W2,dd,Nat.testBit,Nat.reduceAdd,Nat.reduceShiftRight,Nat.reduceAnd,Nat.reduceBNe,Nat.reduceMul,p2,p5,hix,hmM,c1,hM1,l0,hik,hmM1,d1,d5]
        exact fin _ (.inr ⟨k,rfl,by omega,hc'⟩)
      ·simp -implicitDefEqProofs (disch:=omega)only[W2,dd,Nat.testBit,Nat.reduceAdd,Nat.reduceShiftRight,Nat.reduceAnd,Nat.reduceBNe,Nat.reduceMul,p2,p5,hix,hmM,c1,hM1,l0,hik,hmM1,d1]
       exact fin _ here
theorem choose_spec(h:BsW i pb m n v l){S:Nat}(hS1:1<=S)(hS:S<=100)(ho:BOk S l)(now z:Int):∃r:Value,((∃k:Nat,r=.tuple #[.int .i64 (k:Int),.int .i64 0]/\mA S z l k)\/(r=.tuple #[.int .i64 0,.int .i64 9]/\∀k,¬mA S z l k))/\Pure (df PG EL Y 65 [v,.int .i64 (S:Int),.int .u64 now,.int .i64 z] m n) m n r:=by
 obtain⟨p1,p2,p3,p4⟩:=h.p
 obtain⟨r,hr,hp⟩:=jL (P:=PG) (Y:=Y) (m:=m) (n:=n) (args:=[v,.int .i64 (S:Int),.int .u64 now,.int .i64 z]) (S:=fun r=>(∃k:Nat,r=.tuple #[.int .i64 (k:Int),.int .i64 0]/\mA S z l k)\/(r=.tuple #[.int .i64 0,.int .i64 9]/\∀k,¬mA S z l k)) e65 rfl (fun r hS=>by rcases hS with⟨k,rfl,_⟩|⟨rfl,_⟩<;>rfl) (by
  simp only[Pb]
  simp -implicitDefEqProofs (disch:=omega)only[W2,dd,Nat.testBit,Nat.reduceAdd,Nat.reduceShiftRight,Nat.reduceAnd,Nat.reduceBNe,Nat.reduceMul,p2]
  refine di (sD h hS1 hS ho) fun r1=>?_
  simp -implicitDefEqProofs (disch:=omega)only[W2,dd,Nat.testBit,Nat.reduceAdd,Nat.reduceShiftRight,Nat.reduceAnd,Nat.reduceBNe,Nat.reduceMul,p1,p2]
  refine dS ((Gf h hS1 hS ho now z _ _ _ _ (fun best x1 x2 M N w hI hw=>?_) l.length 0 (Nat.zero_add _) (-1) _ m n 0 (.inl ⟨rfl,fun k hk=>absurd hk (Nat.not_lt_zero _)⟩) (Nat.le_refl _) (fun _ _=>rfl) (jg _)).mono fun X e m' n' w hq=>by simpa only[dx]using hq)
  intro rr
  rcases hI with⟨rfl,hn⟩|⟨k,rfl,hk,hc⟩
  ·simp -implicitDefEqProofs (disch:=omega)only[W2,dd,Nat.testBit,Nat.reduceAdd,Nat.reduceShiftRight,Nat.reduceAnd,Nat.reduceBNe,Nat.reduceMul]
   exact⟨⟨_,rfl,.inr ⟨rfl,fun k hc=>hn k hc.1 hc⟩⟩,hw⟩
  ·simp -implicitDefEqProofs (disch:=omega)only[W2,dd,Nat.testBit,Nat.reduceAdd,Nat.reduceShiftRight,Nat.reduceAnd,Nat.reduceBNe,Nat.reduceMul]
   exact⟨⟨_,rfl,.inl ⟨k,rfl,hc⟩⟩,hw⟩)
 exact⟨r,hr,hp⟩
theorem Du(a:Int):∃z,mq PG .shr 40 (.int .u64 a) (.int .u64 1)=some (.int .u64 z):=⟨_,rfl⟩
noncomputable def zK(a:Int):Int:=(Du a).choose
theorem Dv(a:Int):mq PG .shr 40 (.int .u64 a) (.int .u64 1)=some (.int .u64 (zK a)):=(Du a).choose_spec
theorem Gw(a b:Int):∃z,mq PG .xor 40 (.int .u64 a) (.int .u64 b)=some (.int .u64 z):=⟨_,rfl⟩
noncomputable def BQ(a b:Int):Int:=(Gw a b).choose
theorem xor_eq(a b:Int):mq PG .xor 40 (.int .u64 a) (.int .u64 b)=some (.int .u64 (BQ a b)):=(Gw a b).choose_spec
theorem wrap_u64(a:Int):0<=IntKind.u64.wrap a/\IntKind.u64.wrap a<18446744073709551616:=by
 have e:IntKind.u64.wrap a=a % 18446744073709551616:=by simp[IntKind.wrap,IntKind.signed,IntKind.bits]
 rw[e]
 exact⟨Int.emod_nonneg _ (by decide),Int.emod_lt_of_pos _ (by decide)⟩
theorem Ir(a:Int):∃z,iO .u64 (.int .u8 a)=some (.int .u64 z):=⟨_,rfl⟩
noncomputable def Is(a:Int):Int:=(Ir a).choose
theorem OA(a:Int):iO .u64 (.int .u8 a)=some (.int .u64 (Is a)):=(Ir a).choose_spec
noncomputable def Dq(x:Int):Int:=if OJ x 1=1 then BQ (zK x) 14514072000185962306 else zK x
theorem Fp(m:FM)(n:Nat)(x:Int):Pure (df PG EL Y 200 [.int .u64 x] m n) m n (.int .u64 (Dq x)):=by
 refine dz e200 rfl rfl ?_
 simp only[Jh]
 by_cases h:OJ x 1=1
 ·rw[show Dq x=BQ (zK x) 14514072000185962306 from if_pos h]
  simp -implicitDefEqProofs (disch:=omega)only[W2,dd,Nat.testBit,Nat.reduceAdd,Nat.reduceShiftRight,Nat.reduceAnd,Nat.reduceBNe,Nat.reduceMul,wz,and_eq,Dv,xor_eq]
 ·rw[show Dq x=zK x from if_neg h]
  simp -implicitDefEqProofs (disch:=omega)only[W2,dd,Nat.testBit,Nat.reduceAdd,Nat.reduceShiftRight,Nat.reduceAnd,Nat.reduceBNe,Nat.reduceMul,wz,and_eq,Dv,xor_eq]
noncomputable def qK:Nat->Int->Int
 |0,x=>x
 |k+1,x=>Dq (qK k x)
theorem Kx(x:Int)(x3 x4 x5 x6 x7 x8 x9 x10 x11 x12 x13 x14 x15:Value)
  (hQ:∀x1 x2,Q (.exit 2) [.int .u64 (qK 8 x),x1,x2,x3,x4,x5,x6,x7,x8,x9,x10,x11,x12,x13,x14,x15] m n 0):
  ∀(d j:Nat),j+d=8->∀(x2:Value),Gv (dt PG EL Y tt [.int .u64 (qK j x),.int .i64 (j:Int),x2,x3,x4,x5,x6,x7,x8,x9,x10,x11,x12,x13,x14,x15] m n) Q:=by
 intro d
 induction d with
 |zero=>
  intro j hj x2
  refine dm (L:=tt) (b:=nH) rfl ?_
  simp only[nH]
  obtain rfl:j=8:=by omega
  simp -implicitDefEqProofs (disch:=omega)only[W2,dd,Nat.testBit,Nat.reduceAdd,Nat.reduceShiftRight,Nat.reduceAnd,Nat.reduceBNe,Nat.reduceMul]
  exact hQ _ _
 |succ d ih=>
  intro j hj x2
  refine dm (L:=tt) (b:=nH) rfl ?_
  simp only[nH]
  simp -implicitDefEqProofs (disch:=omega)only[W2,dd,Nat.testBit,Nat.reduceAdd,Nat.reduceShiftRight,Nat.reduceAnd,Nat.reduceBNe,Nat.reduceMul]
  refine di (Fp _ _ _) fun r1=>?_
  simp -implicitDefEqProofs (disch:=omega)only[W2,dd,Nat.testBit,Nat.reduceAdd,Nat.reduceShiftRight,Nat.reduceAnd,Nat.reduceBNe,Nat.reduceMul]
  refine dM (ih (j+1) (by omega) _) fun X e m n w hq=>?_
  rwa [dx]
noncomputable def vM:List Int->Int->Int
 |[],x=>x
 |c::cs,x=>vM cs (qK 8 (BQ x (Is c)))
theorem wc:∀(cs:List Int) (c x:Int),vM (cs++[c]) x=qK 8 (BQ (vM cs x) (Is c))
 |[],c,x=>rfl
 |d::cs,c,x=>wc cs c _
def u8s(us:List Int):List Value:=us.map (Value.int .u8)
theorem NP(h:Sh 1 m n v us.length (u8s us))(x:Int)(x4 x5 x6:Value)(hl:us.length<=1000)
  (hQ:∀x1 x2,Q (.exit 0) [.int .u64 (vM us x),x1,x2,x4,x5,x6,v] m n 0):
  ∀(d j:Nat),j+d=us.length->∀(x2:Value),Gv (dt PG EL Y tr [.int .u64 (vM (us.take j) x),.int .i64 (j:Int),x2,.int .i64 (us.length:Int),x4,x5,x6,v] m n) Q:=by
 have hvo:=h.one
 obtain⟨b,o,c,xs,opn,wr,hv,hb,hm,hcs,h0⟩:=h
 intro d
 induction d with
 |zero=>
  intro j hj x2
  refine dm (L:=tr) (b:=nG) rfl ?_
  simp only[nG]
  obtain rfl:j=us.length:=by omega
  rw[List.take_length]
  simp -implicitDefEqProofs (disch:=omega)only[W2,dd,Nat.testBit,Nat.reduceAdd,Nat.reduceShiftRight,Nat.reduceAnd,Nat.reduceBNe,Nat.reduceMul]
  exact hQ _ _
 |succ d ih=>
  intro j hj x2
  have hj1:j<us.length:=by omega
  have hix:fU 1 j v=some (.pointer (some ⟨b,o+j,none⟩)):=by rw[hv,eY hj1,Nat.mul_one]
  have hat:fh xs (o+j)=some (.int .u8 us[j]):=by
   obtain⟨e1,e2,e3⟩:=iF hcs
   rw[eV,<-e3 j (by omega),u8s,List.getElem?_map,List.getElem?_eq_getElem hj1]
   rfl
  refine dm (L:=tr) (b:=nG) rfl ?_
  simp only[nG]
  simp -implicitDefEqProofs (disch:=omega)only[W2,dd,Nat.testBit,Nat.reduceAdd,Nat.reduceShiftRight,Nat.reduceAnd,Nat.reduceBNe,Nat.reduceMul,hix,hm,hat,OA,wz,xor_eq,hvo]
  refine dS ((Kx (BQ (vM (us.take j) x) (Is us[j])) _ _ _ _ _ _ _ _ _ _ _ _ _ (fun x1 x2=>?_) 8 0 rfl (.int .i64 0)).mono fun X e m' n' w hq=>by simpa only[dx]using hq)
  intro rr
  have e:qK 8 (BQ (vM (us.take j) x) (Is us[j]))=vM (us.take (j+1)) x:=by rw[<-wc,show us.take j++[us[j]]=us.take (j+1)from(List.take_succ_eq_append_getElem hj1).symm]
  simp -implicitDefEqProofs (disch:=omega)only[W2,dd,Nat.testBit,Nat.reduceAdd,Nat.reduceShiftRight,Nat.reduceAnd,Nat.reduceBNe,Nat.reduceMul]
  rw[e]
  refine dM (ih (j+1) (by omega) _) fun X e m n w hq=>?_
  rwa [dx]
theorem GB(h:Sh 1 m n v us.length (u8s us))(hl:us.length<=1000)(x:Int):Pure (df PG EL Y 147 [.int .u64 x,v] m n) m n (.int .u64 (yA .u64 (vM us (yA .u64 x)))):=by
 have hvo:=h.one
 refine dz e147 rfl rfl ?_
 simp only[JG]
 simp -implicitDefEqProofs (disch:=omega)only[W2,dd,Nat.testBit,Nat.reduceAdd,Nat.reduceShiftRight,Nat.reduceAnd,Nat.reduceBNe,Nat.reduceMul,h.len,hvo,show∀a:Int,zz .xor (.int .u64 a)=some (.int .u64 (yA .u64 a))from fun _=>rfl]
 refine dS ((NP h (yA .u64 x) _ _ _ hl (fun x1 x2=>?_) us.length 0 (Nat.zero_add _) (.int .i64 0)).mono fun X e m' n' w hq=>by simpa only[dx]using hq)
 intro rr
 simp -implicitDefEqProofs (disch:=omega)only[W2,dd,Nat.testBit,Nat.reduceAdd,Nat.reduceShiftRight,Nat.reduceAnd,Nat.reduceBNe,Nat.reduceMul,show∀a:Int,zz .xor (.int .u64 a)=some (.int .u64 (yA .u64 a))from fun _=>rfl]
noncomputable def Iu(us:List Int):Int:=yA .u64 (vM us (yA .u64 0))
theorem EE(us:List Int):0<=Iu us/\Iu us<18446744073709551616:=wrap_u64 _
theorem GI{us:List Int}(h:Sh 1 m n v us.length (u8s us))(hl:us.length<=1000):Pure (df PG EL Y 101 [v] m n) m n (.int .u64 (Iu us)):=by
 have hvo:=h.one
 refine dz e101 rfl rfl ?_
 simp only[Ke]
 simp -implicitDefEqProofs (disch:=omega)only[W2,dd,Nat.testBit,Nat.reduceAdd,Nat.reduceShiftRight,Nat.reduceAnd,Nat.reduceBNe,Nat.reduceMul,hvo]
 refine di (GB h hl 0) fun r1=>?_
 simp -implicitDefEqProofs (disch:=omega)only[W2,dd,Nat.testBit,Nat.reduceAdd,Nat.reduceShiftRight,Nat.reduceAnd,Nat.reduceBNe,Nat.reduceMul]
 rfl
theorem shr_k(a:Int)(k:Nat)(hk:k<=64):mq PG .shr 40 (.int .u64 a) (.int .i64 (k:Int))=some (.int .u64 (a / 2 ^ k)):=by
 show mz (dG PG (eqGuard .shr 37 (.tmp 0) (.tmp 0) (.int .u64 a) (.int .i64 (k:Int)) >>= fun _=>Op.shift .shr .u64 a .i64 (k:Int)))=_
 rw[shift_shr_any .u64 .i64 a k (Int.natCast_nonneg k)]
 show some (Value.int .u64 (a / 2 ^ min (k:Int).toNat 64))=_
 rw[Int.toNat_natCast,Nat.min_eq_left hk]
theorem shl_k(a:Int)(k:Nat)(hk:k<=64):mq PG .shl 40 (.int .u64 a) (.int .i64 (k:Int))=some (.int .u64 (IntKind.u64.wrap (a*2 ^ k))):=by
 show mz (dG PG (eqGuard .shl 37 (.tmp 0) (.tmp 0) (.int .u64 a) (.int .i64 (k:Int)) >>= fun _=>Op.shift .shl .u64 a .i64 (k:Int)))=_
 rw[shift_shl_any .u64 .i64 a k (Int.natCast_nonneg k)]
 show some (Value.int .u64 (IntKind.u64.wrap (a*2 ^ min (k:Int).toNat 64)))=_
 rw[Int.toNat_natCast,Nat.min_eq_left hk]
def Bx(a:Int)(i:Nat):Int:=gn .u8 (a / 2 ^ (8*i))
def iG(a:Int)(k:Nat):List Int:=(List.range k).map (Bx a)
theorem conv8(a:Int):iO .u8 (.int .u64 a)=some (.int .u8 (gn .u8 a)):=rfl
theorem N0{m0:FM}(hk:k<=8)(hl0:l0<=1000)(x4 x5:Value)
  (hQ:∀(x2 v:Value) M N w,n0<=N->(∀b,b<n0->M b=m0 b)->(∀j,j<=n0->Nat.mod w (bit j)=0)->SlZ 1 M n0 N v (l0+k) (cs0++u8s (iG a k))->Q (.exit 0) [v,x2,x4,x5,.int .u64 a,.int .i64 (k:Int)] M N w):
  ∀(d j:Nat),j+d=k->∀(v x2:Value) (M:FM) (N w0:Nat),n0<=N->(∀b,b<n0->M b=m0 b)->(∀j,j<=n0->Nat.mod w0 (bit j)=0)->SlZ 1 M n0 N v (l0+j) (cs0++u8s (iG a j))->
  Gv (dt PG EL Y tq [v,.int .i64 (j:Int),x2,x4,x5,.int .u64 a,.int .i64 (k:Int)] M N) fun X e m n w=>Q X e m n (Nat.lor w0 w):=by
 intro d
 induction d with
 |zero=>
  intro j hj v x2 M N w0 hN hf hw hS
  refine dm (L:=tq) (b:=nE) rfl ?_
  simp only[nE]
  obtain rfl:j=k:=by omega
  simp -implicitDefEqProofs (disch:=omega)only[W2,dd,Nat.testBit,Nat.reduceAdd,Nat.reduceShiftRight,Nat.reduceAnd,Nat.reduceBNe,Nat.reduceMul]
  exact hQ _ _ _ _ _ hN hf hw hS
 |succ d ih=>
  intro j hj v x2 M N w0 hN hf hw hS
  have hone:=hS.one
  refine dm (L:=tq) (b:=nE) rfl ?_
  simp only[nE]
  have hsh:mq PG .shr 40 (.int .u64 a) (.int .i64 (8*(j:Int)))=some (.int .u64 (a / 2 ^ (8*j))):=by rw[show 8*(j:Int)=((8*j:Nat):Int) by omega];exact shr_k a (8*j) (by omega)
  simp -implicitDefEqProofs (disch:=omega)only[W2,dd,Nat.testBit,Nat.reduceAdd,Nat.reduceShiftRight,Nat.reduceAnd,Nat.reduceBNe,Nat.reduceMul,wz,hsh,conv8,hone]
  rw[show gn .u8 (a / 2 ^ (8*j))=Bx a j from rfl]
  generalize hM1:(AMem.put M N _:FM)=M1
  have l1:∀b,b<N->M1 b=M b:=fun b hb=>by rw[<-hM1,dc _ _ _ _ (by omega)]
  have hS1:=hS.frame (show N<=N+1 by omega) fun b h1 h2=>l1 b h2
  refine dw (ER hS1 _ _ _ (by omega) (by omega) rfl (by rfl) (by omega) (by omega)) fun v1 M2 N2 r1 w1 hh=>?_
  obtain⟨hv1,hn1,hs1,hl1,hw1⟩:=hh
  subst hn1
  have e1:cs0++u8s (iG a j)++[Value.int .u8 (Bx a j)]=cs0++u8s (iG a (j+1)):=by
   rw[List.append_assoc,iG,iG,List.range_succ,List.map_append,u8s,u8s,List.map_append];rfl
  rw[e1]at hs1
  simp -implicitDefEqProofs (disch:=omega)only[W2,dd,Nat.testBit,Nat.reduceAdd,Nat.reduceShiftRight,Nat.reduceAnd,Nat.reduceBNe,Nat.reduceMul]
  refine dM (ih (j+1) (by omega) v1 _ M2 _ (Nat.lor w0 (Nat.lor (bit N) w1)) (by omega) (fun b hb=>by rw[hl1 b hb,l1 b (by omega),hf b hb]) (fun i hi=>by simp only[eL];exact⟨hw i hi,dE (by omega),hw1 i hi⟩) hs1) fun X e m n w hq=>?_
  rw[show Nat.lor w0 (Nat.lor (Nat.lor (bit N) w1) w)=Nat.lor (Nat.lor w0 (Nat.lor (bit N) w1)) w from(dy _ _ _).symm]
  exact hq
theorem mP{n0:Nat}(hn:n0<=n){a:Int}{k:Nat}(hk:k<=8)(hk0:0<k){l0:Nat}{cs0:List Value}(hl0:l0<=1000)(h:SlZ 1 m n0 n v l0 cs0):
  Rt (df PG EL Y 151 [v,.int .u64 a,.int .i64 (k:Int)] m n) fun v' m' n' w=>n0<=n'/\(∀b,b<n0->m' b=m b)/\(∀j,j<=n0->Nat.mod w (bit j)=0)/\SlZ 1 m' n0 n' v' (l0+k) (cs0++u8s (iG a k)):=by
 refine G9 e151 rfl fun Q hQ=>?_
 have hone:=h.one
 simp only[JC]
 simp -implicitDefEqProofs (disch:=omega)only[W2,dd,Nat.testBit,Nat.reduceAdd,Nat.reduceShiftRight,Nat.reduceAnd,Nat.reduceBNe,Nat.reduceMul]
 refine dS ((N0 hk hl0 _ _ (fun x2 v1 M N w hN hf hw hS=>?_) k 0 (Nat.zero_add _) v (.int .i64 0) m n 0 hn (fun _ _=>rfl) (fun j _=>jg _) (by simpa[iG,u8s]using h)).mono fun X e m' n' w hq=>by simpa only[dx]using hq)
 intro rr
 have h1:=hS.one
 simp -implicitDefEqProofs (disch:=omega)only[W2,dd,Nat.testBit,Nat.reduceAdd,Nat.reduceShiftRight,Nat.reduceAnd,Nat.reduceBNe,Nat.reduceMul]
 refine hQ _ _ _ _ _ ?_ ⟨hN,hf,by simpa only[dx]using hw,hS⟩
 rcases hS with⟨q,_⟩|⟨_,_,b,rfl,_⟩
 ·omega
 ·rfl
def pD(ns:List Nat):Nat->Nat
 |0=>0
 |j+1=>pD ns j+(ns[j]?.getD 0)*2 ^ (8*j)
theorem xZ(h:∀x∈ns,x<256):∀j,j<=ns.length->pD ns j<2 ^ (8*j)
 |0,_=>by simp[pD]
 |j+1,hj=>by
  have h1:=xZ h j (by omega)
  have h2:ns[j]<256:=h _ (List.getElem_mem (by omega))
  rw[pD,List.getElem?_eq_getElem (by omega),Option.getD_some,show 8*(j+1)=8*j+8 by omega,Nat.pow_add]
  have h3:ns[j]*2 ^ (8*j)<=255*2 ^ (8*j):=Nat.mul_le_mul_right _ (by omega)
  omega
theorem or_eq(a b:Int):mq PG .or 40 (.int .u64 a) (.int .u64 b)=some (.int .u64 (IntKind.u64.wrap ((BitVec.ofInt 64 a ||| BitVec.ofInt 64 b).toNat:Int))):=rfl
theorem Oa{u:Nat}(hA:A<2 ^ k)(hk:A+u*2 ^ k<2 ^ 64):mq PG .or 40 (.int .u64 (A:Int)) (.int .u64 ((u*2 ^ k:Nat):Int))=some (.int .u64 ((A+u*2 ^ k:Nat):Int)):=by
 rw[or_eq]
 have e1:(BitVec.ofInt 64 (A:Int) ||| BitVec.ofInt 64 ((u*2 ^ k:Nat):Int)).toNat=A+u*2 ^ k:=by
  rw[BitVec.toNat_or,BitVec.ofInt_natCast,BitVec.ofInt_natCast,BitVec.toNat_ofNat,BitVec.toNat_ofNat,Nat.mod_eq_of_lt (by omega),Nat.mod_eq_of_lt (by omega),Nat.mul_comm u,Nat.or_comm,<-Nat.two_pow_add_eq_or_of_lt hA,Nat.add_comm]
 rw[e1]
 have e2:IntKind.u64.wrap ((A+u*2 ^ k:Nat):Int)=((A+u*2 ^ k:Nat):Int):=by
  have e:∀a:Int,IntKind.u64.wrap a=a % 18446744073709551616:=fun a=>by simp[IntKind.wrap,IntKind.signed,IntKind.bits]
  rw[e]
  exact Int.emod_eq_of_lt (by omega) (by omega)
 rw[e2]
theorem wrap_small(h:x<2 ^ 64):IntKind.u64.wrap (x:Int)=(x:Int):=by
 have e:∀a:Int,IntKind.u64.wrap a=a % 18446744073709551616:=fun a=>by simp[IntKind.wrap,IntKind.signed,IntKind.bits]
 rw[e]
 exact Int.emod_eq_of_lt (by omega) (by omega)
theorem Oz(h:x<256):iO .u64 (.int .u8 (x:Int))=some (.int .u64 (x:Int)):=by
 show some (Value.int .u64 (gn .u64 (x:Int)))=_
 rw[eW,wrap_small (by omega)]
theorem KC{i:Nat}(hx:x<256)(hi:i<8):mq PG .shl 40 (.int .u64 (x:Int)) (.int .i64 (8*(i:Int)))=some (.int .u64 ((x*2 ^ (8*i):Nat):Int)):=by
 rw[show 8*(i:Int)=((8*i:Nat):Int) by omega,shl_k _ _ (by omega)]
 have h1:2 ^ (8*i)<=2 ^ 56:=Nat.pow_le_pow_right (by omega) (by omega)
 have h2:x*2 ^ (8*i)<=255*2 ^ 56:=Nat.mul_le_mul (by omega) h1
 rw[show(x:Int)*2 ^ (8*i)=((x*2 ^ (8*i):Nat):Int) by push_cast;rfl,wrap_small (by omega)]
theorem Om(h:Sh 1 m n v ns.length (n8s ns))(hb:∀x∈ns,x<256)(hl:ns.length<=8)(x4 x5:Value)
  (hQ:∀x2,Q (.exit 0) [.int .u64 (pD ns ns.length:Int),x2,.int .i64 (ns.length:Int),x4,x5,v] m n 0):
  ∀(d j:Nat),j+d=ns.length->∀(x2:Value),Gv (dt PG EL Y tu [.int .u64 (pD ns j:Int),.int .i64 (j:Int),x2,.int .i64 (ns.length:Int),x4,x5,v] m n) Q:=by
 have hvo:=h.one
 obtain⟨b,o,c,xs,opn,wr,hv,hbn,hm,hcs,h0⟩:=h
 intro d
 induction d with
 |zero=>
  intro j hj x2
  refine dm (L:=tu) (b:=nK) rfl ?_
  simp only[nK]
  obtain rfl:j=ns.length:=by omega
  simp -implicitDefEqProofs (disch:=omega)only[W2,dd,Nat.testBit,Nat.reduceAdd,Nat.reduceShiftRight,Nat.reduceAnd,Nat.reduceBNe,Nat.reduceMul]
  exact hQ _
 |succ d ih=>
  intro j hj x2
  have hj1:j<ns.length:=by omega
  have hix:fU 1 j v=some (.pointer (some ⟨b,o+j,none⟩)):=by rw[hv,eY hj1,Nat.mul_one]
  have hat:fh xs (o+j)=some (.int .u8 ((ns[j]:Nat):Int)):=by
   obtain⟨e1,e2,e3⟩:=iF hcs
   rw[eV,<-e3 j (by omega),n8s,List.getElem?_map,List.getElem?_eq_getElem hj1]
   rfl
  have hx:=hb _ (List.getElem_mem hj1)
  have hlt:=xZ hb j (by omega)
  have hlt2:=xZ hb (j+1) (by omega)
  have hs:pD ns (j+1)=pD ns j+ns[j]*2 ^ (8*j):=by rw[pD,List.getElem?_eq_getElem hj1,Option.getD_some]
  have h202:2 ^ (8*(j+1))<=2 ^ 64:=Nat.pow_le_pow_right (by omega) (by omega)
  have hor:=Oa (u:=ns[j]) hlt (by omega)
  rw[<-hs]at hor
  refine dm (L:=tu) (b:=nK) rfl ?_
  simp only[nK]
  simp -implicitDefEqProofs (disch:=omega)only[W2,dd,Nat.testBit,Nat.reduceAdd,Nat.reduceShiftRight,Nat.reduceAnd,Nat.reduceBNe,Nat.reduceMul,hix,hm,hat,Oz hx,wz,KC hx (show j<8 by omega),hor,hvo]
  refine dM (ih (j+1) (by omega) _) fun X e m n w hq=>?_
  rwa [dx]
theorem qd(h:Sh 1 m n v ns.length (n8s ns))(hb:∀x∈ns,x<256)(hl:ns.length<=8):Pure (df PG EL Y 126 [v] m n) m n (.int .u64 (pD ns ns.length:Int)):=by
 have hvo:=h.one
 refine dz e126 rfl rfl ?_
 simp only[JT]
 simp -implicitDefEqProofs (disch:=omega)only[W2,dd,Nat.testBit,Nat.reduceAdd,Nat.reduceShiftRight,Nat.reduceAnd,Nat.reduceBNe,Nat.reduceMul,h.len,hvo]
 refine dS ((Om h hb hl _ _ (fun x2=>?_) ns.length 0 (Nat.zero_add _) (.int .i64 0)).mono fun X e m' n' w hq=>by simpa only[dx]using hq)
 intro rr
 simp -implicitDefEqProofs (disch:=omega)only[W2,dd,Nat.testBit,Nat.reduceAdd,Nat.reduceShiftRight,Nat.reduceAnd,Nat.reduceBNe,Nat.reduceMul]
def dU(A k:Nat):List Nat:=(List.range k).map fun i=>A / 2 ^ (8*i) % 256
theorem eo(A k:Nat):(dU A k).length=k:=by rw[dU,List.length_map,List.length_range]
theorem oe(A k:Nat):∀x∈dU A k,x<256:=fun x hx=>by
 obtain⟨i,_,rfl⟩:=List.mem_map.1 hx
 exact Nat.mod_lt _ (by omega)
theorem wi(A k:Nat):∀j,j<=k->pD (dU A k) j=A % 2 ^ (8*j)
 |0,_=>by simp[pD,Nat.mod_one]
 |j+1,hj=>by
  rw[pD,wi A k j (by omega),dU,List.getElem?_map,List.getElem?_range (by omega),Option.map_some,Option.getD_some,show 8*(j+1)=8*j+8 by omega,Nat.pow_add,Nat.mod_mul,Nat.mul_comm (2 ^ (8*j))]
theorem vY(x:Nat):gn .u8 (x:Int)=((x % 256:Nat):Int):=by
 rw[eW]
 have e:∀a:Int,IntKind.u8.wrap a=a % 256:=fun a=>by simp[IntKind.wrap,IntKind.signed,IntKind.bits]
 rw[e];omega
theorem we(A k:Nat):u8s (iG (A:Int) k)=n8s (dU A k):=by
 rw[u8s,n8s,iG,dU,List.map_map,List.map_map]
 apply List.map_congr_left
 intro i _
 show Value.int .u8 (Bx (A:Int) i)=_
 rw[Bx,show(A:Int) / 2 ^ (8*i)=((A / 2 ^ (8*i):Nat):Int) by push_cast;rfl,vY];rfl
theorem I0{sz k:Nat}{bytes:Nat}{len:Nat}{cs zs:List Value}(h:SlZ sz M n0 N v len cs)(ya:Option Addr)(yc ry:Nat)(h0:n0<=N)(hk:0<k)(hsz:0<sz)(hzl:zs.length=k*sz)(hz:zs.all Am.one=true)(hby:0<bytes)(hl:(len+k)*bytes<=140737488355328):
  Rt (jq sz bytes M N v (.slice ya k yc) (shown M N sz v) (some (zs,ry))) fun v' M' N' w=>AppZ sz M n0 N (len+k) (cs++zs) v' M' N' w:=by
 rcases h with⟨rfl,rfl,rfl⟩|⟨hp,hcl,b,rfl,hb,hbN,hM⟩
 ·rw[gJ,fF,fy]
  have hl':(0+k)*bytes<=140737488355328:=by simpa using hl
  rw[show(zs,ry).1.all Am.one=true from hz,dC hsz,dC hby,ep hl',iK (by omega)]
  exact⟨rfl,rfl,.inr ⟨by omega,by simp[hzl],N,rfl,h0,by omega,de _ _ _⟩,fun b hb=>dc _ _ _ _ (by omega),fun j hj=>dE (by omega)⟩
 ·rw[fZ hp,eS hbN,hM,gd,Nat.beq_refl,eU,gr,fw hcl.symm]
  show Rt (jq sz bytes M N _ _ (some (cs,bit b)) _) _
  rw[fF,fy]
  rw[show(zs,ry).1.all Am.one=true from hz,dC hsz,dC hby,ep hl,iJ,eS hbN,hM,jz]
  exact⟨rfl,rfl,.inr ⟨by omega,by rw[List.length_append,hcl,hzl,Nat.add_mul],N,rfl,h0,by omega,de _ _ _⟩,fun k hk=>by rw[dc _ _ _ _ (by omega),dc _ _ _ _ (by omega)],fun j hj=>by rw[eL];exact⟨dE (by omega),dE (by omega)⟩⟩
structure Rec where
 kd:Nat
 blk:Nat
 ver:Nat
 ds:List Nat
 tm:Nat
def oh:List Nat:=[0,0,0,0,0,0,0,0]
structure Rec.Ok(r:Rec):Prop where
 kd:r.kd=1\/(r.kd=2/\r.ds=oh)
 blk:r.blk<6
 v1:1<=r.ver
 v2:r.ver<2 ^ 64
 dl:r.ds.length=8
 d8:∀x∈r.ds,x<256
 tm:r.tm<2 ^ 64
theorem eight{α:Type}{l:List α}(h:l.length=8):∃a b c d e f g i,l=[a,b,c,d,e,f,g,i]:=by
 match l,h with
 |[a,b,c,d,e,f,g,i],_=>exact⟨a,b,c,d,e,f,g,i,rfl⟩
def Rec.cs(r:Rec):List Value:=.int .i64 (r.kd:Int)::.int .i64 (r.blk:Int)::.int .u64 (r.ver:Int)::n8s r.ds
def Rec.val(r:Rec):Value:=.agg r.cs.toArray
theorem sj(m:FM)(n:Nat){r:Rec}(h:r.Ok):Pure (df PG EL Y 127 [r.val] m n) m n (.bool true):=by
 obtain⟨kd,blk,ver,ds,tm⟩:=r
 obtain⟨hk,h2,h3,h4,h5,h6,h7⟩:=h
 simp only at hk h2 h3 h4 h5 h6 h7
 obtain⟨d0,d1,d2,d3,d4,d5,d6,d7,rfl⟩:=eight h5
 refine dz e127 rfl rfl ?_
 simp only[JS,Rec.val,Rec.cs,n8s,List.map_cons,List.map_nil]
 rcases hk with rfl|⟨rfl,hz⟩
 ·simp -implicitDefEqProofs (disch:=omega)only[W2,dd,Nat.testBit,Nat.reduceAdd,Nat.reduceShiftRight,Nat.reduceAnd,Nat.reduceBNe,Nat.reduceMul]
 ·injection hz with z0 hz;injection hz with z1 hz;injection hz with z2 hz;injection hz with z3 hz;injection hz with z4 hz;injection hz with z5 hz;injection hz with z6 hz;injection hz with z7 hz
  subst z0;subst z1;subst z2;subst z3;subst z4;subst z5;subst z6;subst z7
  simp -implicitDefEqProofs (disch:=omega)only[W2,dd,Nat.testBit,Nat.reduceAdd,Nat.reduceShiftRight,Nat.reduceAnd,Nat.reduceBNe,Nat.reduceMul,show ji PG .eql 47 (.agg #[.int .u8 ((0:Nat):Int),.int .u8 ((0:Nat):Int),.int .u8 ((0:Nat):Int),.int .u8 ((0:Nat):Int),.int .u8 ((0:Nat):Int),.int .u8 ((0:Nat):Int),.int .u8 ((0:Nat):Int),.int .u8 ((0:Nat):Int)]) (.agg #[.int .u8 0,.int .u8 0,.int .u8 0,.int .u8 0,.int .u8 0,.int .u8 0,.int .u8 0,.int .u8 0])=some (.bool true) by kernel_rfl]
noncomputable def qk(ns:List Nat):Nat:=(Iu (ns.map fun x:Nat=>(x:Int))).toNat
theorem EF(ns:List Nat):(qk ns:Int)=Iu (ns.map fun x:Nat=>(x:Int)):=by
 have:=(EE (ns.map fun x:Nat=>(x:Int))).1
 rw[qk];omega
theorem Lv(ns:List Nat):qk ns<2 ^ 64:=by
 have:=(EE (ns.map fun x:Nat=>(x:Int))).2
 have:=EF ns
 omega
theorem KY(ns:List Nat):u8s (ns.map fun x:Nat=>(x:Int))=n8s ns:=by
 rw[u8s,n8s,List.map_map];rfl
theorem kF(a b:List Nat):n8s (a++b)=n8s a++n8s b:=List.map_append
theorem wj{ns:List Nat}(h:Sh 1 m n v ns.length (n8s ns))(hl:ns.length<=1000):Pure (df PG EL Y 101 [v] m n) m n (.int .u64 (qk ns:Int)):=by
 rw[EF]
 refine GI (us:=ns.map fun x:Nat=>(x:Int)) ?_ (by rw[List.length_map];exact hl)
 rw[List.length_map,KY];exact h
theorem kI{x:Nat}(h:x<2 ^ 63):iO .u64 (.int .i64 (x:Int))=some (.int .u64 (x:Int)):=by
 show some (Value.int .u64 (gn .u64 (x:Int)))=_
 rw[eW,wrap_small (by omega)]
def Rec.plain(r:Rec):List Nat:=dU r.kd 1++dU r.blk 4++dU r.ver 8++r.ds++dU r.tm 8
noncomputable def Rec.enc(r:Rec):List Nat:=r.plain++dU (qk r.plain) 8
theorem qS{r:Rec}(h:r.Ok):r.plain.length=29:=by simp only[Rec.plain,List.length_append,eo,h.dl]
theorem Lp{r:Rec}(h:r.Ok):r.enc.length=37:=by simp only[Rec.enc,List.length_append,eo,qS h]
theorem A5(m:FM)(n:Nat){r:Rec}(h:r.Ok):Rt (df PG EL Y 111 [r.val,.int .u64 (r.tm:Int)] m n) fun v m' n' w=>n<=n'/\(∀b,b<n->m' b=m b)/\(∀j,j<=n->Nat.mod w (bit j)=0)/\∃v',v=.tuple #[v',.int .i64 0]/\SlZ 1 m' n n' v' 37 (n8s r.enc):=by
 refine ez (R:=fun v m' n'=>∃v',v=.tuple #[v',.int .i64 0]/\SlZ 1 m' n n' v' 37 (n8s r.enc)) e111 rfl fun Q hQ=>?_
 have hval:=fun(m:FM) (n:Nat)=>sj (Y:=Y) m n h
 have hpl:=qS h
 obtain⟨kd,blk,ver,ds,tm⟩:=r
 obtain⟨hk,h2,h3,h4,h5,h6,h7⟩:=h
 simp only at hk h2 h3 h4 h5 h6 h7
 obtain⟨d0,d1,d2,d3,d4,d5,d6,d7,rfl⟩:=eight h5
 have hkd:kd<=2:=by rcases hk with rfl|⟨rfl,_⟩<;>omega
 clear hk h6
 simp only[Rec.val,Rec.cs,n8s,List.map_cons,List.map_nil]at hval
 simp only[J7,Rec.val,Rec.cs,n8s,List.map_cons,List.map_nil]
 simp -implicitDefEqProofs (disch:=omega)only[W2,dd,Nat.testBit,Nat.reduceAdd,Nat.reduceShiftRight,Nat.reduceAnd,Nat.reduceBNe,Nat.reduceMul]
 refine di (hval _ _) fun r1=>?_
 simp -implicitDefEqProofs (disch:=omega)only[W2,dd,Nat.testBit,Nat.reduceAdd,Nat.reduceShiftRight,Nat.reduceAnd,Nat.reduceBNe,Nat.reduceMul,kI (x:=kd) (by omega)]
 generalize hM1:(AMem.put m n _:FM)=M1
 have l1:∀b,b<n->M1 b=m b:=fun b hb=>by rw[<-hM1,dc _ _ _ _ (by omega)]
 have l0:M1 n=some (.cells [.int .i64 (kd:Int),.int .i64 (blk:Int),.int .u64 (ver:Int),.int .u8 (d0:Int),.int .u8 (d1:Int),.int .u8 (d2:Int),.int .u8 (d3:Int),.int .u8 (d4:Int),.int .u8 (d5:Int),.int .u8 (d6:Int),.int .u8 (d7:Int)] 0 false true):=by rw[<-hM1];exact de _ _ _
 refine dw (mP (n0:=n+1) (Nat.le_refl _) (a:=(kd:Int)) (k:=1) (by omega) (by omega) (l0:=0) (cs0:=[]) (by omega) (.inl ⟨rfl,rfl,rfl⟩)) fun v1 m1 n1 r1 w1 hh=>?_
 obtain⟨a1,f1,k1,s1⟩:=hh
 have o1:=s1.one
 have e1:=(f1 n (by omega)).trans l0
 simp -implicitDefEqProofs (disch:=omega)only[W2,dd,Nat.testBit,Nat.reduceAdd,Nat.reduceShiftRight,Nat.reduceAnd,Nat.reduceBNe,Nat.reduceMul,e1,o1,kI (x:=blk) (by omega)]
 refine dw (mP (n0:=n+1) a1 (a:=(blk:Int)) (k:=4) (by omega) (by omega) (by omega) s1) fun v2 m2 n2 r2 w2 hh=>?_
 obtain⟨a2,f2,k2,s2⟩:=hh
 have o2:=s2.one
 have e2:=(f2 n (by omega)).trans e1
 simp -implicitDefEqProofs (disch:=omega)only[W2,dd,Nat.testBit,Nat.reduceAdd,Nat.reduceShiftRight,Nat.reduceAnd,Nat.reduceBNe,Nat.reduceMul,e2,o2]
 refine dw (mP (n0:=n+1) a2 (a:=(ver:Int)) (k:=8) (by omega) (by omega) (by omega) s2) fun v3 m3 n3 r3 w3 hh=>?_
 obtain⟨a3,f3,k3,s3⟩:=hh
 have o3:=s3.one
 have e3:=(f3 n (by omega)).trans e2
 have ha8:C9 8 (.pointer (some ⟨n,3,none⟩))=some (.slice (some ⟨n,3,none⟩) 8 8):=by
  unfold C9
  rw[dC (show 8<UNK by decide)];rfl
 simp -implicitDefEqProofs (disch:=omega)only[W2,dd,Nat.testBit,Nat.reduceAdd,Nat.reduceShiftRight,Nat.reduceAnd,Nat.reduceBNe,Nat.reduceMul,e3,o3,ha8,show∀(x:Opd) (e:List Value) (m:FM) (n:Nat),dJ PG (df PG EL Y) e m n (.pur (.arrs 8) [x])=eG m n (C9 8 (ev e x))from fun _ _ _ _=>rfl]
 refine dw (I0 (k:=8) (sz:=1) s3 _ _ _ (by omega) (by omega) (by omega) rfl rfl (by omega) (by omega)) fun v4 m4 n4 r4 w4 hh=>?_
 obtain⟨z1,z2,s4,f4,k4⟩:=hh
 subst z2
 have o4:=s4.one
 have e4:=(f4 n (by omega)).trans e3
 simp -implicitDefEqProofs (disch:=omega)only[W2,dd,Nat.testBit,Nat.reduceAdd,Nat.reduceShiftRight,Nat.reduceAnd,Nat.reduceBNe,Nat.reduceMul,e4,o4]
 refine dw (mP (n0:=n+1) (by omega) (a:=(tm:Int)) (k:=8) (by omega) (by omega) (by omega) s4) fun v5 m5 n5 r5 w5 hh=>?_
 obtain⟨a5,f5,k5,s5⟩:=hh
 have o5:=s5.one
 have e5:[]++u8s (iG (kd:Int) 1)++u8s (iG (blk:Int) 4)++u8s (iG (ver:Int) 8)++[Value.int .u8 (d0:Int),.int .u8 (d1:Int),.int .u8 (d2:Int),.int .u8 (d3:Int),.int .u8 (d4:Int),.int .u8 (d5:Int),.int .u8 (d6:Int),.int .u8 (d7:Int)]++u8s (iG (tm:Int) 8)=n8s (Rec.plain ⟨kd,blk,ver,[d0,d1,d2,d3,d4,d5,d6,d7],tm⟩):=by
  simp only[we,Rec.plain,kF,List.nil_append]
  rfl
 rw[e5]at s5
 have h5:=Fw s5 (by omega)
 simp -implicitDefEqProofs (disch:=omega)only[W2,dd,Nat.testBit,Nat.reduceAdd,Nat.reduceShiftRight,Nat.reduceAnd,Nat.reduceBNe,Nat.reduceMul,o5]
 refine di (wj (ns:=Rec.plain ⟨kd,blk,ver,[d0,d1,d2,d3,d4,d5,d6,d7],tm⟩) (by rw[hpl];exact h5) (by rw[hpl];omega)) fun r6=>?_
 simp -implicitDefEqProofs (disch:=omega)only[W2,dd,Nat.testBit,Nat.reduceAdd,Nat.reduceShiftRight,Nat.reduceAnd,Nat.reduceBNe,Nat.reduceMul,o5]
 refine dw (mP (n0:=n+1) (by omega) (a:=(qk (Rec.plain ⟨kd,blk,ver,[d0,d1,d2,d3,d4,d5,d6,d7],tm⟩):Int)) (k:=8) (by omega) (by omega) (by omega) s5) fun v7 m7 n7 r7 w7 hh=>?_
 obtain⟨a7,f7,k7,s7⟩:=hh
 have o7:=s7.one
 simp -implicitDefEqProofs (disch:=omega)only[W2,dd,Nat.testBit,Nat.reduceAdd,Nat.reduceShiftRight,Nat.reduceAnd,Nat.reduceBNe,Nat.reduceMul,o7]
 rw[we,<-kF]at s7
 refine hQ _ _ _ _ _ (by omega) (fun b hb=>by rw[f7 b (by omega),f5 b (by omega),f4 b (by omega),f3 b (by omega),f2 b (by omega),f1 b (by omega),l1 b hb]) ?_ ?_ ⟨v7,rfl,s7.low (by omega)⟩
 ·simp only[eL]
  exact⟨⟨⟨⟨⟨⟨dE (Nat.le_refl _),k1 n (by omega)⟩,k2 n (by omega)⟩,k3 n (by omega)⟩,k4 n (by omega)⟩,k5 n (by omega)⟩,k7 n (by omega)⟩
 ·exact pH s7 (by omega)
theorem tK{len:Nat}(v:Option Value):kP M N sz v (Value.slice (some ⟨b,o,none⟩) len UNK)=cond (zE sz (fg M N b)) (lP M N b v) .no:=by
 have:Nat.beq UNK UNK=true:=Nat.beq_refl _
 simp only[kP,this,cond_true]
theorem nQ{l h len:Nat}{cs:List Value}{lo hi:Option Value}(hl:mW 0 lo=some l)(hh:mW len hi=some h)(h1:l<h)(h2:h<=len)(hb:b<N)(hm:M b=some (.cells cs 1 opn wr))(hk:k=h-l):
  kP M N 1 (jK 1 lo hi (.slice (some ⟨b,0,none⟩) len UNK)) (.slice (some ⟨b,0,none⟩) len UNK)=.ok (.slice (some ⟨b,l,none⟩) k UNK) M N (bit b) 0:=by
 subst hk
 have e1:jK 1 lo hi (.slice (some ⟨b,0,none⟩) len UNK)=some (.slice (some ⟨b,l,none⟩) (h-l) UNK):=by
  have hc:(Nat.ble l h&&Nat.ble h len)=true:=by rw[ep (by omega),ep h2];rfl
  simp only[jK,hl,hh,hc,cond_true]
  have k1:Nat.beq UNK UNK=true:=Nat.beq_refl _
  have k2:Nat.beq UNK VAG=false:=qY (by decide)
  have k3:(Nat.blt l len || Nat.beq l 0)=true:=by rw[dC (by omega)];rfl
  simp only[Fu,k1,k2,k3,cond_true,cond_false]
  rw[show Nat.add 0 (Nat.mul l 1)=l from by show 0+l*1=l;omega];rfl
 rw[e1,tK,eS hb,hm]
 show cond (Nat.beq 1 1) _ _=_
 rw[Nat.beq_refl];rfl
theorem xB{A:List Value}(ho:o=A.length)(hk:k=B.length):eO (A++(B++C)) o k=some B:=by
 subst ho;subst hk
 show oC (lE _ _) _=_
 rw[jd,List.drop_left,qi,if_pos (by rw[List.length_append];omega),List.take_left]
theorem tN{c:Nat}{A:List Value}(ho:o=A.length)(hk:k=B.length)(hb:b<N)(hm:M b=some (.cells (A++(B++C)) 1 opn wr))(h0:0<k):Sh 1 M N (.slice (some ⟨b,o,none⟩) k c) k B:=
 ⟨b,o,c,_,opn,wr,rfl,hb,hm,by rw[Nat.mul_one];exact xB ho hk,h0⟩
theorem sV{k:Nat}(h:A<2 ^ (8*k)):pD (dU A k) (dU A k).length=A:=by
 rw[eo,wi A k k (Nat.le_refl _),Nat.mod_eq_of_lt h]
theorem OG{x:Nat}(h:x<2 ^ 62):iO .i64 (.int .u64 (x:Int))=some (.int .i64 (x:Int)):=by
 show some (Value.int .i64 (gn .i64 (x:Int)))=_
 rw[eW,wrap_i64 (by omega) (by omega)]
theorem sr{bb:Nat}{r:Rec}(h:r.Ok)(hbb:bb<n)(hm:m bb=some (.cells (n8s r.enc) 1 opn wr)):
  Rt (df PG EL Y 78 [.slice (some ⟨bb,0,none⟩) 37 UNK] m n) fun v m' n' w=>n<=n'/\(∀b,b<n->m' b=m b)/\(∀j,j<=n->Nat.mod w (bit j)=0)/\v=.tuple #[r.val,.int .u64 (r.tm:Int),.int .i64 0]:=by
 refine ez (R:=fun v m' n'=>v=.tuple #[r.val,.int .u64 (r.tm:Int),.int .i64 0]) e78 rfl fun Q hQ=>?_
 have hval:=fun(m:FM) (n:Nat)=>sj (Y:=Y) m n h
 have hpl:=qS h
 obtain⟨kd,b,ver,ds,t⟩:=r
 obtain⟨hk,hb,hv,hv2,hdl,hds,ht⟩:=h
 simp only at hk hb hv hv2 hdl hds ht
 have hkd:kd<256:=by rcases hk with rfl|⟨rfl,_⟩<;>omega
 clear hk
 have hcl:=Lv (Rec.plain ⟨kd,b,ver,ds,t⟩)
 have c1:n8s (Rec.enc ⟨kd,b,ver,ds,t⟩)=[]++(n8s (Rec.plain ⟨kd,b,ver,ds,t⟩)++n8s (dU (qk (Rec.plain ⟨kd,b,ver,ds,t⟩)) 8)):=by rw[Rec.enc,kF];rfl
 have c2:n8s (Rec.enc ⟨kd,b,ver,ds,t⟩)=n8s (Rec.plain ⟨kd,b,ver,ds,t⟩)++(n8s (dU (qk (Rec.plain ⟨kd,b,ver,ds,t⟩)) 8)++[]):=by rw[Rec.enc,kF,List.append_nil]
 have c3:n8s (Rec.enc ⟨kd,b,ver,ds,t⟩)=n8s (dU kd 1)++(n8s (dU b 4)++(n8s (dU ver 8)++(n8s ds++(n8s (dU t 8)++n8s (dU (qk (Rec.plain ⟨kd,b,ver,ds,t⟩)) 8))))):=by
  rw[Rec.enc,Rec.plain];simp only[kF,List.append_assoc]
 have c4:n8s (Rec.enc ⟨kd,b,ver,ds,t⟩)=n8s (dU kd 1++dU b 4)++(n8s (dU ver 8)++(n8s ds++(n8s (dU t 8)++n8s (dU (qk (Rec.plain ⟨kd,b,ver,ds,t⟩)) 8)))):=by
  rw[c3];simp only[kF,List.append_assoc]
 have c5:n8s (Rec.enc ⟨kd,b,ver,ds,t⟩)=n8s (dU kd 1++dU b 4++dU ver 8)++(n8s ds++(n8s (dU t 8)++n8s (dU (qk (Rec.plain ⟨kd,b,ver,ds,t⟩)) 8))):=by
  rw[c3];simp only[kF,List.append_assoc]
 have c6:n8s (Rec.enc ⟨kd,b,ver,ds,t⟩)=n8s (dU kd 1++dU b 4++dU ver 8++ds)++(n8s (dU t 8)++n8s (dU (qk (Rec.plain ⟨kd,b,ver,ds,t⟩)) 8)):=by
  rw[c3];simp only[kF,List.append_assoc]
 have g0:fh (n8s (Rec.enc ⟨kd,b,ver,ds,t⟩)) 0=some (.int .u8 (kd:Int)):=by
  rw[c3,show dU kd 1=[kd] by simp[dU,Nat.mod_eq_of_lt hkd]];rfl
 have g13:eO (n8s (Rec.enc ⟨kd,b,ver,ds,t⟩)) 13 8=some (n8s ds):=by
  rw[c5];exact xB (by simp only[iZ,List.length_append,eo]) (by rw[iZ,hdl])
 generalize n8s (Rec.enc ⟨kd,b,ver,ds,t⟩)=cs at *
 have h29:Sh 1 m n (.slice (some ⟨bb,29,none⟩) 8 UNK) (dU (qk (Rec.plain ⟨kd,b,ver,ds,t⟩)) 8).length (n8s (dU (qk (Rec.plain ⟨kd,b,ver,ds,t⟩)) 8)):=by
  rw[eo];rw[c2]at hm
  exact tN (by rw[iZ,hpl]) (by rw[iZ,eo]) hbb hm (by omega)
 have h0:Sh 1 m n (.slice (some ⟨bb,0,none⟩) 29 UNK) (Rec.plain ⟨kd,b,ver,ds,t⟩).length (n8s (Rec.plain ⟨kd,b,ver,ds,t⟩)):=by
  rw[hpl];rw[c1]at hm
  exact tN rfl (by rw[iZ,hpl]) hbb hm (by omega)
 have h1:Sh 1 m n (.slice (some ⟨bb,1,none⟩) 4 UNK) (dU b 4).length (n8s (dU b 4)):=by
  rw[eo];rw[c3]at hm
  exact tN rfl (by rw[iZ,eo]) hbb hm (by omega)
 have h5:Sh 1 m n (.slice (some ⟨bb,5,none⟩) 8 UNK) (dU ver 8).length (n8s (dU ver 8)):=by
  rw[eo];rw[c4]at hm
  exact tN (by simp only[iZ,List.length_append,eo]) (by rw[iZ,eo]) hbb hm (by omega)
 have h25:∀M N,N=n+1->(∀b,b<n->M b=m b)->Sh 1 M N (.slice (some ⟨bb,21,none⟩) 8 UNK) (dU t 8).length (n8s (dU t 8)):=fun M N hN hf=>by
  rw[eo];rw[c6]at hm
  exact tN (by simp only[iZ,List.length_append,eo,hdl]) (by rw[iZ,eo]) (by omega) ((hf bb hbb).trans hm) (by omega)
 have SL:∀(M:FM) (N:Nat),bb<N->(∀b,b<n->M b=m b)->
   kP M N 1 (jK 1 (some (.int .i64 29)) none (.slice (some ⟨bb,0,none⟩) 37 UNK)) (.slice (some ⟨bb,0,none⟩) 37 UNK)=.ok (.slice (some ⟨bb,29,none⟩) 8 UNK) M N (bit bb) 0/\
   kP M N 1 (jK 1 none (some (.int .i64 29)) (.slice (some ⟨bb,0,none⟩) 37 UNK)) (.slice (some ⟨bb,0,none⟩) 37 UNK)=.ok (.slice (some ⟨bb,0,none⟩) 29 UNK) M N (bit bb) 0/\
   kP M N 1 (jK 1 (some (.int .i64 1)) (some (.int .i64 5)) (.slice (some ⟨bb,0,none⟩) 37 UNK)) (.slice (some ⟨bb,0,none⟩) 37 UNK)=.ok (.slice (some ⟨bb,1,none⟩) 4 UNK) M N (bit bb) 0/\
   kP M N 1 (jK 1 (some (.int .i64 5)) (some (.int .i64 13)) (.slice (some ⟨bb,0,none⟩) 37 UNK)) (.slice (some ⟨bb,0,none⟩) 37 UNK)=.ok (.slice (some ⟨bb,5,none⟩) 8 UNK) M N (bit bb) 0/\
   kP M N 1 (jK 1 (some (.int .i64 13)) (some (.int .i64 21)) (.slice (some ⟨bb,0,none⟩) 37 UNK)) (.slice (some ⟨bb,0,none⟩) 37 UNK)=.ok (.slice (some ⟨bb,13,none⟩) 8 UNK) M N (bit bb) 0/\
   kP M N 1 (jK 1 (some (.int .i64 21)) (some (.int .i64 29)) (.slice (some ⟨bb,0,none⟩) 37 UNK)) (.slice (some ⟨bb,0,none⟩) 37 UNK)=.ok (.slice (some ⟨bb,21,none⟩) 8 UNK) M N (bit bb) 0:=fun M N hN hf=>by
  have hM:=(hf bb hbb).trans hm
  exact⟨nQ (l:=29) (h:=37) rfl rfl (by omega) (by omega) hN hM rfl,nQ (l:=0) (h:=29) rfl rfl (by omega) (by omega) hN hM rfl,nQ (l:=1) (h:=5) rfl rfl (by omega) (by omega) hN hM rfl,nQ (l:=5) (h:=13) rfl rfl (by omega) (by omega) hN hM rfl,nQ (l:=13) (h:=21) rfl rfl (by omega) (by omega) hN hM rfl,nQ (l:=21) (h:=29) rfl rfl (by omega) (by omega) hN hM rfl⟩
 obtain⟨d0,d1,d2,d3,d4,d5,d6,d7,hds'⟩:=eight hdl
 rw[hds']at hval
 simp only[Rec.val,Rec.cs,n8s,List.map_cons,List.map_nil]at hval
 simp only[OV]
 simp -implicitDefEqProofs (disch:=omega)only[W2,dd,Nat.testBit,Nat.reduceAdd,Nat.reduceShiftRight,Nat.reduceAnd,Nat.reduceBNe,Nat.reduceMul]
 generalize hM1:(AMem.put m n _:FM)=M1
 have l1:∀b,b<n->M1 b=m b:=fun b hb=>by rw[<-hM1,dc _ _ _ _ (by omega)]
 have l0:M1 n=some (.cells [.int .i64 0,.int .i64 0,.int .u64 0,.int .u8 0,.int .u8 0,.int .u8 0,.int .u8 0,.int .u8 0,.int .u8 0,.int .u8 0,.int .u8 0] 0 false true):=by rw[<-hM1];exact de _ _ _
 obtain⟨q1,q2,q3,q4,q5,q6⟩:=SL M1 (n+1) (by omega) l1
 have hm1:=(l1 bb hbb).trans hm
 simp -implicitDefEqProofs (disch:=omega)only[W2,dd,Nat.testBit,Nat.reduceAdd,Nat.reduceShiftRight,Nat.reduceAnd,Nat.reduceBNe,Nat.reduceMul,ol,iA,iC,Option.toList_some,Option.toList_none,q1]
 refine dV (qd (h29.frame (by omega) l1) (oe _ _) (by rw[eo];omega)) fun r1=>?_
 rw[sV (k:=8) (by omega)]
 simp -implicitDefEqProofs (disch:=omega)only[W2,dd,Nat.testBit,Nat.reduceAdd,Nat.reduceShiftRight,Nat.reduceAnd,Nat.reduceBNe,Nat.reduceMul,ol,iA,iC,Option.toList_some,Option.toList_none,q2]
 refine dV (wj (h0.frame (by omega) l1) (by omega)) fun r2=>?_
 simp -implicitDefEqProofs (disch:=omega)only[W2,dd,Nat.testBit,Nat.reduceAdd,Nat.reduceShiftRight,Nat.reduceAnd,Nat.reduceBNe,Nat.reduceMul,ol,iA,iC,Option.toList_some,Option.toList_none,hm1,g0,show iO .i64 (.int .u8 (kd:Int))=some (.int .i64 (kd:Int)) by show some (Value.int .i64 (gn .i64 (kd:Int)))=_;rw[eW,wrap_i64 (by omega) (by omega)],q3]
 refine dV (qd (h1.frame (by omega) l1) (oe _ _) (by rw[eo];omega)) fun r3=>?_
 rw[sV (k:=4) (by omega)]
 simp -implicitDefEqProofs (disch:=omega)only[W2,dd,Nat.testBit,Nat.reduceAdd,Nat.reduceShiftRight,Nat.reduceAnd,Nat.reduceBNe,Nat.reduceMul,ol,iA,iC,Option.toList_some,Option.toList_none,OG (x:=b) (by omega),q4]
 refine dV (qd (h5.frame (by omega) l1) (oe _ _) (by rw[eo];omega)) fun r4=>?_
 rw[sV (k:=8) (by omega)]
 have hs2:FE 8 (.slice (some ⟨bb,13,none⟩) 8 UNK)=some (.pointer (some ⟨bb,13,none⟩)):=rfl
 have g13':n8s ds=[.int .u8 (d0:Int),.int .u8 (d1:Int),.int .u8 (d2:Int),.int .u8 (d3:Int),.int .u8 (d4:Int),.int .u8 (d5:Int),.int .u8 (d6:Int),.int .u8 (d7:Int)]:=by rw[hds'];rfl
 rw[g13',eU]at g13
 simp -implicitDefEqProofs (disch:=omega)only[W2,dd,Nat.testBit,Nat.reduceAdd,Nat.reduceShiftRight,Nat.reduceAnd,Nat.reduceBNe,Nat.reduceMul,ol,iA,iC,Option.toList_some,Option.toList_none,q5,show∀(x:Opd) (e:List Value) (m:FM) (n:Nat),dJ PG (df PG EL Y) e m n (.pur (.s2a 8) [x])=eG m n (FE 8 (ev e x))from fun _ _ _ _=>rfl,hs2,hm1,g13,l0]
 refine di (hval _ _) fun r5=>?_
 generalize hM2:(AMem.put M1 n _:FM)=M2
 have l2:∀b,b<n->M2 b=m b:=fun b hb=>by rw[<-hM2,dc _ _ _ _ (by omega),l1 b hb]
 have l3:M2 n=some (.cells [.int .i64 (kd:Int),.int .i64 (b:Int),.int .u64 (ver:Int),.int .u8 (d0:Int),.int .u8 (d1:Int),.int .u8 (d2:Int),.int .u8 (d3:Int),.int .u8 (d4:Int),.int .u8 (d5:Int),.int .u8 (d6:Int),.int .u8 (d7:Int)] 0 false true):=by rw[<-hM2];exact de _ _ _
 obtain⟨q1,q2,q3,q4,q5,q6⟩:=SL M2 (n+1) (by omega) l2
 simp -implicitDefEqProofs (disch:=omega)only[W2,dd,Nat.testBit,Nat.reduceAdd,Nat.reduceShiftRight,Nat.reduceAnd,Nat.reduceBNe,Nat.reduceMul,ol,iA,iC,Option.toList_some,Option.toList_none,q6,l3]
 refine dV (qd (h25 M2 (n+1) rfl l2) (oe _ _) (by rw[eo];omega)) fun r6=>?_
 rw[sV (k:=8) (by omega)]
 simp -implicitDefEqProofs (disch:=omega)only[W2,dd,Nat.testBit,Nat.reduceAdd,Nat.reduceShiftRight,Nat.reduceAnd,Nat.reduceBNe,Nat.reduceMul,l3]
 refine hQ _ _ _ _ _ (by omega) (fun b hb=>by rw[dc _ _ _ _ (by omega),l2 b hb]) ?_ rfl (by rw[hds'];rfl)
 simp only[eL]
 simp[dE]
inductive Sec where
 |blank
 |dead
 |ent (r:Rec)
def mF(i:Ids)(pb:Nat)(M:FM)(N:Nat)(x:Int×Value):Sec->Prop
 | .blank=>x.1=0
 | .dead=>x.1=2
 | .ent r=>x.1=1/\r.Ok/\By i pb M N x.2 37 (n8s r.enc)
def ke{α β:Type}(R:α->β->Prop)(l:List α)(k:List β):Prop:=l.length=k.length/\∀(a:Nat) x s,l[a]?=some x->k[a]?=some s->R x s
theorem ke.set{α β:Type}{R:α->β->Prop}{l:List α}{k:List β}(h:ke R l k)(a:Nat){x:α}{s:β}(hx:R x s):ke R (l.set a x) (k.set a s):=by
 refine⟨by rw[List.length_set,List.length_set];exact h.1,fun b y t hy ht=>?_⟩
 by_cases hab:a=b
 ·subst hab
  rw[List.getElem?_set]at hy ht
  simp only[if_true]at hy ht
  split at hy
  ·split at ht
   ·injection hy with hy;injection ht with ht;subst hy;subst ht;exact hx
   ·cases ht
  ·cases hy
 ·rw[List.getElem?_set_ne hab]at hy ht
  exact h.2 b y t hy ht
theorem ke.mono{α β:Type}{R R':α->β->Prop}{l:List α}{k:List β}(h:ke R l k)(hr:∀x s,R x s->R' x s):ke R' l k:=⟨h.1,fun a x s h1 h2=>hr _ _ (h.2 a x s h1 h2)⟩
theorem ke.at{α β:Type}{R:α->β->Prop}{l:List α}{k:List β}(h:ke R l k){a:Nat}(ha:a<k.length):∃h':a<l.length,R l[a] k[a]:=
 ⟨by rw[h.1];exact ha,h.2 a _ _ (List.getElem?_eq_getElem _) (List.getElem?_eq_getElem ha)⟩
theorem ke.app{α β:Type}{R:α->β->Prop}{l:List α}{k:List β}(h:ke R l k){x:α}{s:β}(hx:R x s):ke R (l++[x]) (k++[s]):=by
 refine⟨by simp[h.1],fun a y t hy ht=>?_⟩
 have hl:=h.1
 by_cases ha:a<l.length
 ·rw[List.getElem?_append_left ha]at hy
  rw[List.getElem?_append_left (by omega)]at ht
  exact h.2 a y t hy ht
 ·rw[List.getElem?_append_right (by omega)]at hy ht
  rw[<-hl]at ht
  obtain hz|hz:a-l.length=0\/0<a-l.length:=by omega
  ·rw[hz]at hy ht
   simp only[List.getElem?_cons_zero,Option.some.injEq]at hy ht
   subst hy;subst ht;exact hx
  ·rw[List.getElem?_eq_none (by simp;omega)]at hy;cases hy
def kO(a:Nat)(r:Rec)(xs:List Sec):List Sec:=(gp a).foldl (fun xs s=>xs.set s .dead) (xs.set a (.ent r))
def iI(xs:List Sec)(a:Nat):Nat->List Sec
 |0=>xs
 |i+1=>(iI xs a i).set (a+i) .blank
inductive Op where
 |wr (a:Nat) (r:Rec)
 |er (b:Nat)
def Op.on(xs:List Sec):Op->List Sec
 | .wr a r=>kO a r xs
 | .er b=>iI xs (60+b*6) 6
def dR(xs:List Sec)(ps:List Op):List Sec:=ps.foldl Op.on xs
theorem ve(xs:List Sec)(a:Nat):∀i,(iI xs a i).length=xs.length
 |0=>rfl
 |i+1=>by rw[iI,List.length_set,ve xs a i]
theorem iS(xs:List Sec)(ps:List Op)(p:Op):dR xs (ps++[p])=Op.on (dR xs ps) p:=by rw[dR,List.foldl_append];rfl
theorem FG{R:Int×Value->Sec->Prop}{xs:List Sec}(h:ke R raw xs){a:Nat}{r:Rec}(hd:R (2,.slice none 0 0) .dead)(hr:R (1,v) (.ent r)):ke R (oE a v raw) (kO a r xs):=by
 have:∀(l:List Nat) (raw:List (Int×Value)) (xs:List Sec),ke R raw xs->ke R (nk raw l) (l.foldl (fun xs s=>xs.set s .dead) xs):=fun l=>by
  induction l with
  |nil=>intro raw xs h;exact h
  |cons s l ih=>intro raw xs h;exact ih _ _ (h.set s hd)
 exact this _ _ _ (h.set a hr)
theorem wF{R:Int×Value->Sec->Prop}{xs:List Sec}(h:ke R raw xs)(a:Nat)(hb:R (0,.slice none 0 0) .blank):∀i,ke R (iH raw a i) (iI xs a i)
 |0=>h
 |i+1=>(wF h a hb i).set _ hb
def jB(i:Ids)(pb:Nat)(M:FM)(N mb cb:Nat)(xs:List Sec):Prop:=∃raw,Med M N mb cb raw/\ke (mF i pb M N) raw xs
theorem mF.fr{P lo hi:Nat}{w:Nat}(hf:Fr P lo hi pb N M M' w)(hP:P<i.K)(hh:hi<i.K)(hN:N<=N')(hp:pb'=pb\/N<=pb'):∀x s,mF i pb M N x s->mF i pb' M' N' x s
 |x,.blank,h=>h
 |x,.dead,h=>h
 |x,.ent r,⟨h1,h2,h3⟩=>⟨h1,h2,h3.fr hf hP hh hN hp⟩
theorem jB.fr{P lo hi:Nat}{w:Nat}{xs:List Sec}(h:jB i pb M N mb cb xs)(hf:Fr P lo hi pb N M M' w)(hP:P<i.K)(hh:hi<i.K)(hN:N<=N')(hp:pb'=pb\/N<=pb')(h1:M' mb=M mb)(h2:M' cb=M cb):jB i pb' M' N' mb cb xs:=by
 obtain⟨raw,hm,hr⟩:=h
 exact⟨raw,hm.frame hN h1 h2,hr.mono (mF.fr hf hP hh hN hp)⟩
theorem jB.len{xs:List Sec}(h:jB i pb M N mb cb xs):xs.length=90:=by
 obtain⟨raw,hm,hr⟩:=h
 rw[<-hr.1];exact hm.len
theorem jB.ids{xs:List Sec}(h:jB i pb M N mb cb xs):mb<N/\cb<N/\mb≠cb:=by
 obtain⟨raw,hm,hr⟩:=h
 exact⟨hm.mbN,hm.cbN,hm.ne⟩
def Frz(i:Ids)(pb:Nat)(M:FM)(N b:Nat)(cs:List Value):Prop:=(i.K<=b/\b≠i.Q)/\b≠pb/\b<N/\M b=some (.cells cs 0 false true)
theorem Frz.fr{P lo hi:Nat}{w:Nat}{cs:List Value}(h:Frz i pb M N b cs)(hf:Fr P lo hi pb N M M' w)(hP:P<i.K)(hh:hi<i.K)(hN:N<=N')(hp:pb'=pb\/N<=pb'):Frz i pb' M' N' b cs:=by
 obtain⟨h1,h2,h3,h4⟩:=h
 exact⟨h1,by omega,by omega,(hf b h3 (by omega) (by omega) h2).1.trans h4⟩
def Pop(i:Ids)(pb:Nat)(M:FM)(N:Nat)(o:Value):Op->Prop
 | .wr a r=>∃ba bb v,o=.func (.func 201) #[] #[.pointer (some ⟨ba,0,none⟩),.pointer (some ⟨bb,0,none⟩)]/\Frz i pb M N ba [.int .i64 (a:Int)]/\Frz i pb M N bb [v]/\a<90/\r.Ok/\By i pb M N v 37 (n8s r.enc)
 | .er b=>∃ba,o=.func (.func 108) #[] #[.pointer (some ⟨ba,0,none⟩)]/\Frz i pb M N ba [.int .i64 (b:Int)]/\b<5
theorem Pop.fr{P lo hi:Nat}{w:Nat}(hf:Fr P lo hi pb N M M' w)(hP:P<i.K)(hh:hi<i.K)(hN:N<=N')(hp:pb'=pb\/N<=pb'):∀o p,Pop i pb M N o p->Pop i pb' M' N' o p
 |o,.wr a r,⟨ba,bb,v,h1,h2,h3,h4,h5,h6⟩=>⟨ba,bb,v,h1,h2.fr hf hP hh hN hp,h3.fr hf hP hh hN hp,h4,h5,h6.fr hf hP hh hN hp⟩
 |o,.er b,⟨ba,h1,h2,h3⟩=>⟨ba,h1,h2.fr hf hP hh hN hp,h3⟩
theorem Pop.func:∀{o:Value} {p:Op},Pop i pb M N o p->∃(f:Nat) (cs:List Value),o=.func (.func f) #[] cs.toArray
 |o,.wr a r,⟨ba,bb,v,h1,_⟩=>⟨_,[_,_],h1⟩
 |o,.er b,⟨ba,h1,_⟩=>⟨_,[_],h1⟩
theorem Pop.one{o:Value}{p:Op}(h:Pop i pb M N o p):Am.one o=true:=by
 obtain⟨f,cs,rfl⟩:=h.func;rfl
def sT(i:Ids)(pb:Nat)(M:FM)(N:Nat)(pv:Value)(ps:List Op):Prop:=
 ∃pcs:List Value,ke (Pop i pb M N) pcs ps/\((pcs=[]/\pv=.slice none 0 0)\/(0<pcs.length/\i.K<=pb/\pb<N/\pv=.slice (some ⟨pb,0,none⟩) pcs.length UNK/\M pb=some (.cells pcs 1 true true)))
theorem sT.fr{P lo hi:Nat}{w:Nat}{ps:List Op}(h:sT i pb M N pv ps)(hf:Fr P lo hi pb N M M' w)(hP:P<i.K)(hh:hi<i.K)(hb:i.K<=pb->M' pb=M pb)(hN:N<=N'):sT i pb M' N' pv ps:=by
 obtain⟨pcs,h2,h3⟩:=h
 refine⟨pcs,h2.mono (Pop.fr hf hP hh hN (.inl rfl)),?_⟩
 rcases h3 with h3|⟨h3,h4,h5,h6,h7⟩
 ·exact .inl h3
 ·exact .inr ⟨h3,h4,by omega,h6,(hb h4).trans h7⟩
theorem sT.one{ps:List Op}(h:sT i pb M N pv ps):Am.one pv=true/\et N pv=true/\gQ N pv=true:=by
 obtain⟨pcs,h2,⟨_,rfl⟩|⟨h3,h4,h5,rfl,h7⟩⟩:=h
 ·exact⟨rfl,rfl,rfl⟩
 ·exact⟨rfl,dC h5,dC h5⟩
theorem sT.len{ps:List Op}(h:sT i pb M N pv ps):jS false pv=some (.int .i64 (ps.length:Int)):=by
 obtain⟨pcs,h2,⟨rfl,rfl⟩|⟨h3,h4,h5,rfl,h7⟩⟩:=h
 ·rw[<-h2.1];rfl
 ·rw[<-h2.1];rfl
theorem Hn{ps:List Op}(h:sT i pb M N pv ps)(hc:ps.length<=100000)(h0:0<i.K)(hK:i.K<=N){z:Value}{p:Op}(hp:Pop i pb M N z p)(ya:Option Addr)(yc ry:Nat):
  Rt (jq 1 8 M N pv (.slice ya 1 yc) (shown M N 1 pv) (some ([z],ry))) fun v' M' N' w=>N'=N+1/\sT i N M' N' v' (ps++[p])/\(∀b,b<N->b≠pb->M' b=M b/\Nat.testBit w b=false)/\(pb<i.K->M' pb=M pb/\Nat.testBit w pb=false):=by
 have hz:=hp.one
 obtain⟨pcs,h2,⟨rfl,rfl⟩|⟨h3,h4,h5,rfl,h7⟩⟩:=h
 ·have hps:ps=[]:=List.length_eq_zero_iff.1 (by rw[<-h2.1];rfl)
  subst hps
  rw[gJ,fF,fy]
  rw[show([z],ry).1.all Am.one=true by simp[hz],dC (show 0<1 by omega),dC (show 0<8 by omega),ep (show(0+1)*8<=140737488355328 by omega),iK (by omega)]
  have hf:Fr 0 0 0 pb N M (AMem.put M N (some (.cells ([]++[z]) 1 true true))) 0:=fun b hb _ _ _=>⟨dc _ _ _ _ (by omega),Nat.zero_testBit _⟩
  refine⟨rfl,⟨[z],(h2.mono (Pop.fr hf h0 h0 (by omega) (.inr (Nat.le_refl _)))).app (Pop.fr hf h0 h0 (by omega) (.inr (Nat.le_refl _)) _ _ hp),.inr ⟨by simp,hK,by omega,rfl,de _ _ _⟩⟩,fun b hb _=>⟨dc _ _ _ _ (by omega),dh (by omega)⟩,fun hb=>⟨dc _ _ _ _ (by omega),dh (by omega)⟩⟩
 ·have hl:=h2.1
  rw[fZ h3,eS h5,h7,gd,Nat.beq_refl,eU,gr,fw (show pcs.length*1=pcs.length by omega)]
  show Rt (jq 1 8 M N _ _ (some (pcs,bit pb)) _) _
  rw[fF,fy]
  rw[show([z],ry).1.all Am.one=true by simp[hz],dC (show 0<1 by omega),dC (show 0<8 by omega),ep (show(pcs.length+1)*8<=140737488355328 by omega),iJ,eS h5,h7,jz]
  have k1:∀b,b<N->b≠pb->(AMem.put (AMem.put M pb none) N (some (.cells (pcs++[z]) 1 true true)):FM) b=M b:=fun b hb hb'=>by rw[dc _ _ _ _ (by omega),dc _ _ _ _ hb']
  have hf:Fr 0 0 0 pb N M (AMem.put (AMem.put M pb none) N (some (.cells (pcs++[z]) 1 true true))) (Nat.lor (bit pb) (bit N)):=fun b hb _ _ hb'=>⟨k1 b hb hb',by rw[c9,dh hb',dh (by omega)];rfl⟩
  exact⟨rfl,⟨pcs++[z],(h2.mono (Pop.fr hf h0 h0 (by omega) (.inr (Nat.le_refl _)))).app (Pop.fr hf h0 h0 (by omega) (.inr (Nat.le_refl _)) _ _ hp),.inr ⟨by rw[List.length_append,List.length_singleton];omega,hK,by omega,by rw[List.length_append,List.length_singleton],de _ _ _⟩⟩,fun b hb hb'=>⟨k1 b hb hb',by rw[c9,dh hb',dh (by omega)];rfl⟩,fun hb=>by omega⟩
end Go.Am.CD
