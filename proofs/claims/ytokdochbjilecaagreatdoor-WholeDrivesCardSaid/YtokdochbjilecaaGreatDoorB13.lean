/- The machine and its runs, part 13: AyNi AyNj AyNk AyNl AyNm AyNn AyNo. -/
import Derived.Test.YtokdochbjilecaaGreatDoorB12
set_option linter.unusedVariables false
set_option linter.unusedSimpArgs false
set_option linter.unusedSectionVars false
namespace Go.Am.CD
set_option maxRecDepth 100000
open Go Go.Am
variable{bs bs0:List Bnd}{es es0:List Ent}{fl fl':Nat->Nat}{Fa Fa':Rec->Prop}{X dur:List Sec}{ps:List Op}{i:Ids}{n k pb a t q j S bd N e bk cf N' pb0 b n0 pb' t0 c0 N1 tb:Nat}{m M M' M1:FM}{r s rc:Rec}{p p0:Pw}{x:Ent}{Q:AX->List Value->FM->Nat->Nat->Prop}{ccs:List Value}{ev bv tv v fv:Value}{l vs:List Nat}
theorem wq{s:Nat}(h:s∈gp a):60<=a/\(a-60) / 3 % 2=0/\s=a+3:=by
 unfold gp at h
 split at h
 ·rw[List.mem_singleton]at h;omega
 ·cases h
theorem Dx{α:Type}(l:List α)(a j:Nat)(x:α):(l.set a x)[j]?=if j=a/\j<l.length then some x else l[j]?:=by
 rw[List.getElem?_set]
 by_cases h:a=j
 ·subst h
  rw[if_pos rfl]
  by_cases h2:a<l.length
  ·rw[if_pos h2,if_pos ⟨rfl,h2⟩]
  ·rw[if_neg h2,if_neg (fun h=>h2 h.2),List.getElem?_eq_none (by omega)]
 ·rw[if_neg h,if_neg (fun h'=>h h'.1.symm)]
theorem oF(j:Nat):(kO a r X)[j]?=if j∈gp a/\j<X.length then some .dead else if j=a/\j<X.length then some (.ent r)else X[j]?:=by
 unfold kO gp
 split
 ·simp only[List.foldl_cons,List.foldl_nil,List.mem_singleton,Dx,List.length_set]
 ·simp only[List.foldl_nil,List.not_mem_nil,false_and,if_false,Dx]
theorem oZ(X:List Sec)(a:Nat)(j:Nat):∀i,(iI X a i)[j]?=if a<=j/\j<a+i/\j<X.length then some .blank else X[j]?
 |0=>by rw[iI,if_neg (by omega)]
 |i+1=>by
  rw[iI,List.getElem?_set,oZ X a j i,ve]
  by_cases h1:a+i=j
  ·rw[if_pos h1]
   by_cases h2:j<X.length
   ·rw[if_pos (by omega),if_pos (by omega)]
   ·rw[if_neg (by omega),if_neg (by omega),List.getElem?_eq_none (by omega)]
  ·rw[if_neg h1]
   by_cases h2:a<=j/\j<a+i/\j<X.length
   ·rw[if_pos h2,if_pos (by omega)]
   ·rw[if_neg h2,if_neg (by omega)]
def zl(a:Nat)(X:List Sec):Prop:=∀j r,(j=a\/j∈gp a)->X[j]?≠some (.ent r)
theorem vW(hf:zl a X)(h:X[j]?=some (.ent s)):(kO a r X)[j]?=some (.ent s):=by
 rw[oF,if_neg (fun k=>hf j s (.inr k.1) h),if_neg (fun k=>hf j s (.inl k.1) h),h]
theorem Fh(ha:a<X.length):(kO a r X)[a]?=some (.ent r):=by
 rw[oF,if_neg (fun k=>by have:=wq k.1;omega),if_pos ⟨rfl,ha⟩]
theorem vX(h:(kO a r X)[j]?=some (.ent s)):(j=a/\s=r)\/X[j]?=some (.ent s):=by
 rw[oF]at h
 split at h
 ·cases h
 ·split at h
  ·rename_i k
   injection h with h;injection h with h
   exact .inl ⟨k.1,h.symm⟩
  ·exact .inr h
theorem rl(h:(iI X (60+b*6) 6)[j]?=some (.ent s)):X[j]?=some (.ent s)/\¬(60+b*6<=j/\j<60+b*6+6):=by
 rw[oZ]at h
 split at h
 ·cases h
 ·rename_i k
  refine⟨h,fun hb=>k ⟨hb.1,hb.2,?_⟩⟩
  exact(List.getElem?_eq_some_iff.1 h).1
theorem F3(h:X[j]?=some (.ent s))(hb:¬(60+b*6<=j/\j<60+b*6+6)):(iI X (60+b*6) 6)[j]?=some (.ent s):=by
 rw[oZ,if_neg (fun k=>hb ⟨k.1,k.2.1⟩),h]
def Con(es:List Ent)(X:List Sec):Prop:=∀k,(h:k<es.length)->¬es[k].ver=0->∃r,X[es[k].adr]?=some (.ent r)/\r.blk=k/\r.ver=es[k].ver/\r.kd=es[k].kd
def Emp(bs:List Bnd)(X:List Sec):Prop:=∀q,(h:q<bs.length)->∀u,bs[q].used<=u->u<6->∀r,X[60+(q*6+u)]?≠some (Sec.ent r)
def Good(Fa:Rec->Prop)(fl:Nat->Nat)(X:List Sec):Prop:=(∀(a:Nat) r,X[a]?=some (Sec.ent r)->Fa r)/\∀b,b<6->fl b=0\/∃(a:Nat) (r:Rec),60<=a/\X[a]?=some (Sec.ent r)/\r.blk=b/\fl b<=r.ver
def CI(Fa:Rec->Prop)(fl:Nat->Nat)(dur:List Sec)(ps:List Op):Prop:=∀k,Good Fa fl (dR dur (ps.take k))
theorem CI.last(h:CI Fa fl dur ps):Good Fa fl (dR dur ps):=by
 have:=h ps.length
 rwa [List.take_length]at this
theorem CI.snoc{p:Op}(h:CI Fa fl dur ps)(hg:Good Fa fl (Op.on (dR dur ps) p)):CI Fa fl dur (ps++[p]):=fun k=>by
 by_cases hk:k<=ps.length
 ·rw[List.take_append_of_le_length hk];exact h k
 ·rw[List.take_of_length_le (by rw[List.length_append,List.length_singleton];omega),iS];exact hg
theorem CI.flush(h:CI Fa fl dur ps):CI Fa fl (dR dur ps) []:=fun k=>by
 rw[List.take_nil];exact h.last
theorem Good.write(h:Good Fa fl X)(hr:Fa r)(hf:zl a X):Good Fa fl (kO a r X):=by
 refine⟨fun j s hj=>?_,fun b hb=>?_⟩
 ·rcases vX hj with⟨_,rfl⟩|hj
  ·exact hr
  ·exact h.1 _ _ hj
 ·rcases h.2 b hb with h|⟨j,s,h1,h2,h3⟩
  ·exact .inl h
  ·exact .inr ⟨j,s,h1,vW hf h2,h3⟩
theorem Good.mono(h:Good Fa fl X)(hF:∀r,Fa r->Fa' r)(hf:∀b,b<6->fl' b<=fl b):Good Fa' fl' X:=by
 refine⟨fun j s hj=>hF _ (h.1 _ _ hj),fun b hb=>?_⟩
 have:=hf b hb
 rcases h.2 b hb with h|⟨j,s,h1,h2,h3,h4⟩
 ·exact .inl (by omega)
 ·exact .inr ⟨j,s,h1,h2,h3,by omega⟩
theorem CI.mono(h:CI Fa fl dur ps)(hF:∀r,Fa r->Fa' r)(hf:∀b,b<6->fl' b<=fl b):CI Fa' fl' dur ps:=fun k=>(h k).mono hF hf
theorem Emp.free(h:Emp bs X)(hq:q<bs.length)(hu:bs[q].used<6):zl (60+(q*6+bs[q].used)) X:=fun j r hj=>by
 rcases hj with rfl|hj
 ·exact h q hq _ (Nat.le_refl _) hu r
 ·obtain⟨h1,h2,rfl⟩:=wq hj
  have:=h q hq (bs[q].used+3) (by omega) (by omega) r
  rwa [show 60+(q*6+(bs[q].used+3))=60+(q*6+bs[q].used)+3 by omega]at this
theorem Con.app(h:Con es X){r:Rec}(hf:zl a X)(ha:a<X.length)(hk:k<es.length)(hr:r.blk=k):Con (es.set k ⟨r.kd,r.ver,a⟩) (kO a r X):=fun j hj=>by
 rw[List.length_set]at hj
 rw[List.getElem_set]
 by_cases hjk:k=j
 ·subst hjk
  rw[if_pos rfl]
  intro _
  exact⟨r,Fh ha,hr,rfl,rfl⟩
 ·rw[if_neg hjk]
  intro hv
  obtain⟨s,h1,h2⟩:=h j hj hv
  exact⟨s,vW hf h1,h2⟩
theorem Emp.app(h:Emp bs X){r:Rec}(hq:q<bs.length)(hu:bs[q].used<6):Emp (jA t q (fp S x bs)) (kO (60+(q*6+bs[q].used)) r X):=fun p hp u h1 h2 s hs=>by
 have hl:(jA t q (fp S x bs)).length=bs.length:=by rw[lL,gT]
 have hp':p<bs.length:=by omega
 rw[(vq hq p hp' hp).1]at h1
 rcases vX hs with⟨e,_⟩|hs
 ·by_cases hpq:p=q
  ·subst hpq
   rw[if_pos rfl]at h1
   omega
  ·omega
 ·exact h p hp' u (by omega) h2 s hs
theorem Con.erase(h:Con es X)(hp:Pl es bs)(hl:iN 6 e es=0):Con es (iI X (60+e*6) 6):=fun j hj hv=>by
 obtain⟨s,h1,h2⟩:=h j hj hv
 obtain⟨g1,g2,g3⟩:=hp.ent j hj hv
 refine⟨s,F3 h1 ?_,h2⟩
 have hbe:¬(es[j].adr-60) / 6=e:=fun hbe=>absurd (List.countP_eq_zero.1 hl es[j] (List.getElem_mem hj)) (by rw[eR,decide_eq_true_eq];exact fun k=>k ⟨hv,hbe⟩)
 omega
theorem Emp.erase(h:Emp bs X)(wr:Int):Emp (bs.set e ⟨0,0,0,wr⟩) (iI X (60+e*6) 6):=fun p hp u h1 h2 s hs=>by
 rw[List.length_set]at hp
 obtain⟨k1,k2⟩:=rl hs
 by_cases hpe:e=p
 ·subst hpe;omega
 ·rw[List.getElem_set,if_neg hpe]at h1
  exact h p hp u h1 h2 s k1
theorem Good.erase(h:Good Fa fl X)(hc:Con es X)(hp:Pl es bs)(hel:es.length=6)(hfl:∀k,(hk:k<es.length)->fl k<=es[k].ver)(hl:iN 6 e es=0):Good Fa fl (iI X (60+e*6) 6):=by
 refine⟨fun j s hj=>h.1 _ _ (rl hj).1,fun b hb=>?_⟩
 by_cases h0:fl b=0
 ·exact .inl h0
 ·have hv:¬es[b].ver=0:=fun hv=>by have:=hfl b (by omega);omega
  obtain⟨s,h1,h2,h3,h4⟩:=hc.erase hp hl b (by omega) hv
  exact .inr ⟨_,s,(hp.ent b (by omega) hv).1,h1,h2,by rw[h3];exact hfl b (by omega)⟩
variable{E:Nat->Option AFn}{Y:Nat->List Value->FM->Nat->OR FM}
def ij(S k:Nat)(es:List Ent)(b:Nat):Bool:=match es[b]? with|some x=>eR S k x|none=>false
def eC(S k:Nat)(es:List Ent)(j:Nat):List Nat:=(List.range j).filter (ij S k es)
theorem oD(S k:Nat)(es:List Ent)(j:Nat)(h:j<es.length):eC S k es (j+1)=bif eR S k es[j]then eC S k es j++[j]else eC S k es j:=by
 rw[eC,List.range_succ,List.filter_append,eC]
 have e:ij S k es j=eR S k es[j]:=by rw[ij,List.getElem?_eq_getElem h]
 cases hl:eR S k es[j]
 ·rw[cond_false,List.filter_cons_of_neg (by rw[e,hl];simp),List.filter_nil,List.append_nil]
 ·rw[cond_true,List.filter_cons_of_pos (by rw[e,hl]),List.filter_nil]
theorem FR(l:List Nat):(ef l).length=l.length:=List.length_map _
theorem Gi(h:Drv i pb m n dur ps es bs t)(hp:Pl es bs){k bd bk:Nat}(kd:bd<n/\m bd=some (.cells [.pointer (some ⟨i.R,0,none⟩)] 0 false true))(kk:bk<n/\m bk=some (.cells [.int .i64 (k:Int)] 0 false true))(x5 x6 x7 x9 x10:Value)
  (hQ:∀v x2 M N w,n<=N->(∀b,b<n->M b=m b)->(∀j,j<=n->Nat.mod w (bit j)=0)->SlZ 1 M n N v (eC 6 k es es.length).length (ef (eC 6 k es es.length))->Q (.exit 0) [v,x2,.int .i64 (es.length:Int),.slice (some ⟨i.EN,0,none⟩) es.length UNK,x5,x6,x7,.pointer (some ⟨bk,0,none⟩),.pointer (some ⟨bd,0,none⟩),x9,x10] M N w):
  ∀(d j:Nat),j+d=es.length->∀(v x2:Value) (M:FM) (N w0:Nat),n<=N->(∀b,b<n->M b=m b)->(∀j,j<=n->Nat.mod w0 (bit j)=0)->SlZ 1 M n N v (eC 6 k es j).length (ef (eC 6 k es j))->
  Gv (dt PG EL Y vF [v,.int .i64 (j:Int),x2,.int .i64 (es.length:Int),.slice (some ⟨i.EN,0,none⟩) es.length UNK,x5,x6,x7,.pointer (some ⟨bk,0,none⟩),.pointer (some ⟨bd,0,none⟩),x9,x10] M N) fun X e m n w=>Q X e m n (Nat.lor w0 w):=by
 obtain⟨h1,h2,h3,h4,h5,h6,h7,h8,h9⟩:=h.dsk.cc.ok
 have hKN:=h.dsk.cc.KN
 obtain⟨bv,hd,hbv⟩:=h.r
 have hel:=hd.el
 have hen:=hd.en
 obtain⟨kd1,kd2⟩:=kd
 obtain⟨kk1,kk2⟩:=kk
 intro d
 induction d with
 |zero=>
  intro j hj v x2 M N w0 hN hf hw hS
  refine dm (L:=vF) (b:=qD) rfl ?_
  simp only[qD]
  obtain rfl:j=es.length:=by omega
  simp -implicitDefEqProofs (disch:=omega)only[W2,dd,Nat.testBit,Nat.reduceAdd,Nat.reduceShiftRight,Nat.reduceAnd,Nat.reduceBNe,Nat.reduceMul]
  exact hQ _ _ _ _ _ hN hf hw hS
 |succ d ih=>
  intro j hj v x2 M N w0 hN hf hw hS
  have hj1:j<es.length:=by omega
  have henM:=(hf i.EN (by omega)).trans hen
  have hix:=jy (b:=i.EN) (c:=UNK) hj1
  obtain⟨a1,a2,a3,a4⟩:=iY hj1
  have hvo:=hS.one
  have kdM:=(hf bd kd1).trans kd2
  have kkM:=(hf bk kk1).trans kk2
  have hbs:=oD 6 k es j hj1
  refine dm (L:=vF) (b:=qD) rfl ?_
  simp only[qD]
  generalize hM1:(AMem.put M N (some (Blk.cells [.int .i64 es[j].k,.int .u64 (es[j].ver:Int),.int .i64 es[j].a] 0 false true)):FM)=M1
  have l1:∀b,b<N->M1 b=M b:=fun b hb=>by rw[<-hM1,dc _ _ _ _ (by omega)]
  have l0:M1 N=some (.cells [.int .i64 es[j].k,.int .u64 (es[j].ver:Int),.int .i64 es[j].a] 0 false true):=by rw[<-hM1];exact de _ _ _
  have hD1:=h.dF (M':=M1) (show n<=N+1 by omega) fun b hb=>by rw[l1 b (by omega),hf b hb]
  obtain⟨bv1,hd1,_⟩:=hD1.r
  have kdM1:=(l1 bd (by omega)).trans kdM
  have kkM1:=(l1 bk (by omega)).trans kkM
  have fin:eR 6 k es[j]=false->Wr PG EL Y [] (Nat.lor (bit N) (bit N)) (dt PG EL Y vF [v,.int .i64 ((j+1:Nat):Int),x2,.int .i64 (es.length:Int),.slice (some ⟨i.EN,0,none⟩) es.length UNK,x5,x6,x7,.pointer (some ⟨bk,0,none⟩),.pointer (some ⟨bd,0,none⟩),x9,x10] M1 (N+1)) fun X e m n w=>Q X e m n (Nat.lor w0 w):=fun hl=>by
   rw[hl,cond_false]at hbs
   refine dM (ih (j+1) (by omega) _ _ _ _ (Nat.lor w0 (Nat.lor (bit N) (bit N))) (by omega) (fun b hb=>by rw[l1 b (by omega),hf b hb]) (fun b hb=>by simp only[eL];exact⟨hw b hb,dE (by omega),dE (by omega)⟩) (by rw[hbs];exact hS.frame (by omega) fun b _ hb=>l1 b hb)) fun X e m n w hq=>?_
   rw[show Nat.lor w0 (Nat.lor (Nat.lor (bit N) (bit N)) w)=Nat.lor (Nat.lor w0 (Nat.lor (bit N) (bit N))) w from(dy _ _ _).symm]
   exact hq
  by_cases hv:es[j].ver=0
  ·have ea:es[j].a=-1:=if_pos hv
   have hl:eR 6 k es[j]=false:=by rw[eR,decide_eq_false_iff_not];exact fun h=>h.1 hv
   rw[ea]at l0 hM1 a1
   simp -implicitDefEqProofs (disch:=omega)only[W2,dd,Nat.testBit,Nat.reduceAdd,Nat.reduceShiftRight,Nat.reduceAnd,Nat.reduceBNe,Nat.reduceMul,hix,henM,a1,hM1,l0]
   exact fin hl
  ·have ea:es[j].a=(es[j].adr:Int):=if_neg hv
   rw[ea]at l0 hM1 a1
   obtain⟨g1,g2,g3⟩:=hp.ent j hj1 hv
   simp -implicitDefEqProofs (disch:=omega)only[W2,dd,Nat.testBit,Nat.reduceAdd,Nat.reduceShiftRight,Nat.reduceAnd,Nat.reduceBNe,Nat.reduceMul,hix,henM,a1,hM1,l0,kdM1]
   refine dV (uQ (by omega) (by omega) hD1.dsk.dk hd1 _ g1 g2) fun r1=>?_
   by_cases hbk:(es[j].adr-60) / 6=k
   ·simp -implicitDefEqProofs (disch:=omega)only[W2,dd,Nat.testBit,Nat.reduceAdd,Nat.reduceShiftRight,Nat.reduceAnd,Nat.reduceBNe,Nat.reduceMul,kkM1]
    have hl:eR 6 k es[j]=true:=by rw[eR,decide_eq_true_eq];exact⟨hv,hbk⟩
    rw[hl,cond_true]at hbs
    generalize hM2:(AMem.put M1 (N+1) _:FM)=M2
    have l2:∀b,b<N+1->M2 b=M1 b:=fun b hb=>by rw[<-hM2,dc _ _ _ _ (by omega)]
    have hS2:SlZ 1 M2 n (N+2) v (eC 6 k es j).length (ef (eC 6 k es j)):=hS.frame (by omega) fun b _ hb=>by rw[l2 b (by omega),l1 b hb]
    have hbl:(eC 6 k es j).length<=j:=by
     have:=List.length_filter_le (ij 6 k es) (List.range j)
     rw[List.length_range]at this;exact this
    refine dw (I3 hS2 _ rfl _ _ _ (by omega) (by omega)) fun v1 M3 N3 r1 w1 hh=>?_
    obtain⟨hv1,hn1,hs1,hl1,hw1⟩:=hh
    subst hn1
    have e1:ef (eC 6 k es j)++[Value.int .i64 ((j:Nat):Int)]=ef (eC 6 k es (j+1)):=by
     rw[hbs];unfold ef;rw[List.map_append];rfl
    have e2:(eC 6 k es j).length+1=(eC 6 k es (j+1)).length:=by rw[hbs,List.length_append];rfl
    rw[e1,e2]at hs1
    simp -implicitDefEqProofs (disch:=omega)only[W2,dd,Nat.testBit,Nat.reduceAdd,Nat.reduceShiftRight,Nat.reduceAnd,Nat.reduceBNe,Nat.reduceMul]
    refine dM (ih (j+1) (by omega) v1 _ M3 (N+3) (Nat.lor w0 (Nat.lor (Nat.lor (bit N) (bit N)) (Nat.lor (bit (N+1)) w1))) (by omega) (fun b hb=>by rw[hl1 b (by omega),l2 b (by omega),l1 b (by omega),hf b hb]) (fun b hb=>by simp only[eL];exact⟨hw b hb,⟨dE (by omega),dE (by omega)⟩,dE (by omega),hw1 b hb⟩) hs1) fun X e m n w hq=>?_
    rw[show Nat.lor w0 (Nat.lor (Nat.lor (Nat.lor (bit N) (bit N)) (Nat.lor (bit (N+1)) w1)) w)=Nat.lor (Nat.lor w0 (Nat.lor (Nat.lor (bit N) (bit N)) (Nat.lor (bit (N+1)) w1))) w from(dy _ _ _).symm]
    exact hq
   ·simp -implicitDefEqProofs (disch:=omega)only[W2,dd,Nat.testBit,Nat.reduceAdd,Nat.reduceShiftRight,Nat.reduceAnd,Nat.reduceBNe,Nat.reduceMul,kkM1]
    exact fin (by rw[eR,decide_eq_false_iff_not];exact fun h=>hbk h.2)
def Same(m:FM)(n:Nat)(m':FM)(n' w:Nat):Prop:=n'=n/\∀b,m' b=m b/\Nat.testBit w b=false
theorem Same.KJ(m:FM)(n:Nat):Same m n m n 0:=⟨rfl,fun b=>⟨rfl,Nat.zero_testBit _⟩⟩
theorem Oe:Rt (df PG EL Y 161 [.slice none 0 0,.int .i64 0,.int .i64 0,.func (.func cf) #[] ccs.toArray] m n) fun r m' n' w=>Same m n m' n' w:=by
 refine jD (args:=[.slice none 0 0,.int .i64 0,.int .i64 0,.func (.func cf) #[] ccs.toArray]) (R:=fun m' n' w=>Same m n m' n' w) e161 rfl rfl (Same.KJ m n) fun Q hQ=>?_
 simp only[E6]
 simp -implicitDefEqProofs (disch:=omega)only[W2,dd,Nat.testBit,Nat.reduceAdd,Nat.reduceShiftRight,Nat.reduceAnd,Nat.reduceBNe,Nat.reduceMul]
 refine dS (dm (L:=qI) (b:=kc) rfl ?_)
 simp only[kc]
 simp -implicitDefEqProofs (disch:=omega)only[W2,dd,Nat.testBit,Nat.reduceAdd,Nat.reduceShiftRight,Nat.reduceAnd,Nat.reduceBNe,Nat.reduceMul]
 intro rr
 simp -implicitDefEqProofs (disch:=omega)only[W2,dd,Nat.testBit,Nat.reduceAdd,Nat.reduceShiftRight,Nat.reduceAnd,Nat.reduceBNe,Nat.reduceMul]
 exact hQ _ _ _ _ _ (.inl rfl) (Same.KJ m n)
theorem pdq0(z:Int):Rt (df PG EL Y 118 [.slice none 0 0,.int .i64 0,.int .i64 0,.int .i64 z,.func (.func cf) #[] ccs.toArray] m n) fun r m' n' w=>Same m n m' n' w:=by
 refine jD (args:=[.slice none 0 0,.int .i64 0,.int .i64 0,.int .i64 z,.func (.func cf) #[] ccs.toArray]) (R:=fun m' n' w=>Same m n m' n' w) e118 rfl rfl (Same.KJ m n) fun Q hQ=>?_
 simp only[E8]
 simp -implicitDefEqProofs (disch:=omega)only[W2,dd,Nat.testBit,Nat.reduceAdd,Nat.reduceShiftRight,Nat.reduceAnd,Nat.reduceBNe,Nat.reduceMul]
 refine dS (dm (L:=zi) (b:=nL) rfl ?_)
 simp only[nL]
 simp -implicitDefEqProofs (disch:=omega)only[W2,dd,Nat.testBit,Nat.reduceAdd,Nat.reduceShiftRight,Nat.reduceAnd,Nat.reduceBNe,Nat.reduceMul,Int.sub_self]
 refine dw (Oe) fun r1 m1 n1 r2 w1 hh=>?_
 simp -implicitDefEqProofs (disch:=omega)only[W2,dd,Nat.testBit,Nat.reduceAdd,Nat.reduceShiftRight,Nat.reduceAnd,Nat.reduceBNe,Nat.reduceMul]
 intro rr
 simp -implicitDefEqProofs (disch:=omega)only[W2,dd,Nat.testBit,Nat.reduceAdd,Nat.reduceShiftRight,Nat.reduceAnd,Nat.reduceBNe,Nat.reduceMul]
 exact hQ _ _ _ _ _ (.inr rfl) hh
theorem sort0{ccs:List Value}:Rt (df PG EL Y 70 [.slice none 0 0,.func (.func cf) #[] ccs.toArray] m n) fun r m' n' w=>Same m n m' n' w:=by
 refine jD (args:=[.slice none 0 0,.func (.func cf) #[] ccs.toArray]) (R:=fun m' n' w=>Same m n m' n' w) e70 rfl rfl (Same.KJ m n) fun Q hQ=>?_
 obtain⟨z,hz⟩:=p8 (Y:=Y) m n 0 (by omega)
 simp only[LS]
 simp -implicitDefEqProofs (disch:=omega)only[W2,dd,Nat.testBit,Nat.reduceAdd,Nat.reduceShiftRight,Nat.reduceAnd,Nat.reduceBNe,Nat.reduceMul,show jS false (.slice none 0 0)=some (.int .i64 ((0:Nat):Int))from rfl,kI (x:=0) (by omega)]
 refine di hz fun r1=>?_
 simp -implicitDefEqProofs (disch:=omega)only[W2,dd,Nat.testBit,Nat.reduceAdd,Nat.reduceShiftRight,Nat.reduceAnd,Nat.reduceBNe,Nat.reduceMul]
 refine dw (pdq0 _) fun r1 m1 n1 r2 w1 hh=>?_
 simp -implicitDefEqProofs (disch:=omega)only[W2,dd,Nat.testBit,Nat.reduceAdd,Nat.reduceShiftRight,Nat.reduceAnd,Nat.reduceBNe,Nat.reduceMul]
 exact hQ _ _ _ _ _ (.inl rfl) hh
theorem dsort(h:Drv i pb m n dur ps es bs t)(hp:Pl es bs){n0 bd:Nat}(hn0:i.K<=n0)(hpn:pb<n0)(kd:bd<n0/\m bd=some (.cells [.pointer (some ⟨i.R,0,none⟩)] 0 false true)){l0:List Nat}(hlen:l0.length<=12)(hl:∀x∈l0,∃hx:x<es.length,¬es[x].ver=0)(hS:SlZ 1 m n0 n v l0.length (ef l0))(h0n:∀m',(∀b,b<n0->m' b=m b)->Drv i pb m' n dur ps es bs t):
  Rt (df PG EL Y 70 [v,.func (.func 71) #[] #[.pointer (some ⟨bd,0,none⟩)]] m n) fun r m' n' w=>n'=n/\(∀b,b<n0->m' b=m b/\Nat.testBit w b=false)/\∃l,l.Perm l0/\SlZ 1 m' n0 n v l0.length (ef l):=by
 obtain⟨kd1,kd2⟩:=kd
 have hn0n:=h.dsk.cc.KN
 obtain⟨h1',h2',h3',h4',h5',h6',h7',h8',h9'⟩:=h.dsk.cc.ok
 rcases hS with⟨h1,h2,rfl⟩|⟨h1,h2,vb,rfl,h3,h4,h5⟩
 ·have e:l0=[]:=List.length_eq_zero_iff.1 h1
  subst e
  exact(sort0 (ccs:=[.pointer (some ⟨bd,0,none⟩)])).mono fun r m' n' w hh=>⟨hh.1,fun b _=>hh.2 b,[],List.Perm.refl _,.inl ⟨rfl,rfl,rfl⟩⟩
 ·have h5:m vb=some (.cells (ef l0) 1 true true):=h5
  refine(Ft (cf:=71) (ccs:=[.pointer (some ⟨bd,0,none⟩)]) (vb:=vb) (fun M hM a b ha hb=>?_) ?_ h4 hlen h5).mono fun r m' n' w hh=>?_
  ·obtain⟨ha1,ha2⟩:=hl a ha
   obtain⟨hb1,hb2⟩:=hl b hb
   have gb:=(hp.ent b hb1 hb2).2.1
   have ga:=(hp.ent a ha1 ha2).2.1
   have ra:=Ent.Fc es[a] (by omega)
   have rb:=Ent.Fc es[b] (by omega)
   obtain⟨bv,hd,_⟩:=(h0n M fun b hb=>hM b (by omega)).r
   exact⟨es[a].a-es[b].a,by omega,by omega,IP (by omega) (by omega) hd ⟨by omega,by rw[hM _ (by omega)];exact kd2⟩ ha1 hb1 (by omega) (by omega)⟩
  ·simp[pc,dC (show bd<n by omega)]
  ·obtain⟨q1,q2,l,q3,q4⟩:=hh
   refine⟨q1,fun b hb=>q2 b (by omega),l,q3,.inr ⟨h1,by rw[FR,q3.length_eq];omega,vb,rfl,h3,h4,q4⟩⟩
def gS(l:List Bnd):Nat:=(l.map Bnd.used).sum
theorem xY:∀(l:List Nat) (k x:Nat) (h:k<l.length),(l.set k x).sum+l[k]=l.sum+x
 |[],k,x,h=>absurd h (Nat.not_lt_zero _)
 |y::l,0,x,h=>by simp only[List.set_cons_zero,List.sum_cons,List.getElem_cons_zero];omega
 |y::l,k+1,x,h=>by
  have:=xY l k x (by rw[List.length_cons]at h;omega)
  simp only[List.set_cons_succ,List.sum_cons,List.getElem_cons_succ];omega
theorem Fi(hq:q<bs.length):gS (jA t q (fp S x bs))=gS bs+1:=by
 have hlen:(jA t q (fp S x bs)).length=bs.length:=by rw[lL,gT]
 have e:(jA t q (fp S x bs)).map Bnd.used=(bs.map Bnd.used).set q (bs[q].used+1):=by
  apply List.ext_getElem
  ·simp[hlen]
  ·intro j h1 h2
   rw[List.length_map]at h1
   rw[List.getElem_map,List.getElem_set,(vq hq j (by omega) h1).1]
   by_cases hj:q=j
   ·subst hj;rw[if_pos rfl,if_pos rfl]
   ·rw[if_neg hj,if_neg (fun h=>hj h.symm),List.getElem_map];rfl
 have:=xY (bs.map Bnd.used) q (bs[q].used+1) (by rw[List.length_map];exact hq)
 rw[List.getElem_map]at this
 unfold gS
 rw[e];omega
theorem zt(hk:k<bs.length)(wr:Int):gS (bs.set k ⟨0,0,0,wr⟩)+bs[k].used=gS bs:=by
 have:=xY (bs.map Bnd.used) k 0 (by rw[List.length_map];exact hk)
 rw[List.getElem_map]at this
 unfold gS
 rw[List.map_set];exact this
theorem zF:∀(l:List Nat) (S:Nat),(∀x∈l,S<=x)->l.length*S<=l.sum
 |[],S,_=>by simp
 |y::l,S,h=>by
  have:=zF l S fun x hx=>h x (List.mem_cons_of_mem _ hx)
  have:=h y (List.mem_cons_self ..)
  rw[List.length_cons,List.sum_cons,Nat.add_mul];omega
theorem DF(h:Pl es bs)(hu:gS bs<30):∃(q:Nat) (hq:q<bs.length),bs[q].used<6:=by
 apply Classical.byContradiction
 intro hn
 have:=zF (bs.map Bnd.used) 6 fun x hx=>by
  obtain⟨b,hb,rfl⟩:=List.mem_map.1 hx
  obtain⟨q,hq,rfl⟩:=List.getElem_of_mem hb
  apply Classical.byContradiction
  intro hlt
  exact hn ⟨q,hq,by omega⟩
 rw[List.length_map,h.bl]at this
 unfold gS at hu
 omega
theorem Rd.rok{seen:Nat}{xs:List Sec}(h:Rd i pb M N seen xs)(hx:xs[a]?=some (.ent r)):r.Ok:=by
 obtain⟨md,mc,sc,pv,_,⟨raw,_,hr⟩,_⟩:=h.st
 obtain⟨ha,hxa⟩:=List.getElem?_eq_some_iff.1 hx
 obtain⟨ha',hs⟩:=hr.at ha
 rw[hxa]at hs
 exact hs.2.1
def PwE(p0 p:Pw):Prop:=PwI p/\p.off=p0.off/\p.armed=p0.armed
structure Use(i:Ids)(Fa:Rec->Prop)(fl:Nat->Nat)(pb:Nat)(M:FM)(N:Nat)(dur:List Sec)(ps:List Op)(es:List Ent)(bs:List Bnd)(t:Nat):Prop where
 d:Drv i pb M N dur ps es bs t
 pl:Pl es bs
 con:Con es (dR dur ps)
 emp:Emp bs (dR dur ps)
 ci:CI Fa fl dur ps
 el:es.length=6
theorem Use.dF{M':FM}{N':Nat}(h:Use i Fa fl pb M N dur ps es bs t)(hN:N<=N')(hf:∀b,b<N->M' b=M b):Use i Fa fl pb M' N' dur ps es bs t:=⟨h.d.dF hN hf,h.pl,h.con,h.emp,h.ci,h.el⟩
theorem Use.app{r:Rec}(h:Use i Fa fl pb M N dur ps es bs t)(hq:vI 6 bs q)(hq1:q<bs.length)(hk:k<es.length)(hrk:r.blk=k)(hv:1<=r.ver)(hFa:Fa r)(hD:Drv i pb' M' N' dur (ps++[Op.wr (60+(q*6+bs[q].used)) r]) (es.set k ⟨r.kd,r.ver,60+(q*6+bs[q].used)⟩) (jA (t+1) q (fp 6 es[k] bs)) (t+1)):Use i Fa fl pb' M' N' dur (ps++[Op.wr (60+(q*6+bs[q].used)) r]) (es.set k ⟨r.kd,r.ver,60+(q*6+bs[q].used)⟩) (jA (t+1) q (fp 6 es[k] bs)) (t+1):=by
 have hfr:=h.emp.free hq1 hq.2.1
 have hu:=hq.2.1
 have hxl:=h.d.dsk.rd.len
 have hbl:=h.pl.bl
 refine⟨hD,h.pl.app hq hk hv hq1,?_,?_,h.ci.snoc (h.ci.last.write hFa hfr),by rw[List.length_set];exact h.el⟩
 ·rw[iS]
  exact h.con.app hfr (by omega) hk hrk
 ·rw[iS]
  exact h.emp.app hq1 hu
def MvI(i:Ids)(Fa:Rec->Prop)(fl:Nat->Nat)(p0:Pw)(k:Nat)(es0:List Ent)(bs0:List Bnd)(t0 c0:Nat)(l:List Nat)(j pb:Nat)(M:FM)(N:Nat):Prop:=
 ∃dur ps es bs p,Use i Fa fl pb M N dur ps es bs (t0+j)/\PwR i.P M p/\PwE p0 p/\ps.length=c0+j/\gS bs=gS bs0+j/\es.map Ent.ver=es0.map Ent.ver/\(∃hk:k<bs.length,bs[k].used=6)/\(∀b∈l.drop j,∃hb:b<es.length,¬es[b].ver=0/\(es[b].adr-60) / 6=k)/\(∀b,ij 6 k es b=true->b∈l.drop j)
theorem K0{p0:Pw}{p':Pw}{rc:Rec}(hj:j<l.length)(hnd:l.Nodup)(h:Use i Fa fl pb M N dur ps es bs (t0+j))(hpl:ps.length=c0+j)(hu:gS bs=gS bs0+j)(hver:es.map Ent.ver=es0.map Ent.ver)(hk:k<bs.length)(hku:bs[k].used=6)(hrem:∀b∈l.drop j,∃hb:b<es.length,¬es[b].ver=0/\(es[b].adr-60) / 6=k)(hall:∀b,ij 6 k es b=true->b∈l.drop j)(hlj:l[j]<es.length)(hq:q<bs.length)(hqt:vI 6 bs q)(hrb:rc.blk=l[j])(hrv:rc.ver=es[l[j]].ver)(hFa:Fa rc)(hv1:1<=rc.ver)(hp':PwR i.P M' p')(hE:PwE p0 p')
  (hD:Drv i pb' M' N' dur (ps++[Op.wr (60+(q*6+bs[q].used)) rc]) (es.set l[j] ⟨rc.kd,rc.ver,60+(q*6+bs[q].used)⟩) (jA (t0+j+1) q (fp 6 es[l[j]] bs)) (t0+j+1)):MvI i Fa fl p0 k es0 bs0 t0 c0 l (j+1) pb' M' N':=by
 have hdrop:l.drop j=l[j]::l.drop (j+1):=List.drop_eq_getElem_cons hj
 have hnd':l[j]∉l.drop (j+1):=by
  have:(l.drop j).Nodup:=hnd.sublist (List.drop_sublist _ _)
  rw[hdrop]at this
  exact(List.nodup_cons.1 this).1
 have hqk:¬q=k:=fun h=>by subst h;have:=hqt.2.1;omega
 obtain⟨e1,e2⟩:=EQ (q:=q) hqt.2.1
 refine⟨_,_,_,_,p',h.app hqt hq hlj hrb hv1 hFa hD,hp',hE,by rw[List.length_append,List.length_singleton,hpl];omega,by rw[Fi hq,hu];omega,?_,⟨by rw[lL,gT];exact hk,?_⟩,fun b hb=>?_,fun b hb=>?_⟩
 ·rw[<-hver]
  apply List.ext_getElem
  ·simp
  ·intro a h1 h2
   rw[List.getElem_map,List.getElem_map,List.getElem_set]
   by_cases ha:l[j]=a
   ·subst ha;rw[if_pos rfl];exact hrv
   ·rw[if_neg ha]
 ·rw[(vq hq k hk _).1,if_neg (fun h=>hqk h.symm),hku]
 ·obtain⟨g1,g2,g3⟩:=hrem b (by rw[hdrop];exact List.mem_cons_of_mem _ hb)
  refine⟨by rw[List.length_set];exact g1,?_⟩
  have hne:l[j]≠b:=fun h=>hnd' (by rw[h];exact hb)
  rw[List.getElem_set_ne hne]
  exact⟨g2,g3⟩
 ·by_cases hbl:b=l[j]
  ·subst hbl
   rw[ij,List.getElem?_set_self hlj]at hb
   simp only[eR,decide_eq_true_eq,e1]at hb
   exact absurd hb.2 hqk
  ·have:ij 6 k es b=true:=by
    rw[ij,List.getElem?_set_ne (fun h=>hbl h.symm)]at hb
    exact hb
   have:=hall b this
   rw[hdrop]at this
   rcases List.mem_cons.1 this with h|h
   ·exact absurd h hbl
   ·exact h
def zn(i:Ids)(Fa:Rec->Prop)(fl:Nat->Nat)(pb0 n:Nat)(M:FM)(N:Nat):Prop:=∃p,PwR i.P M p/\(p.off=true/\p.fl<=1/\p.armed=false)/\∃pb,(pb=pb0\/n<=pb)/\∃dur ps,DrvF i pb M N dur ps/\CI Fa fl dur ps/\ps.length<=100000
theorem nl{pb0 n0:Nat}(h:Dsk i pb m n dur ps)(hci:CI Fa fl dur ps)(hp:PwR i.P m p)(ho:p.off=true/\p.fl<=1/\p.armed=false)(hpb:pb=pb0\/n0<=pb){fe:Int}(hr:m i.R=some (.cells [.pointer (some ⟨i.D,0,none⟩),.int .u64 0,ev,bv,tv,.int .i64 fe] 0 false true))(hcl:ps.length<=100000):Rt (df PG EL Y 32 [.pointer (some ⟨i.R,0,none⟩),.int .i64 13] m n) fun r m' n' w=>Nat.testBit w i.R=true/\r=.int .i64 13/\n'=n/\(∀b,b≠i.R->m' b=m b/\Nat.testBit w b=false)/\zn i Fa fl pb0 n0 m' n':=by
 obtain⟨h1,h2,h3,h4,h5,h6,h7,h8,h9⟩:=h.cc.ok
 have hK:=h.cc.KN
 refine(xk (show i.R<n by omega) hr).mono fun r m' n' w hh=>?_
 obtain⟨x0,rfl,rfl,x1,x2⟩:=hh
 exact⟨x0,rfl,rfl,x1,p,by rw[PwR,(x1 _ (by omega)).1];exact hp,ho,pb,hpb,dur,ps,⟨h.qa (Nat.le_refl _) fun b _ _ e1 _=>(x1 b e1).1,_,_,_,x2⟩,hci,hcl⟩
theorem K1(hU:YUp Y)(hFt:∀r t,Fa r->Fa {r with tm:=t}){n N1 bd bk pb0:Nat}{l:List Nat}(hn:i.K<=n)(hpn:pb0<n)(hbd:n<=bd/\bd<N1/\M1 bd=some (.cells [.pointer (some ⟨i.R,0,none⟩)] 0 false true))(hbk:n<=bk/\bk<N1/\M1 bk=some (.cells [.int .i64 (k:Int)] 0 false true))(hS:SlZ 1 M1 n N1 v l.length (ef l))(hl:l.length<=12)(hnd:l.Nodup)(hu:gS bs0+l.length<=30)(ht:t0+12<2 ^ 62)(hc0:c0<=90000)(x8 x9 x10 x11 x12 x13 x16 x17:Value)
  (hQ:∀y0 y1 y4 pb M N w,N1<=N->MvI i Fa fl p0 k es0 bs0 t0 c0 l l.length pb M N->(pb=pb0\/N1<=pb)->(∀b,b<N1->b≠i.P->¬(i.sd<=b/\b<=i.EN)->b≠pb0->M b=M1 b/\Nat.testBit w b=false)->Q (.exit 2) [y0,y1,.int .i64 (l.length:Int),y4,.int .i64 (l.length:Int),x8,v,x9,x10,x11,x12,x13,.int .i64 0,.pointer (some ⟨bk,0,none⟩),.pointer (some ⟨bd,0,none⟩),x16,x17] M N w)
  (hQf:∀e M N w,N1<=N->Nat.testBit w i.R=true->zn i Fa fl pb0 N1 M N->(∀b,b<N1->b≠i.P->¬(i.sd<=b/\b<=i.EN)->b≠pb0->M b=M1 b/\Nat.testBit w b=false)->Q (.ret (.tuple #[.int .i64 0,.int .i64 13])) e M N w):
  ∀(d j:Nat),j+d=l.length->∀(y0 y1 y4:Value) (pb:Nat) (M:FM) (N w0:Nat),N1<=N->MvI i Fa fl p0 k es0 bs0 t0 c0 l j pb M N->(pb=pb0\/N1<=pb)->(∀b,b<N1->b≠i.P->¬(i.sd<=b/\b<=i.EN)->b≠pb0->M b=M1 b/\Nat.testBit w0 b=false)->
  Gv (dt PG EL Y y8 [y0,y1,.int .i64 (j:Int),.int .i64 (j:Int),y4,.int .i64 (l.length:Int),x8,v,x9,x10,x11,x12,x13,.int .i64 0,.pointer (some ⟨bk,0,none⟩),.pointer (some ⟨bd,0,none⟩),x16,x17] M N) fun X e m n w=>Q X e m n (Nat.lor w0 w):=by
 obtain⟨bd1,bd2,bd3⟩:=hbd
 obtain⟨bk1,bk2,bk3⟩:=hbk
 have hvo:=hS.one
 intro d
 induction d with
 |zero=>
  intro j hj y0 y1 y4 pb M N w0 hN hI hpb hf
  refine dm (L:=y8) (b:=qC) rfl ?_
  simp only[qC]
  obtain rfl:j=l.length:=by omega
  simp -implicitDefEqProofs (disch:=omega)only[W2,dd,Nat.testBit,Nat.reduceAdd,Nat.reduceShiftRight,Nat.reduceAnd,Nat.reduceBNe,Nat.reduceMul]
  exact hQ _ _ _ _ _ _ _ hN hI hpb hf
 |succ d ih=>
  intro j hj y0 y1 y4 pb M N w0 hN hI hpb hf
  have hI0:=hI
  obtain⟨dur,ps,es,bs,p,hUs,hp,hE,hpl,hun,hver,⟨hk,hku⟩,hrem,hall⟩:=hI
  have hD:=hUs.d
  obtain⟨h1,h2,h3,h4,h5,h6,h7,h8,h9⟩:=hD.dsk.cc.ok
  have hjl:j<l.length:=by omega
  rcases hS with⟨q,_⟩|⟨_,hcl,vb,rfl,vb1,vb2,vb3⟩
  ·omega
  have hix:fU 1 j (.slice (some ⟨vb,0,none⟩) l.length UNK)=some (.pointer (some ⟨vb,j,none⟩)):=by rw[eY hjl,Nat.zero_add,Nat.mul_one]
  have hat:=rm (l:=l) (j:=j) hjl
  have m1:=(hf vb vb2 (by omega) (by omega) (by omega)).1.trans vb3
  have m2:=(hf bd bd2 (by omega) (by omega) (by omega)).1.trans bd3
  have m3:=(hf bk bk2 (by omega) (by omega) (by omega)).1.trans bk3
  obtain⟨hlj,hv0,hb0⟩:=hrem l[j] (by rw[List.drop_eq_getElem_cons hjl];exact List.mem_cons_self ..)
  obtain⟨rc,hx,hrb,hrv,hrk⟩:=hUs.con _ hlj hv0
  have hRd:=hD.dsk.rd
  have hok:=hRd.rok hx
  obtain⟨bv,hdr,hbw⟩:=hD.r
  have hPS:PwS 0 p:=by rcases hE.1 with⟨q1,q2⟩|q;· exact .inl ⟨q1,q2,by omega⟩
                       ·exact .inr q
  refine dm (L:=y8) (b:=qC) rfl ?_
  simp only[qC]
  simp -implicitDefEqProofs (disch:=omega)only[W2,dd,Nat.testBit,Nat.reduceAdd,Nat.reduceShiftRight,Nat.reduceAnd,Nat.reduceBNe,Nat.reduceMul,hix,m1,hat,m2]
  refine dw (Im hU hRd hp hPS hdr hbw.p.2.1 (Rb:=i.R) (EN:=i.EN) ⟨by omega,by omega,by omega⟩ ⟨by omega,by omega,by omega⟩ hlj hok hx ⟨hrb,hrv,hrk⟩) fun r1 M2 N2 r2 w2 hh=>?_
  obtain⟨q0,q1,q2,q3,p',hp',hPS',hcase⟩:=hh
  have m2':=(q2 bd (by omega) (by omega) (by omega)).1.trans m2
  have m3':=(q2 bk (by omega) (by omega) (by omega)).1.trans m3
  have hDsk2:Dsk i pb M2 N2 dur ps:=hD.dsk.jT q1 (fun b hb e1 e2 _ _=>(q2 b hb e1 e2).1) q3
  have hI':PwI p':=by rcases hPS' with⟨e1,e2,e3⟩|e;· exact .inl ⟨e1,e2⟩
                      ·exact .inr e
  rcases hcase with⟨g1,g2,g3,g4,rfl⟩|⟨rfl,g1,g2⟩
  ·obtain⟨kd,blk,ver,ds,tm⟩:=rc
   obtain⟨d0,d1,d2,d3,d4,d5,d6,d7,hds⟩:=eight hok.dl
   simp only at hrb hrv hrk hds
   subst hds;subst hrb
   simp only[Rec.val,Rec.cs,n8s,List.map_cons,List.map_nil]
   simp -implicitDefEqProofs (disch:=omega)only[W2,dd,Nat.testBit,Nat.reduceAdd,Nat.reduceShiftRight,Nat.reduceAnd,Nat.reduceBNe,Nat.reduceMul,dH,m2',m3']
   generalize hM3:(AMem.put M2 N2 _:FM)=M3
   have l3:∀b,b<N2->M3 b=M2 b:=fun b hb=>by rw[<-hM3,dc _ _ _ _ (by omega)]
   have fr:∀b,b<N->b≠i.P->b≠i.D->M3 b=M b:=fun b hb f1 f2=>by rw[l3 b (by omega),(q2 b hb f1 f2).1]
   have hD3:Drv i pb M3 (N2+1) dur ps es bs (t0+j):=hD.F7 (w:=0) (by omega) (fun b hb h0 hk _=>⟨fr b hb h0 (by omega),Nat.zero_testBit _⟩) (.inl rfl) (hDsk2.dF (by omega) l3)
   have hU3:Use i Fa fl pb M3 (N2+1) dur ps es bs (t0+j):=⟨hD3,hUs.pl,hUs.con,hUs.emp,hUs.ci,hUs.el⟩
   have hp3:PwR i.P M3 p':=(l3 _ (by omega)).trans hp'
   have hroom:=DF hUs.pl (by rw[hun];omega)
   have hE':PwE p0 p':=⟨hI',g3.trans (g1.symm.trans hE.2.1),g4.trans hE.2.2⟩
   refine dw (EB hU hD3 hp3 hI' (CIp:=CI Fa fl) hUs.ci (by omega) hUs.pl.ok (z:=(k:Int)) (.inr ⟨k,hk,rfl,hku⟩) hroom (rc:=⟨kd,l[j],ver,[d0,d1,d2,d3,d4,d5,d6,d7],tm⟩) hok rfl hlj (hUs.pl.unl hlj) (by omega)) fun r4 M4 N4 r5 w4 hh=>?_
   obtain⟨z0,z1,z2,p4,hp4,hI4,pb',hpb',hcase⟩:=hh
   rcases hcase with⟨f1,f2,f3,rfl,q,hq,hqt,hD4⟩|⟨rfl,f1,dur',ps',hF4,hci4,hcl4⟩
   ·have hI4':=K0 (p0:=p0) (rc:=⟨kd,l[j],ver,[d0,d1,d2,d3,d4,d5,d6,d7],t0+j+1⟩) hjl hnd hU3 hpl hun hver hk hku hrem hall hlj hq hqt rfl hrv (hFt _ _ (hUs.ci.last.1 _ _ hx)) hok.v1 hp4 ⟨hI4,f2.trans (f1.symm.trans hE'.2.1),f3.trans hE'.2.2⟩ hD4
    simp -implicitDefEqProofs (disch:=omega)only[W2,dd,Nat.testBit,Nat.reduceAdd,Nat.reduceShiftRight,Nat.reduceAnd,Nat.reduceBNe,Nat.reduceMul]
    refine dM (ih (j+1) (by omega) y0 y1 y4 pb' M4 N4 (Nat.lor w0 (Nat.lor (Nat.lor (Nat.lor w2 (bit N2)) (bit N2)) w4)) (by omega) hI4' (by omega) (fun b hb h0 hk' hne=>?_)) fun X e m n w hq=>?_
    ·have hpe:b≠pb:=by omega
     refine⟨by rw[(z2 b (by omega) h0 hk' hpe).1,fr b (by omega) h0 (by omega),(hf b hb h0 hk' hne).1],?_⟩
     simp only[c9,(hf b hb h0 hk' hne).2,(q2 b (by omega) h0 (by omega)).2,dh (show b≠N2 by omega),(z2 b (by omega) h0 hk' hpe).2];rfl
    ·rw[show Nat.lor w0 (Nat.lor (Nat.lor (Nat.lor (Nat.lor w2 (bit N2)) (bit N2)) w4) w)=Nat.lor (Nat.lor w0 (Nat.lor (Nat.lor (Nat.lor w2 (bit N2)) (bit N2)) w4)) w from(dy _ _ _).symm]
     exact hq
   ·have m4:M4 bd=some (.cells [.pointer (some ⟨i.R,0,none⟩)] 0 false true):=by rw[(z2 bd (by omega) (by omega) (by omega) (by omega)).1,l3 bd (by omega)];exact m2'
    obtain⟨ev4,bv4,tv4,hr4⟩:=hF4.r
    simp -implicitDefEqProofs (disch:=omega)only[W2,dd,Nat.testBit,Nat.reduceAdd,Nat.reduceShiftRight,Nat.reduceAnd,Nat.reduceBNe,Nat.reduceMul,m4]
    refine dw (nl (pb0:=pb0) (n0:=N1) hF4.dsk hci4 hp4 (hI4.o f1) (by omega) hr4 hcl4) fun r5 M5 N5 r6 w5 hh=>?_
    obtain⟨s1,rfl,rfl,s2,s3⟩:=hh
    simp -implicitDefEqProofs (disch:=omega)only[W2,dd,Nat.testBit,Nat.reduceAdd,Nat.reduceShiftRight,Nat.reduceAnd,Nat.reduceBNe,Nat.reduceMul]
    refine hQf _ _ _ _ (by omega) (by simp only[c9,s1];simp) s3 fun b hb h0 hk' hne=>⟨?_,?_⟩
    ·rw[(s2 b (by omega)).1,(z2 b (by omega) h0 hk' (by omega)).1,fr b (by omega) h0 (by omega),(hf b hb h0 hk' hne).1]
    ·simp only[c9,(hf b hb h0 hk' hne).2,(q2 b (by omega) h0 (by omega)).2,dh (show b≠N2 by omega),(z2 b (by omega) h0 hk' (by omega)).2,(s2 b (by omega)).2];rfl
  ·have hr2:=(q2 i.R (by omega) (by omega) (by omega)).1.trans hdr.r
   simp -implicitDefEqProofs (disch:=omega)only[W2,dd,Nat.testBit,Nat.reduceAdd,Nat.reduceShiftRight,Nat.reduceAnd,Nat.reduceBNe,Nat.reduceMul,dH,m2',NZ]
   generalize hM3:(AMem.put M2 N2 _:FM)=M3
   have l3:∀b,b<N2->M3 b=M2 b:=fun b hb=>by rw[<-hM3,dc _ _ _ _ (by omega)]
   have fr:∀b,b<N->b≠i.P->b≠i.D->M3 b=M b:=fun b hb f1 f2=>by rw[l3 b (by omega),(q2 b hb f1 f2).1]
   refine dw (nl (pb0:=pb0) (n0:=N1) (hDsk2.dF (show N2<=N2+1 by omega) l3) hUs.ci ((l3 _ (by omega)).trans hp') (hI'.o g1) hpb ((l3 _ (by omega)).trans hr2) (by omega)) fun r5 M5 N5 r6 w5 hh=>?_
   obtain⟨s1,rfl,rfl,s2,s3⟩:=hh
   simp -implicitDefEqProofs (disch:=omega)only[W2,dd,Nat.testBit,Nat.reduceAdd,Nat.reduceShiftRight,Nat.reduceAnd,Nat.reduceBNe,Nat.reduceMul]
   refine hQf _ _ _ _ (by omega) (by simp only[c9,s1];simp) s3 fun b hb h0 hk' hne=>⟨?_,?_⟩
   ·rw[(s2 b (by omega)).1,fr b (by omega) h0 (by omega),(hf b hb h0 hk' hne).1]
   ·simp only[c9,(hf b hb h0 hk' hne).2,(q2 b (by omega) h0 (by omega)).2,dh (show b≠N2 by omega),(s2 b (by omega)).2];rfl
theorem qo(S k:Nat)(es:List Ent):∀j,j<=es.length->(eC S k es j).length=(es.take j).countP (eR S k)
 |0,_=>rfl
 |j+1,hj=>by
  have ih:=qo S k es j (by omega)
  rw[oD S k es j (by omega),List.take_succ_eq_append_getElem (by omega),List.countP_append,<-ih]
  cases h:eR S k (es[j]'(by omega))
  ·simp[h]
  ·simp[h]
theorem BB(S k:Nat)(es:List Ent):(eC S k es es.length).length=iN S k es:=by
 rw[qo S k es _ (Nat.le_refl _),List.take_length];rfl
theorem oX{x:Nat}:x∈eC S k es es.length↔ij S k es x=true:=by
 rw[eC,List.mem_filter,List.mem_range]
 refine⟨fun h=>h.2,fun h=>⟨?_,h⟩⟩
 rw[ij]at h
 by_cases hx:x<es.length
 ·exact hx
 ·rw[List.getElem?_eq_none (by omega)]at h;cases h
theorem xg{x:Nat}(h:ij S k es x=true):∃hx:x<es.length,¬es[x].ver=0/\(es[x].adr-60) / S=k:=by
 rw[ij]at h
 by_cases hx:x<es.length
 ·rw[List.getElem?_eq_getElem hx]at h
  exact⟨hx,by simpa only[eR,decide_eq_true_eq]using h⟩
 ·rw[List.getElem?_eq_none (by omega)]at h;cases h
theorem yP(S k:Nat)(es:List Ent)(j:Nat):(eC S k es j).Nodup:=(List.nodup_range (n:=j)).sublist List.filter_sublist
theorem IM(hU:YUp Y)(h:Dsk i pb m n dur ps)(hp:PwR i.P m p)(hI:PwI p)(hc:ps.length<=100000)(hr:m i.R=some (.cells [.pointer (some ⟨i.D,0,none⟩),.int .u64 0,ev,bv,tv,fv] 0 false true))(kd:bd<n/\m bd=some (.cells [.pointer (some ⟨i.R,0,none⟩)] 0 false true)):
  Rt (df PG EL Y 73 [.pointer (some ⟨bd,0,none⟩)] m n) fun r m' n' w=>OpR i pb m n p dur ps (dR dur ps) [] r m' n' w:=by
 obtain⟨h1,h2,h3,h4,h5,h6,h7,h8,h9⟩:=h.cc.ok
 have hKN:=h.cc.KN
 obtain⟨kd1,kd2⟩:=kd
 refine eZ (R:=fun r m' n' w=>OpR i pb m n p dur ps (dR dur ps) [] r m' n' w) e73 rfl (fun r m' n' w hh _ hw=>hh.free h hp hI (by omega) hw) fun Q hQ=>?_
 simp only[O5]
 simp -implicitDefEqProofs (disch:=omega)only[W2,dd,Nat.testBit,Nat.reduceAdd,Nat.reduceShiftRight,Nat.reduceAnd,Nat.reduceBNe,Nat.reduceMul,kd2,hr]
 refine fx (oV hU h hp hI hc) fun r1 m1 n1 r2 w1 hh=>?_
 obtain⟨e,rfl,_⟩:=hh.one
 simp -implicitDefEqProofs (disch:=omega)only[W2,dd,Nat.testBit,Nat.reduceAdd,Nat.reduceShiftRight,Nat.reduceAnd,Nat.reduceBNe,Nat.reduceMul]
 exact hQ _ _ _ _ _ hh
theorem IL(hU:YUp Y)(h:Dsk i pb m n dur ps)(hp:PwR i.P m p)(hI:PwI p)(hc:ps.length<=100000)(hr:m i.R=some (.cells [.pointer (some ⟨i.D,0,none⟩),.int .u64 0,ev,bv,tv,fv] 0 false true)){a:Nat}(ha:a<5)(kd:bd<n/\m bd=some (.cells [.pointer (some ⟨i.R,0,none⟩)] 0 false true))(kk:bk<n/\m bk=some (.cells [.int .i64 (a:Int)] 0 false true)):
  Rt (df PG EL Y 74 [.pointer (some ⟨bd,0,none⟩),.pointer (some ⟨bk,0,none⟩)] m n) fun r m' n' w=>OpR i pb m n p dur ps dur (ps++[Op.er a]) r m' n' w:=by
 obtain⟨h1,h2,h3,h4,h5,h6,h7,h8,h9⟩:=h.cc.ok
 have hKN:=h.cc.KN
 obtain⟨kd1,kd2⟩:=kd
 obtain⟨kk1,kk2⟩:=kk
 refine eZ (R:=fun r m' n' w=>OpR i pb m n p dur ps dur (ps++[Op.er a]) r m' n' w) e74 rfl (fun r m' n' w hh _ hw=>hh.free h hp hI (by omega) hw) fun Q hQ=>?_
 simp only[OZ]
 simp -implicitDefEqProofs (disch:=omega)only[W2,dd,Nat.testBit,Nat.reduceAdd,Nat.reduceShiftRight,Nat.reduceAnd,Nat.reduceBNe,Nat.reduceMul,kd2,hr,kk2]
 refine fx (uO hU h hp hI hc ha) fun r1 m1 n1 r2 w1 hh=>?_
 obtain⟨e,rfl,_⟩:=hh.one
 simp -implicitDefEqProofs (disch:=omega)only[W2,dd,Nat.testBit,Nat.reduceAdd,Nat.reduceShiftRight,Nat.reduceAnd,Nat.reduceBNe,Nat.reduceMul]
 exact hQ _ _ _ _ _ hh
def Cln(i:Ids)(Fa:Rec->Prop)(fl:Nat->Nat)(p:Pw)(pb n:Nat)(es:List Ent)(bs:List Bnd)(t:Nat)(r:Value)(m':FM)(n':Nat):Prop:=
 ∃(mv pb':Nat) (dur':List Sec) (ps':List Op) (es':List Ent) (bs':List Bnd) (p':Pw),(pb'=pb\/n<=pb')/\r=.tuple #[.int .i64 (mv:Int),.int .i64 0]/\Use i Fa fl pb' m' n' dur' ps' es' bs' (t+mv)/\PwR i.P m' p'/\PwE p p'/\p.off=false/\ps'.length=1/\gS bs'+6=gS bs+mv/\mv<6/\es'.map Ent.ver=es.map Ent.ver/\1<=gu bs'
theorem Ip(hU:YUp Y)(hFt:∀r t,Fa r->Fa {r with tm:=t})(h:Use i Fa fl pb m n dur ps es bs t)(hp:PwR i.P m p)(hI:PwI p)(hfl:∀k,(hk:k<es.length)->fl k<=es[k].ver)(hk:k<bs.length)(hku:bs[k].used=6)(hkl:bs[k].live<6)(hu:gS bs<=24)(ht:t+100<2 ^ 62)(hcc:ps.length<=80000):
  Rt (df PG EL Y 35 [.pointer (some ⟨i.R,0,none⟩),.int .i64 (k:Int)] m n) fun r m' n' w=>Nat.testBit w i.R=true/\n<=n'/\Fr i.P i.sd i.EN pb n m m' w/\(Cln i Fa fl p pb n es bs t r m' n'\/(r=.tuple #[.int .i64 0,.int .i64 13]/\zn i Fa fl pb n m' n')):=by
 obtain⟨h1,h2,h3,h4,h5,h6,h7,h8,h9⟩:=h.d.dsk.cc.ok
 have hKN:=h.d.dsk.cc.KN
 have hpN:=h.d.dsk.cc.pbN
 have hQN:=h.d.dsk.cc.QN
 have hpl:=h.pl
 have hbll:=hpl.bl
 obtain⟨bv,hd,hb⟩:=h.d.r
 have hr:=hd.r
 have hel:=hd.el
 have hbl:(eC 6 k es es.length).length=bs[k].live:=by rw[BB,hpl.live k hk]
 have hbm:∀x∈eC 6 k es es.length,∃hx:x<es.length,¬es[x].ver=0:=fun x hx=>by
  obtain⟨h1,h2,_⟩:=xg (oX.1 hx)
  exact⟨h1,h2⟩
 refine dY (R:=fun r m' n' w=>n<=n'/\Fr i.P i.sd i.EN pb n m m' w/\(Cln i Fa fl p pb n es bs t r m' n'\/(r=.tuple #[.int .i64 0,.int .i64 13]/\zn i Fa fl pb n m' n'))) e35 rfl (show i.R<n by omega) fun Q hQ=>?_
 simp only[PB]
 simp -implicitDefEqProofs (disch:=omega)only[W2,dd,Nat.testBit,Nat.reduceAdd,Nat.reduceShiftRight,Nat.reduceAnd,Nat.reduceBNe,Nat.reduceMul,hr]
 generalize hM1:(AMem.put (AMem.put m n _) (n+1) _:FM)=M1
 have l1:∀b,b<n->M1 b=m b:=fun b hb=>by rw[<-hM1,dc _ _ _ _ (by omega),dc _ _ _ _ (by omega)]
 have p0:M1 n=some (.cells [.pointer (some ⟨i.R,0,none⟩)] 0 false true):=by rw[<-hM1,dc _ _ _ _ (by omega)];exact de _ _ _
 have p1:M1 (n+1)=some (.cells [.int .i64 (k:Int)] 0 false true):=by rw[<-hM1];exact de _ _ _
 have hD1:=h.d.dF (show n<=n+2 by omega) l1
 refine dS ((Gi hD1 hpl (k:=k) (bd:=n) (bk:=n+1) ⟨by omega,p0⟩ ⟨by omega,p1⟩ _ _ _ _ _ (fun v x2 M N w hN hM hw hS=>?_) es.length 0 (Nat.zero_add _) _ _ M1 (n+2) 0 (Nat.le_refl _) (fun _ _=>rfl) (fun j _=>jg _) (.inl ⟨rfl,rfl,rfl⟩)).mono fun X e m' n' w hq=>by simpa only[dx]using hq)
 intro rr
 have hvo:=hS.one
 simp -implicitDefEqProofs (disch:=omega)only[W2,dd,Nat.testBit,Nat.reduceAdd,Nat.reduceShiftRight,Nat.reduceAnd,Nat.reduceBNe,Nat.reduceMul,gj,hvo,hS.bel]
 have hD2:∀m',(∀b,b<n+2->m' b=M b)->Drv i pb m' N dur ps es bs t:=fun m' hm'=>hD1.dF hN fun b hb=>by rw[hm' b hb,hM b hb]
 refine dw (dsort (hD2 M fun _ _=>rfl) hpl (n0:=n+2) (bd:=n) (by omega) (by omega) ⟨by omega,by rw[hM n (by omega)];exact p0⟩ (by omega) hbm hS hD2) fun r3 m3 n3 r4 w3 hh=>?_
 obtain⟨rfl,hf3,l,hl,hS3⟩:=hh
 rw[<-hl.length_eq]at hS3
 have hll:l.length=bs[k].live:=by rw[hl.length_eq,hbl]
 have hS3':SlZ 1 m3 n n3 v l.length (ef l):=hS3.low (by omega)
 have l3:∀b,b<n->m3 b=m b:=fun b hb=>by rw[(hf3 b (by omega)).1,hM b (by omega),l1 b hb]
 have hU3:Use i Fa fl pb m3 n3 dur ps es bs t:=h.dF (by omega) l3
 have hMv:MvI i Fa fl p k es bs t ps.length l 0 pb m3 n3:=by
  refine⟨dur,ps,es,bs,p,hU3,(l3 _ (by omega)).trans hp,⟨hI,rfl,rfl⟩,rfl,rfl,rfl,⟨hk,hku⟩,fun b hb=>?_,fun b hb=>?_⟩
  ·rw[List.drop_zero]at hb
   exact xg (oX.1 (hl.subset hb))
  ·rw[List.drop_zero]
   exact hl.symm.subset (oX.2 hb)
 simp -implicitDefEqProofs (disch:=omega)only[W2,dd,Nat.testBit,Nat.reduceAdd,Nat.reduceShiftRight,Nat.reduceAnd,Nat.reduceBNe,Nat.reduceMul,hS3.len,hS3.one]
 refine dS ((K1 hU hFt (n:=n) (N1:=n3) (bd:=n) (bk:=n+1) (pb0:=pb) (l:=l) (by omega) hpN ⟨by omega,by omega,by rw[(hf3 n (by omega)).1,hM n (by omega)];exact p0⟩ ⟨by omega,by omega,by rw[(hf3 (n+1) (by omega)).1,hM (n+1) (by omega)];exact p1⟩ hS3' (by omega) (hl.symm.nodup (yP _ _ _ _)) (by omega) (by omega) (by omega) _ _ _ _ _ _ _ _ (fun y0 y1 y4 pb4 M4 N4 w4 hN4 hI4 hpb4 hf4=>?_) (fun e4 M4 N4 w4 hN4 ht4 hF4 hf4=>?_) l.length 0 (Nat.zero_add _) _ _ _ pb m3 n3 0 (Nat.le_refl _) hMv (.inl rfl) (fun b _ _ _ _=>⟨rfl,Nat.zero_testBit _⟩)).mono fun X e m' n' w hq=>by simpa only[dx]using hq)
 ·intro rr2
  obtain⟨dur4,ps4,es4,bs4,p4,hU4,hp4,hE4,hpl4,hu4,hver4,⟨hk4,hku4⟩,hrem4,hall4⟩:=hI4
  have hD4:=hU4.d
  have hpbn4:=hD4.dsk.cc.pbN
  have hpbk4:=hD4.dsk.cc.pbk
  obtain⟨bv4,hd4,hb4⟩:=hD4.r
  have fr4:∀b,b<n->b≠i.P->¬(i.sd<=b/\b<=i.EN)->b≠pb->M4 b=m b:=fun b hb h0 hkk hne=>by rw[(hf4 b (by omega) h0 hkk hne).1,l3 b hb]
  have b0:M4 n=some (.cells [.pointer (some ⟨i.R,0,none⟩)] 0 false true):=by rw[(hf4 n (by omega) (by omega) (by omega) (by omega)).1,(hf3 n (by omega)).1,hM n (by omega)];exact p0
  have b1:M4 (n+1)=some (.cells [.int .i64 (k:Int)] 0 false true):=by rw[(hf4 (n+1) (by omega) (by omega) (by omega) (by omega)).1,(hf3 (n+1) (by omega)).1,hM (n+1) (by omega)];exact p1
  simp -implicitDefEqProofs (disch:=omega)only[W2,dd,Nat.testBit,Nat.reduceAdd,Nat.reduceShiftRight,Nat.reduceAnd,Nat.reduceBNe,Nat.reduceMul,gj]
  refine dw (lp (f:=73) (cs:=[.pointer (some ⟨n,0,none⟩)]) hD4.dsk hp4 hE4.1 (show i.P<N4 by omega) (IM hU hD4.dsk hp4 hE4.1 (by omega) hd4.r ⟨by omega,b0⟩)) fun r5 M5 N5 r6 w5 hh=>?_
  have y1':=hh.2.1
  have y2':=hh.2.2.1
  have e0:=(y2' n (by omega) (by omega) (by omega) (by omega)).1.trans b0
  have e1:=(y2' (n+1) (by omega) (by omega) (by omega) (by omega)).1.trans b1
  have w14:∀b,b<n->b≠i.P->¬(i.sd<=b/\b<=i.EN)->b≠pb->Nat.testBit (Nat.lor (Nat.lor (Nat.lor (Nat.lor (Nat.lor (bit n) (bit (n+1))) w) w3) w4) w5) b=false:=fun b hb h0 hkk hne=>by
   simp only[c9,dh (show b≠n by omega),dh (show b≠n+1 by omega),dK (hw (n+2) (Nat.le_refl _)) b (by omega),(hf3 b (by omega)).2,(hf4 b (by omega) h0 hkk hne).2,(y2' b (by omega) h0 (by omega) (by omega)).2];rfl
  obtain⟨y0',_,_,p5,hp5,hI5,hcase⟩:=hh
  rcases hcase with⟨rfl,g1,g2,g3,g4,pb5,hpb5,hD5'⟩|⟨rfl,g1,g2,hD5'⟩
  ·have hD5:=hD4.F7 y1' y2' hpb5 hD5'
   obtain⟨bv5,hd5,hb5⟩:=hD5.r
   have hpbn5:=hD5'.cc.pbN
   have hpbk5:=hD5'.cc.pbk
   simp -implicitDefEqProofs (disch:=omega)only[W2,dd,Nat.testBit,Nat.reduceAdd,Nat.reduceShiftRight,Nat.reduceAnd,Nat.reduceBNe,Nat.reduceMul,gj]
   refine dw (lp (f:=74) (cs:=[.pointer (some ⟨n,0,none⟩),.pointer (some ⟨n+1,0,none⟩)]) hD5' hp5 hI5 (show i.P<N5 by omega) (IL hU hD5' hp5 hI5 (by simp) hd5.r (a:=k) (by omega) ⟨by omega,e0⟩ ⟨by omega,e1⟩)) fun r7 M6 N6 r8 w6 hh=>?_
   have z1:=hh.2.1
   have z2:=hh.2.2.1
   have f0:=(z2 n (by omega) (by omega) (by omega) (by omega)).1.trans e0
   have f1:=(z2 (n+1) (by omega) (by omega) (by omega) (by omega)).1.trans e1
   have fr6:∀b,b<n->b≠i.P->¬(i.sd<=b/\b<=i.EN)->b≠pb->M6 b=m b:=fun b hb h0 hkk hne=>by rw[(z2 b (by omega) h0 (by omega) (by omega)).1,(y2' b (by omega) h0 (by omega) (by omega)).1,fr4 b hb h0 hkk hne]
   have hl4:iN 6 k es4=0:=List.countP_eq_zero.2 fun x hx hlx=>by
    obtain⟨b,hb,rfl⟩:=List.getElem_of_mem hx
    have:ij 6 k es4 b=true:=by rw[ij,List.getElem?_eq_getElem hb];exact hlx
    have:=hall4 b this
    rw[List.drop_length]at this
    cases this
   have hfl4:∀k,(hk:k<es4.length)->fl k<=es4[k].ver:=fun k hk=>by
    have hle:es4.length=es.length:=by rw[hU4.el,h.el]
    have e:es4[k].ver=es[k].ver:=by
     have h1:(es4.map Ent.ver)[k]?=(es.map Ent.ver)[k]?:=by rw[hver4]
     rw[List.getElem?_map,List.getElem?_map,List.getElem?_eq_getElem hk,List.getElem?_eq_getElem (by omega)]at h1
     injection h1
    rw[e];exact hfl k (by omega)
   have hci5:=hU4.ci.flush
   obtain⟨z0,_,_,p6,hp6,hI6,hcase⟩:=hh
   rcases hcase with⟨rfl,s1,s2,s3,s4,pb6,hpb6,hD6'⟩|⟨rfl,s1,s2,hD6'⟩
   ·have hD6:=hD5.F7 z1 z2 hpb6 hD6'
    obtain⟨bv6,hd6,hb6⟩:=hD6.r
    have hr6:=hd6.r
    obtain⟨pp1,pp2,pp3,pp4⟩:=hb6.p
    have hpb6n:=hD6'.cc.pbN
    simp -implicitDefEqProofs (disch:=omega)only[W2,dd,Nat.testBit,Nat.reduceAdd,Nat.reduceShiftRight,Nat.reduceAnd,Nat.reduceBNe,Nat.reduceMul,f0,hr6,f1,pp2,pp3]
    refine fx (BA hb6 hk4) fun r9 M7 N7 r10 w7 hh=>?_
    obtain⟨x1,x2,x3,bv7,wr,rfl,hS7⟩:=hh
    have hvo7:=hS7.one
    obtain⟨lw1,lw2⟩:=gF (x3 N6 (Nat.le_refl _)) (show i.R<N6 by omega)
    obtain⟨lw3,lw4⟩:=gF (x3 N6 (Nat.le_refl _)) (show n<N6 by omega)
    have hr7:=(x2 i.R (by omega)).trans hr6
    simp -implicitDefEqProofs (disch:=omega)only[W2,dd,Nat.testBit,Nat.reduceAdd,Nat.reduceShiftRight,Nat.reduceAnd,Nat.reduceBNe,Nat.reduceMul,dH,tI hS7,hvo7,dW hvo7,hS7.bel,hS7.yQ,hr7,lw1,lw2,lw3,lw4]
    generalize hM8:(AMem.put M7 i.R _:FM)=M8
    have l8:∀b,b≠i.R->M8 b=M7 b:=fun b hb=>by rw[<-hM8,dc _ _ _ _ hb]
    have hl9:(bs4.set k ⟨0,0,0,wr⟩).length=5:=by rw[List.length_set];exact hU4.pl.bl
    have hus:=zt hk4 wr
    have hcE:Con es4 (dR (dR dur4 ps4) ([]++[Op.er k])):=hU4.con.erase hU4.pl hl4
    refine hQ _ _ _ _ _ (by simp only[c9,dn];simp) ⟨by omega,fun b hb h0 hkk hne=>⟨?_,?_⟩,.inl ⟨l.length,pb6,dR dur4 ps4,[]++[Op.er k],es4,bs4.set k ⟨0,0,0,wr⟩,p6,by omega,rfl,⟨⟨?_,⟨bv7,⟨?_,?_,hU4.el⟩,?_⟩,hl9⟩,hU4.pl.reset hk4 hl4 wr,hcE,hU4.emp.erase wr,hci5.snoc (hci5.last.erase hU4.con hU4.pl hU4.el hfl4 hl4),hU4.el⟩,?_,⟨hI6,?_,?_⟩,?_,rfl,by omega,by omega,hver4,?_⟩⟩
    ·rw[l8 b (by omega),x2 b (by omega),fr6 b hb h0 hkk hne]
    ·have:=w14 b hb h0 hkk hne
     simp only[c9]at this ⊢
     simp only[this,(z2 b (by omega) h0 (by omega) (by omega)).2,dK (x3 N6 (Nat.le_refl _)) b (by omega),dh (show b≠i.R by omega)];rfl
    ·exact hD6'.qa (by omega) fun b hb _ k1 k2=>by rw[l8 b k1,x2 b hb]
    ·rw[<-hM8];exact de _ _ _
    ·rw[l8 _ (by omega),x2 _ (by omega)];exact hd6.en
    ·exact sW hS7 (fun b k1 k2=>l8 b (by omega)) (Nat.le_refl _) hl9 (by omega) (by omega) (.inl hpb6n)
    ·rw[PwR,l8 _ (by omega),x2 _ (by omega)];exact hp6
    ·rw[s3,<-hE4.2.1,g1]
    ·rw[s4,g4];exact hE4.2.2
    ·rw[<-hE4.2.1,g1]
    ·exact List.countP_pos_iff.2 ⟨_,List.mem_set hk4 _,rfl⟩
   ·have hr6:=(z2 i.R (by omega) (by omega) (by omega) (by omega)).1.trans hd5.r
    simp -implicitDefEqProofs (disch:=omega)only[W2,dd,Nat.testBit,Nat.reduceAdd,Nat.reduceShiftRight,Nat.reduceAnd,Nat.reduceBNe,Nat.reduceMul,f0]
    refine dw (nl (pb0:=pb) (n0:=n) hD6' hci5 hp6 (hI6.o s1) (by omega) hr6 (by simp)) fun r9 M7 N7 r10 w7 hh=>?_
    obtain⟨x1,rfl,rfl,x2,x3⟩:=hh
    simp -implicitDefEqProofs (disch:=omega)only[W2,dd,Nat.testBit,Nat.reduceAdd,Nat.reduceShiftRight,Nat.reduceAnd,Nat.reduceBNe,Nat.reduceMul]
    refine hQ _ _ _ _ _ (by simp only[c9,x1];simp) ⟨by omega,fun b hb h0 hkk hne=>⟨?_,?_⟩,.inr ⟨rfl,x3⟩⟩
    ·rw[(x2 b (by omega)).1,fr6 b hb h0 hkk hne]
    ·have:=w14 b hb h0 hkk hne
     simp only[c9]at this ⊢
     simp only[this,(z2 b (by omega) h0 (by omega) (by omega)).2,(x2 b (by omega)).2];rfl
  ·have hr5:=(y2' i.R (by omega) (by omega) (by omega) (by omega)).1.trans hd4.r
   simp -implicitDefEqProofs (disch:=omega)only[W2,dd,Nat.testBit,Nat.reduceAdd,Nat.reduceShiftRight,Nat.reduceAnd,Nat.reduceBNe,Nat.reduceMul,e0]
   refine dw (nl (pb0:=pb) (n0:=n) hD5' hU4.ci hp5 (hI5.o g1) (by omega) hr5 (by omega)) fun r9 M7 N7 r10 w7 hh=>?_
   obtain⟨x1,rfl,rfl,x2,x3⟩:=hh
   simp -implicitDefEqProofs (disch:=omega)only[W2,dd,Nat.testBit,Nat.reduceAdd,Nat.reduceShiftRight,Nat.reduceAnd,Nat.reduceBNe,Nat.reduceMul]
   refine hQ _ _ _ _ _ (by simp only[c9,x1];simp) ⟨by omega,fun b hb h0 hkk hne=>⟨?_,?_⟩,.inr ⟨rfl,x3⟩⟩
   ·rw[(x2 b (by omega)).1,(y2' b (by omega) h0 (by omega) (by omega)).1,fr4 b hb h0 hkk hne]
   ·have:=w14 b hb h0 hkk hne
    simp only[c9]at this ⊢
    simp only[this,(x2 b (by omega)).2];rfl
 ·intro rr2
  simp -implicitDefEqProofs (disch:=omega)only[W2,dd,Nat.testBit,Nat.reduceAdd,Nat.reduceShiftRight,Nat.reduceAnd,Nat.reduceBNe,Nat.reduceMul]
  obtain⟨pp,q1,q2,pb',q3,q4⟩:=hF4
  refine hQ _ _ _ _ _ (by simp only[c9,ht4];simp) ⟨by omega,fun b hb h0 hkk hne=>⟨?_,?_⟩,.inr ⟨rfl,pp,q1,q2,pb',by omega,q4⟩⟩
  ·rw[(hf4 b (by omega) h0 hkk hne).1,l3 b hb]
  ·simp only[c9,dh (show b≠n by omega),dh (show b≠n+1 by omega),dK (hw (n+2) (Nat.le_refl _)) b (by omega),(hf3 b (by omega)).2,(hf4 b (by omega) h0 hkk hne).2];rfl
theorem AB(S:Nat):∀es:List Ent,iN S 0 es+iN S 1 es+iN S 2 es+iN S 3 es+iN S 4 es<=es.length
 |[]=>by simp[iN]
 |x::es=>by
  have ih:=AB S es
  have e:∀b,iN S b (x::es)=iN S b es+(if eR S b x=true then 1 else 0):=fun b=>by rw[iN,List.countP_cons];rfl
  rw[e,e,e,e,e,List.length_cons]
  simp only[eR,decide_eq_true_eq]
  generalize (x.adr-60) / S=v
  by_cases h0:x.ver=0
  ·simp only[h0,not_true,false_and,if_false];omega
  ·have f:∀b,(if¬x.ver=0/\v=b then 1 else 0)=if v=b then 1 else 0:=fun b=>by simp[h0]
   rw[f,f,f,f,f]
   split<;>split<;>split<;>split<;>split<;>omega
theorem five:∀{l:List Bnd},l.length=5->∃a b c d e,l=[a,b,c,d,e]
 |[a,b,c,d,e],_=>⟨a,b,c,d,e,rfl⟩
theorem LF(h:Pl es bs)(hel:es.length=6)(hf:gu bs=1)(z:Int):∃k,mA 6 z bs k:=by
 apply Classical.byContradiction
 intro hn
 have hl:=AB 6 es
 have hc:∀j,(hj:j<bs.length)->¬(j:Int)=z->0<bs[j].used->6<=bs[j].live:=fun j hj h1 h2=>by
  apply Classical.byContradiction
  intro h3
  exact hn ⟨j,hj,h1,h2,by omega⟩
 have hlv:=h.live
 have hbl:=h.bl
 clear hn h
 obtain⟨a,b,c,d,e,rfl⟩:=five hbl
 have c0:=hc 0 (by simp)
 have c1:=hc 1 (by simp)
 have c2:=hc 2 (by simp)
 have c3:=hc 3 (by simp)
 have c4:=hc 4 (by simp)
 have l0:=hlv 0 (by simp)
 have l1:=hlv 1 (by simp)
 have l2:=hlv 2 (by simp)
 have l3:=hlv 3 (by simp)
 have l4:=hlv 4 (by simp)
 simp only[List.getElem_cons_zero,List.getElem_cons_succ]at c0 c1 c2 c3 c4 l0 l1 l2 l3 l4
 rw[<-l0,<-l1,<-l2,<-l3,<-l4]at hl
 clear hc hlv l0 l1 l2 l3 l4
 simp only[gu,List.countP_cons,List.countP_nil,beq_iff_eq]at hf
 by_cases u0:a.used=0<;>by_cases u1:b.used=0<;>by_cases u2:c.used=0<;>by_cases u3:d.used=0<;>by_cases u4:e.used=0<;>simp only[u0,u1,u2,u3,u4,if_true,if_false]at hf<;>omega
theorem xF(h:Pl es bs)(hk:mA 6 (opF 6 bs bs.length) bs k):∃hb:k<bs.length,bs[k].used=6/\bs[k].live<6:=by
 obtain⟨hb,h1,h2,h3⟩:=hk
 refine⟨hb,?_,h3⟩
 have hle:=(h.ok _ (List.getElem_mem hb)).2
 apply Classical.byContradiction
 intro hne
 have hp:gW 6 bs[k]=true:=by rw[gW,decide_eq_true_eq];exact⟨h2,by omega⟩
 rcases yw 6 bs bs.length (Nat.le_refl _)with⟨_,o2⟩|⟨q,hq,o1,o2⟩
 ·rw[o2 k hb hb]at hp;cases hp
 ·rw[gW,decide_eq_true_eq]at o2
  have:=h.part k q hb hq h2 (by omega) o2.1 o2.2
  subst this
  exact h1 o1.symm
theorem nX(h:Pl es bs)(hf:1<=gu bs):gS bs<=24:=by
 have ho:=h.ok
 obtain⟨a,b,c,d,e,rfl⟩:=five h.bl
 have o0:=(ho a (by simp)).2
 have o1:=(ho b (by simp)).2
 have o2:=(ho c (by simp)).2
 have o3:=(ho d (by simp)).2
 have o4:=(ho e (by simp)).2
 simp only[gu,List.countP_cons,List.countP_nil,beq_iff_eq]at hf
 simp only[gS,List.map_cons,List.map_nil,List.sum_cons,List.sum_nil]
 by_cases u0:a.used=0
 ·omega
 ·by_cases u1:b.used=0
  ·omega
  ·by_cases u2:c.used=0
   ·omega
   ·by_cases u3:d.used=0
    ·omega
    ·by_cases u4:e.used=0
     ·omega
     ·simp only[u0,u1,u2,u3,u4,if_false]at hf;omega
theorem FX{S t:Nat}{x:Ent}(hq:q<bs.length):gu bs<=gu (jA t q (fp S x bs))+1:=by
 have hlen:(jA t q (fp S x bs)).length=bs.length:=by rw[lL,gT]
 have e:(jA t q (fp S x bs)).map Bnd.used=(bs.map Bnd.used).set q (bs[q].used+1):=by
  apply List.ext_getElem
  ·simp[hlen]
  ·intro j h1 h2
   rw[List.length_map]at h1
   rw[List.getElem_map,List.getElem_set,(vq hq j (by omega) h1).1]
   by_cases hj:q=j
   ·subst hj;rw[if_pos rfl,if_pos rfl]
   ·rw[if_neg hj,if_neg (fun h=>hj h.symm),List.getElem_map];rfl
 have f:∀l:List Bnd,gu l=(l.map Bnd.used).countP (·==0):=fun l=>by rw[gu,List.countP_map];rfl
 rw[f,f,e,List.countP_set (by rw[List.length_map];exact hq)]
 split<;>split<;>omega
def DrI(i:Ids)(Fa:Rec->Prop)(fl:Nat->Nat)(vs:List Nat)(tb:Nat)(pb:Nat)(M:FM)(N:Nat):Prop:=
 ∃dur ps es bs t,Use i Fa fl pb M N dur ps es bs t/\es.map Ent.ver=vs/\(∀k,(hk:k<es.length)->fl k<=es[k].ver)/\1<=gu bs/\t<=tb/\ps.length<=t+10
def Dj(i:Ids)(Fa:Rec->Prop)(fl:Nat->Nat)(vs:List Nat)(tb:Nat)(p:Pw)(pb n:Nat)(r:Value)(m':FM)(n':Nat):Prop:=
 (r=.int .i64 0/\p.off=false/\∃p' pb',(pb'=pb\/n<=pb')/\PwR i.P m' p'/\PwE p p'/\DrI i Fa fl vs tb pb' m' n')\/(r=.int .i64 13/\zn i Fa fl pb n m' n')
theorem BR{es':List Ent}(h:es'.map Ent.ver=es.map Ent.ver)(hk:k<es'.length)(hk':k<es.length):es'[k].ver=es[k].ver:=by
 have h1:(es'.map Ent.ver)[k]?=(es.map Ent.ver)[k]?:=by rw[h]
 rw[List.getElem?_map,List.getElem?_map,List.getElem?_eq_getElem hk,List.getElem?_eq_getElem hk']at h1
 injection h1
theorem Ls(hU:YUp Y){i:Ids}(hFt:∀r t,Fa r->Fa {r with tm:=t}){p0:Pw}{n N1 pb0 tb:Nat}{M1:FM}{vs:List Nat}(hn:i.K<=N1)(hpn:pb0<N1)(htb:tb<=60000)(x0 x1 x2 x3 x4 x5 x7:Value)
  (hQ:∀pb M N w p,N1<=N->(∃dur ps es bs t,Use i Fa fl pb M N dur ps es bs t/\es.map Ent.ver=vs/\(∀k,(hk:k<es.length)->fl k<=es[k].ver)/\2<=gu bs/\t<=tb/\ps.length<=t+10)->PwR i.P M p->PwE p0 p->(pb=pb0\/N1<=pb)->(∀b,b<N1->b≠i.P->¬(i.sd<=b/\b<=i.EN)->b≠pb0->M b=M1 b/\Nat.testBit w b=false)->Q (.exit 1) [x0,x1,x2,x3,x4,x5,.pointer (some ⟨i.R,0,none⟩),x7] M N w)
  (hQf:∀e M N w,N1<=N->Nat.testBit w i.R=true->zn i Fa fl pb0 N1 M N->(∀b,b<N1->b≠i.P->¬(i.sd<=b/\b<=i.EN)->b≠pb0->M b=M1 b/\Nat.testBit w b=false)->Q (.ret (.int .i64 13)) e M N w):
  ∀(U:Nat) (pb:Nat) (M:FM) (N w0:Nat) (p:Pw) (dur:List Sec) (ps:List Op) (es:List Ent) (bs:List Bnd) (t:Nat),gS bs=U->Use i Fa fl pb M N dur ps es bs t->PwR i.P M p->PwE p0 p->es.map Ent.ver=vs->(∀k,(hk:k<es.length)->fl k<=es[k].ver)->1<=gu bs->t+8*U<=tb->ps.length<=t+10->N1<=N->(pb=pb0\/N1<=pb)->(∀b,b<N1->b≠i.P->¬(i.sd<=b/\b<=i.EN)->b≠pb0->M b=M1 b/\Nat.testBit w0 b=false)->
  Gv (dt PG EL Y Dg [x0,x1,x2,x3,x4,x5,.pointer (some ⟨i.R,0,none⟩),x7] M N) fun X e m n w=>Q X e m n (Nat.lor w0 w):=by
 intro U
 induction U using Nat.strongRecOn with
 |ind U ih=>
  intro pb M N w0 p dur ps es bs t hUu hUs hp hE hver hfl hf1 ht hct hN hpb hf
  have hD:=hUs.d
  obtain⟨h1,h2,h3,h4,h5,h6,h7,h8,h9⟩:=hD.dsk.cc.ok
  have hKN:=hD.dsk.cc.KN
  obtain⟨bv,hd,hb⟩:=hD.r
  have hr:=hd.r
  obtain⟨p1,p2,p3,p4⟩:=hb.p
  refine dm (L:=Dg) (b:=y9) rfl ?_
  simp only[y9]
  simp -implicitDefEqProofs (disch:=omega)only[W2,dd,Nat.testBit,Nat.reduceAdd,Nat.reduceShiftRight,Nat.reduceAnd,Nat.reduceBNe,Nat.reduceMul,hr,p2]
  refine di (free_spec hb) fun r1=>?_
  by_cases hf2:2<=gu bs
  ·simp -implicitDefEqProofs (disch:=omega)only[W2,dd,Nat.testBit,Nat.reduceAdd,Nat.reduceShiftRight,Nat.reduceAnd,Nat.reduceBNe,Nat.reduceMul]
   exact hQ _ _ _ _ _ hN ⟨dur,ps,es,bs,t,hUs,hver,hfl,hf2,by omega,hct⟩ hp hE hpb hf
  ·obtain⟨rv,hrv,hvic⟩:=Ey (Y:=Y) hD hUs.pl.ok hf1
   rcases hrv with⟨k,rfl,hkc⟩|⟨_,hno⟩
   ·obtain⟨hk,hku,hkl⟩:=xF hUs.pl hkc
    have hub:=nX hUs.pl hf1
    simp -implicitDefEqProofs (disch:=omega)only[W2,dd,Nat.testBit,Nat.reduceAdd,Nat.reduceShiftRight,Nat.reduceAnd,Nat.reduceBNe,Nat.reduceMul]
    refine di hvic fun r2=>?_
    simp -implicitDefEqProofs (disch:=omega)only[W2,dd,Nat.testBit,Nat.reduceAdd,Nat.reduceShiftRight,Nat.reduceAnd,Nat.reduceBNe,Nat.reduceMul,dH]
    refine dw (Ip hU hFt hUs hp hE.1 hfl hk hku hkl hub (by omega) (by omega)) fun r3 M3 N3 r4 w3 hh=>?_
    obtain⟨q0,z1,z2,hcase⟩:=hh
    have fr:∀b,b<N1->b≠i.P->¬(i.sd<=b/\b<=i.EN)->b≠pb0->M3 b=M1 b/\Nat.testBit (Nat.lor w0 w3) b=false:=fun b hb h0 hk' hne=>by
     clear hcase
     have hpe:b≠pb:=by omega
     exact⟨by rw[(z2 b (by omega) h0 hk' hpe).1,(hf b hb h0 hk' hne).1],by rw[c9,(hf b hb h0 hk' hne).2,(z2 b (by omega) h0 hk' hpe).2];rfl⟩
    rcases hcase with⟨mv,pb',dur',ps',es',bs',p',z3,rfl,hU3,hp3,hE3,ho3,hpl3,hu3,hmv,hver3,hf3⟩|⟨rfl,pF,f1,f2,pbF,f3,f4⟩
    ·simp -implicitDefEqProofs (disch:=omega)only[W2,dd,Nat.testBit,Nat.reduceAdd,Nat.reduceShiftRight,Nat.reduceAnd,Nat.reduceBNe,Nat.reduceMul,dH]
     have hfl3:∀k,(hk:k<es'.length)->fl k<=es'[k].ver:=fun k hk=>by
      have hk':k<es.length:=by rw[hUs.el,<-hU3.el];exact hk
      rw[BR hver3 hk hk'];exact hfl k hk'
     refine dM (ih (gS bs') (by omega) pb' M3 N3 (Nat.lor w0 w3) p' dur' ps' es' bs' (t+mv) rfl hU3 hp3 ⟨hE3.1,hE3.2.1.trans hE.2.1,hE3.2.2.trans hE.2.2⟩ (hver3.trans hver) hfl3 hf3 (by omega) (by omega) (by omega) (by omega) fr) fun X e m n w hq=>?_
     rw[show Nat.lor w0 (Nat.lor w3 w)=Nat.lor (Nat.lor w0 w3) w from(dy _ _ _).symm]
     exact hq
    ·simp -implicitDefEqProofs (disch:=omega)only[W2,dd,Nat.testBit,Nat.reduceAdd,Nat.reduceShiftRight,Nat.reduceAnd,Nat.reduceBNe,Nat.reduceMul,dH]
     exact hQf _ _ _ _ (by omega) (by rw[c9,q0];simp) ⟨pF,f1,f2,pbF,by omega,f4⟩ fr
   ·obtain⟨k,hk⟩:=LF hUs.pl hUs.el (by omega) (opF 6 bs bs.length)
    exact absurd hk (hno k)
theorem dput(hU:YUp Y)(hFt:∀r t,Fa r->Fa {r with tm:=t})(h:DrI i Fa fl vs tb pb m n)(hp:PwR i.P m p)(hI:PwI p)(htb:tb<=50000)(hok:rc.Ok)(hFa:Fa rc)(hv2:∀v,vs[rc.blk]?=some v->v<=rc.ver):
  Rt (df PG EL Y 30 [.pointer (some ⟨i.R,0,none⟩),rc.val] m n) fun r m' n' w=>Nat.testBit w i.R=true/\n<=n'/\Fr i.P i.sd i.EN pb n m m' w/\Dj i Fa fl (vs.set rc.blk rc.ver) (tb+400) p pb n r m' n':=by
 obtain⟨dur,ps,es,bs,t,hUs,hver,hfl,hf1,ht,hct⟩:=h
 have hD:=hUs.d
 obtain⟨h1,h2,h3,h4,h5,h6,h7,h8,h9⟩:=hD.dsk.cc.ok
 have hKN:=hD.dsk.cc.KN
 have hpN:=hD.dsk.cc.pbN
 have hpk:=hD.dsk.cc.pbk
 have hel:=hUs.el
 have hb6:=hok.blk
 have hke:rc.blk<es.length:=by omega
 have hvk:es[rc.blk].ver<=rc.ver:=hv2 _ (by rw[<-hver,List.getElem?_map,List.getElem?_eq_getElem hke];rfl)
 obtain⟨bv,hd,hb⟩:=hD.r
 have hr:=hd.r
 have hen:=hd.en
 have hix:=jy (b:=i.EN) (c:=UNK) hke
 obtain⟨a1,a2,a3,a4⟩:=iY hke
 refine dY (R:=fun r m' n' w=>n<=n'/\Fr i.P i.sd i.EN pb n m m' w/\Dj i Fa fl (vs.set rc.blk rc.ver) (tb+400) p pb n r m' n') e30 rfl (show i.R<n by omega) fun Q hQ=>?_
 obtain⟨kd,blk,ver,ds,tm⟩:=rc
 obtain⟨d0,d1,d2,d3,d4,d5,d6,d7,hds⟩:=eight hok.dl
 simp only at hds
 subst hds
 have hv1:1<=ver:=hok.v1
 simp only at hb6 hke hvk hix a1 a2 a3 a4
 simp only[L5,Rec.val,Rec.cs,n8s,List.map_cons,List.map_nil]
 simp -implicitDefEqProofs (disch:=omega)only[W2,dd,Nat.testBit,Nat.reduceAdd,Nat.reduceShiftRight,Nat.reduceAnd,Nat.reduceBNe,Nat.reduceMul]
 generalize hM1:(AMem.put m n _:FM)=M1
 have l1:∀b,b<n->M1 b=m b:=fun b hb=>by rw[<-hM1,dc _ _ _ _ (by omega)]
 have l0:M1 n=some (.cells [.int .i64 (kd:Int),.int .i64 (blk:Int),.int .u64 (ver:Int),.int .u8 (d0:Int),.int .u8 (d1:Int),.int .u8 (d2:Int),.int .u8 (d3:Int),.int .u8 (d4:Int),.int .u8 (d5:Int),.int .u8 (d6:Int),.int .u8 (d7:Int)] 0 false true):=by rw[<-hM1];exact de _ _ _
 have hU1:=hUs.dF (show n<=n+1 by omega) l1
 have hr1:=(l1 i.R (by omega)).trans hr
 have hen1:=(l1 i.EN (by omega)).trans hen
 refine di (gy (show i.R<n+1 by omega) hr1) fun r1=>?_
 simp -implicitDefEqProofs (disch:=omega)only[W2,dd,Nat.testBit,Nat.reduceAdd,Nat.reduceShiftRight,Nat.reduceAnd,Nat.reduceBNe,Nat.reduceMul,l0]
 refine di (uP (show i.R<n+1 by omega) (hd.dF (l1 _ (by omega)) (l1 _ (by omega))) hke) fun r2=>?_
 simp -implicitDefEqProofs (disch:=omega)only[W2,dd,Nat.testBit,Nat.reduceAdd,Nat.reduceShiftRight,Nat.reduceAnd,Nat.reduceBNe,Nat.reduceMul,l0,hr1,hen1,hix,a3]
 refine dS ((Ls hU hFt (i:=i) (N1:=n+1) (n:=n) (pb0:=pb) (tb:=t+320) (M1:=M1) (vs:=vs) (p0:=p) (by omega) (by omega) (by omega) _ _ _ _ _ _ _ (fun pb4 M4 N4 w4 p4 hN4 hI4 hp4 hE4 hpb4 hf4=>?_) (fun e4 M4 N4 w4 hN4 ht4 hF4 hf4=>?_) (gS bs) pb M1 (n+1) 0 p dur ps es bs t rfl hU1 ((l1 _ (by omega)).trans hp) ⟨hI,rfl,rfl⟩ hver hfl hf1 (by have:=nX hUs.pl hf1;omega) hct (Nat.le_refl _) (.inl rfl) (fun b _ _ _ _=>⟨rfl,Nat.zero_testBit _⟩)).mono fun X e m' n' w hq=>by simpa only[dx]using hq)
 ·intro rr
  obtain⟨dur4,ps4,es4,bs4,t4,hU4,hver4,hfl4,hf4',ht4,hct4⟩:=hI4
  have b0:=(hf4 n (by omega) (by omega) (by omega) (by omega)).1.trans l0
  have hel4:=hU4.el
  have hke4:blk<es4.length:=by omega
  have hub:=nX hU4.pl (by omega)
  simp -implicitDefEqProofs (disch:=omega)only[W2,dd,Nat.testBit,Nat.reduceAdd,Nat.reduceShiftRight,Nat.reduceAnd,Nat.reduceBNe,Nat.reduceMul,b0]
  refine dw (EB hU hU4.d hp4 hE4.1 (CIp:=CI Fa fl) hU4.ci (by omega) hU4.pl.ok (z:=-1) (.inl (by omega)) (DF hU4.pl (by omega)) (rc:=⟨kd,blk,ver,[d0,d1,d2,d3,d4,d5,d6,d7],tm⟩) hok rfl hke4 (hU4.pl.unl hke4) (by omega)) fun r5 M5 N5 r6 w5 hh=>?_
  obtain⟨z0,z1,z2,p5,hp5,hI5,pb',hpb',hcase⟩:=hh
  have fr5:∀b,b<n->b≠i.P->¬(i.sd<=b/\b<=i.EN)->b≠pb->M5 b=m b/\Nat.testBit (Nat.lor (Nat.lor (bit n) w4) w5) b=false:=fun b hb h0 hkk hne=>by
   clear hcase
   exact⟨by rw[(z2 b (by omega) h0 hkk (by omega)).1,(hf4 b (by omega) h0 hkk hne).1,l1 b hb],by simp only[c9,dh (show b≠n by omega),(hf4 b (by omega) h0 hkk hne).2,(z2 b (by omega) h0 hkk (by omega)).2];rfl⟩
  rcases hcase with⟨f1,f2,f3,rfl,q,hq,hqt,hD5⟩|⟨rfl,f1,dur',ps',hF5,hci5⟩
  ·simp -implicitDefEqProofs (disch:=omega)only[W2,dd,Nat.testBit,Nat.reduceAdd,Nat.reduceShiftRight,Nat.reduceAnd,Nat.reduceBNe,Nat.reduceMul]
   refine hQ _ _ _ _ _ (by simp only[c9,z0];simp) ⟨by omega,fr5,.inl ⟨rfl,?_,p5,pb',by omega,hp5,⟨hI5,?_,?_⟩,_,_,_,_,_,hU4.app (r:=⟨kd,blk,ver,[d0,d1,d2,d3,d4,d5,d6,d7],t4+1⟩) hqt hq hke4 rfl hv1 (hFt _ _ hFa) hD5,?_,fun j hj=>?_,?_,by omega,by simp only[List.length_append,List.length_singleton];omega⟩⟩
   ·rw[<-hE4.2.1];exact f1
   ·exact f2.trans (f1.symm.trans hE4.2.1)
   ·exact f3.trans hE4.2.2
   ·rw[<-hver4,List.map_set]
   ·rw[List.length_set]at hj
    rw[List.getElem_set]
    by_cases hjk:blk=j
    ·subst hjk
     rw[if_pos rfl]
     have:=hfl4 blk hj
     have:es4[blk].ver=es[blk].ver:=BR (hver4.trans hver.symm) hj hke
     show fl blk<=ver
     omega
    ·rw[if_neg hjk];exact hfl4 j hj
   ·have:=FX (S:=6) (t:=t4+1) (x:=es4[blk]) hq
    omega
  ·simp -implicitDefEqProofs (disch:=omega)only[W2,dd,Nat.testBit,Nat.reduceAdd,Nat.reduceShiftRight,Nat.reduceAnd,Nat.reduceBNe,Nat.reduceMul]
   refine hQ _ _ _ _ _ (by simp only[c9,z0];simp) ⟨by omega,fr5,.inr ⟨rfl,p5,hp5,hI5.o f1,pb',by omega,dur',ps',hF5,hci5⟩⟩
 ·intro rr
  simp -implicitDefEqProofs (disch:=omega)only[W2,dd,Nat.testBit,Nat.reduceAdd,Nat.reduceShiftRight,Nat.reduceAnd,Nat.reduceBNe,Nat.reduceMul]
  obtain⟨pp,q1,q2,pb',q3,q4⟩:=hF4
  refine hQ _ _ _ _ _ (by simp only[c9,ht4];simp) ⟨by omega,fun b hb h0 hkk hne=>⟨?_,?_⟩,.inr ⟨rfl,pp,q1,q2,pb',by omega,q4⟩⟩
  ·rw[(hf4 b (by omega) h0 hkk hne).1,l1 b hb]
  ·simp only[c9,dh (show b≠n by omega),(hf4 b (by omega) h0 hkk hne).2];rfl
end Go.Am.CD
