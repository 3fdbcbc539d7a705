/- The machine and its runs, part 14: AyNp AyPa AyPb AyPc AyPd AyQa AyQb. -/
import Derived.Deep.WholeRow
import Derived.Maps.RangeRun
import Derived.Test.YtokdochbjilecaaGreatDoorB13
set_option linter.unusedVariables false
set_option linter.unusedSimpArgs false
set_option linter.unusedSectionVars false
namespace Go.Am.CD
set_option maxRecDepth 100000
open Go Go.Am
variable{E:Nat->Option AFn}{Y:Nat->List Value->FM->Nat->OR FM}
variable{pb n N N' q tb D b P Rb tm ver bd mb C seen bk cb:Nat}{m M M':FM}{p:Pw}{Fa:Rec->Prop}{vs ds:List Nat}{fl:Nat->Nat}{ps:List Op}{bv ev tv:Value}{cs:List Value}{xs:List Sec}{Q:AX->List Value->FM->Nat->Nat->Prop}
theorem DrI.dF{i:Ids}{M':FM}{N':Nat}(h:DrI i Fa fl vs tb pb M N)(hN:N<=N')(hf:∀b,b<N->M' b=M b):DrI i Fa fl vs tb pb M' N':=by
 obtain⟨dur,ps,es,bs,t,h,h1⟩:=h
 exact⟨dur,ps,es,bs,t,h.dF hN hf,h1⟩
theorem DrI.mono{i:Ids}{Fa':Rec->Prop}{tb':Nat}(h:DrI i Fa fl vs tb pb M N)(hF:∀r,Fa r->Fa' r)(ht:tb<=tb'):DrI i Fa' fl vs tb' pb M N:=by
 obtain⟨dur,ps,es,bs,t,h,h1,h2,h3,h4,h5⟩:=h
 exact⟨dur,ps,es,bs,t,⟨h.d,h.pl,h.con,h.emp,h.ci.mono hF (fun _ _=>Nat.le_refl _),h.el⟩,h1,h2,h3,by omega,h5⟩
theorem DrI.ids{i:Ids}(h:DrI i Fa fl vs tb pb M N):i.Ok/\i.K<=N/\pb<N/\(i.K<=pb\/pb=i.sd)/\i.Q<N/\vs.length=6:=by
 obtain⟨dur,ps,es,bs,t,h,h1,_⟩:=h
 exact⟨h.d.dsk.cc.ok,h.d.dsk.cc.KN,h.d.dsk.cc.pbN,h.d.dsk.cc.pbk,h.d.dsk.cc.QN,by rw[<-h1,List.length_map,h.el]⟩
theorem Nb{m:FM}{n D Rb:Nat}{ev bv tv:Value}(hR:Rb<n)(hr:m Rb=some (.cells [.pointer (some ⟨D,0,none⟩),.int .u64 0,ev,bv,tv,.int .i64 13] 0 false true)){rc:Rec}(hok:rc.Ok):Pure (df PG EL Y 30 [.pointer (some ⟨Rb,0,none⟩),rc.val] m n) m n (.int .i64 13):=by
 obtain⟨kd,blk,ver,ds,tm⟩:=rc
 obtain⟨d0,d1,d2,d3,d4,d5,d6,d7,hds⟩:=eight hok.dl
 simp only at hds
 subst hds
 refine dz e30 rfl rfl ?_
 simp only[L5,Rec.val,Rec.cs,n8s,List.map_cons,List.map_nil]
 simp -implicitDefEqProofs (disch:=omega)only[W2,dd,Nat.testBit,Nat.reduceAdd,Nat.reduceShiftRight,Nat.reduceAnd,Nat.reduceBNe,Nat.reduceMul]
 generalize hM1:(AMem.put m n _:FM)=M1
 have l1:∀b,b<n->M1 b=m b:=fun b hb=>by rw[<-hM1,dc _ _ _ _ (by omega)]
 refine di (gy (show Rb<n+1 by omega) ((l1 _ hR).trans hr)) fun r1=>?_
 simp -implicitDefEqProofs (disch:=omega)only[W2,dd,Nat.testBit,Nat.reduceAdd,Nat.reduceShiftRight,Nat.reduceAnd,Nat.reduceBNe,Nat.reduceMul]
theorem Kl(hR:Rb<n)(hr:m Rb=some (.cells [.pointer (some ⟨D,0,none⟩),.int .u64 0,ev,bv,tv,.int .i64 13] 0 false true))(hok:Rec.Ok ⟨1,b,ver,ds,tm⟩):Pure (df PG EL Y 9 [.pointer (some ⟨Rb,0,none⟩),.int .i64 (b:Int),.int .u64 (ver:Int),.agg (n8s ds).toArray] m n) m n (.int .i64 13):=by
 obtain⟨d0,d1,d2,d3,d4,d5,d6,d7,hds⟩:=eight hok.dl
 simp only at hds
 subst hds
 refine dz e9 rfl rfl ?_
 have hp:=fun(m:FM) h=>Nb (Y:=Y) (m:=m) (n:=n+1) (D:=D) (Rb:=Rb) (ev:=ev) (bv:=bv) (tv:=tv) (by omega) h hok
 simp only[Rec.val,Rec.cs,n8s,List.map_cons,List.map_nil]at hp
 simp only[ac9,n8s,List.map_cons,List.map_nil]
 simp -implicitDefEqProofs (disch:=omega)only[W2,dd,Nat.testBit,Nat.reduceAdd,Nat.reduceShiftRight,Nat.reduceAnd,Nat.reduceBNe,Nat.reduceMul]
 refine di (hp _ (by rw[dc _ _ _ _ (by omega)];exact hr)) fun r1=>?_
 simp -implicitDefEqProofs (disch:=omega)only[W2,dd,Nat.testBit,Nat.reduceAdd,Nat.reduceShiftRight,Nat.reduceAnd,Nat.reduceBNe,Nat.reduceMul]
theorem NQ(hR:Rb<n)(hr:m Rb=some (.cells [.pointer (some ⟨D,0,none⟩),.int .u64 0,ev,bv,tv,.int .i64 13] 0 false true))(hok:Rec.Ok ⟨2,b,ver,oh,tm⟩):Pure (df PG EL Y 10 [.pointer (some ⟨Rb,0,none⟩),.int .i64 (b:Int),.int .u64 (ver:Int)] m n) m n (.int .i64 13):=by
 refine dz e10 rfl rfl ?_
 have hp:=Nb (Y:=Y) (m:=m) (n:=n) hR hr hok
 simp only[Rec.val,Rec.cs,n8s,oh,List.map_cons,List.map_nil]at hp
 simp only[Mv]
 simp -implicitDefEqProofs (disch:=omega)only[W2,dd,Nat.testBit,Nat.reduceAdd,Nat.reduceShiftRight,Nat.reduceAnd,Nat.reduceBNe,Nat.reduceMul]
 refine di hp fun r1=>?_
 simp -implicitDefEqProofs (disch:=omega)only[W2,dd,Nat.testBit,Nat.reduceAdd,Nat.reduceShiftRight,Nat.reduceAnd,Nat.reduceBNe,Nat.reduceMul]
theorem A8(hU:YUp Y){i:Ids}(hFt:∀r t,Fa r->Fa {r with tm:=t})(h:DrI i Fa fl vs tb pb m n)(hp:PwR i.P m p)(hI:PwI p)(htb:tb<=50000)(hok:Rec.Ok ⟨1,b,ver,ds,tm⟩)(hFa:Fa ⟨1,b,ver,ds,tm⟩)(hv2:∀v,vs[b]?=some v->v<=ver):
  Rt (df PG EL Y 9 [.pointer (some ⟨i.R,0,none⟩),.int .i64 (b:Int),.int .u64 (ver:Int),.agg (n8s ds).toArray] m n) fun r m' n' w=>Nat.testBit w i.R=true/\n<=n'/\Fr i.P i.sd i.EN pb n m m' w/\Dj i Fa fl (vs.set b ver) (tb+400) p pb n r m' n':=by
 obtain⟨⟨h1,h2,h3,h4,h5,h6,h7,h8,h9⟩,hKN,hpN,hpk,hQN,_⟩:=h.ids
 obtain⟨d0,d1,d2,d3,d4,d5,d6,d7,hds⟩:=eight hok.dl
 simp only at hds
 subst hds
 refine dY (R:=fun r m' n' w=>n<=n'/\Fr i.P i.sd i.EN pb n m m' w/\Dj i Fa fl (vs.set b ver) (tb+400) p pb n r m' n') e9 rfl (show i.R<n by omega) fun Q hQ=>?_
 simp only[ac9,n8s,List.map_cons,List.map_nil]
 simp -implicitDefEqProofs (disch:=omega)only[W2,dd,Nat.testBit,Nat.reduceAdd,Nat.reduceShiftRight,Nat.reduceAnd,Nat.reduceBNe,Nat.reduceMul]
 generalize hM1:(AMem.put m n _:FM)=M1
 have l1:∀b,b<n->M1 b=m b:=fun b hb=>by rw[<-hM1,dc _ _ _ _ (by omega)]
 have hput:=dput hU hFt (h.dF (show n<=n+1 by omega) l1) ((l1 _ (by omega)).trans hp) hI htb hok hFa hv2
 simp only[Rec.val,Rec.cs,n8s,List.map_cons,List.map_nil]at hput
 refine dw hput fun r1 m2 n2 r2 w2 hh=>?_
 obtain⟨q0,q1,q2,q3⟩:=hh
 have fr:Fr i.P i.sd i.EN pb n m m2 (Nat.lor (bit n) w2):=fun b hb h0 hkk hne=>⟨by rw[(q2 b (by omega) h0 hkk hne).1,l1 b hb],by simp only[c9,dh (show b≠n by omega),(q2 b (by omega) h0 hkk hne).2];rfl⟩
 have fin:Dj i Fa fl (vs.set b ver) (tb+400) p pb n r1 m2 n2:=by
  rcases q3 with⟨k1,k2,p',pb',k3,k4⟩|⟨k1,pp,k2,k3,pb',k4,k5⟩
  ·exact .inl ⟨k1,k2,p',pb',by omega,k4⟩
  ·exact .inr ⟨k1,pp,k2,k3,pb',by omega,k5⟩
 have hr:∃e:Int,r1=.int .i64 e:=by rcases q3 with⟨k1,_⟩|⟨k1,_⟩<;>exact⟨_,k1⟩
 obtain⟨e,rfl⟩:=hr
 simp -implicitDefEqProofs (disch:=omega)only[W2,dd,Nat.testBit,Nat.reduceAdd,Nat.reduceShiftRight,Nat.reduceAnd,Nat.reduceBNe,Nat.reduceMul]
 exact hQ _ _ _ _ _ (by simp only[c9,q0];simp) ⟨by omega,fr,fin⟩
theorem CN(hU:YUp Y){i:Ids}(hFt:∀r t,Fa r->Fa {r with tm:=t})(h:DrI i Fa fl vs tb pb m n)(hp:PwR i.P m p)(hI:PwI p)(htb:tb<=50000)(hok:Rec.Ok ⟨2,b,ver,oh,tm⟩)(hFa:Fa ⟨2,b,ver,oh,tm⟩)(hv2:∀v,vs[b]?=some v->v<=ver):
  Rt (df PG EL Y 10 [.pointer (some ⟨i.R,0,none⟩),.int .i64 (b:Int),.int .u64 (ver:Int)] m n) fun r m' n' w=>Nat.testBit w i.R=true/\n<=n'/\Fr i.P i.sd i.EN pb n m m' w/\Dj i Fa fl (vs.set b ver) (tb+400) p pb n r m' n':=by
 obtain⟨⟨h1,h2,h3,h4,h5,h6,h7,h8,h9⟩,hKN,hpN,hpk,hQN,_⟩:=h.ids
 refine dY (R:=fun r m' n' w=>n<=n'/\Fr i.P i.sd i.EN pb n m m' w/\Dj i Fa fl (vs.set b ver) (tb+400) p pb n r m' n') e10 rfl (show i.R<n by omega) fun Q hQ=>?_
 simp only[Mv]
 simp -implicitDefEqProofs (disch:=omega)only[W2,dd,Nat.testBit,Nat.reduceAdd,Nat.reduceShiftRight,Nat.reduceAnd,Nat.reduceBNe,Nat.reduceMul]
 have hput:=dput hU hFt h hp hI htb hok hFa hv2
 simp only[Rec.val,Rec.cs,n8s,oh,List.map_cons,List.map_nil]at hput
 refine dw hput fun r1 m2 n2 r2 w2 hh=>?_
 obtain⟨q0,q1,q2,q3⟩:=hh
 have hr:∃e:Int,r1=.int .i64 e:=by rcases q3 with⟨k1,_⟩|⟨k1,_⟩<;>exact⟨_,k1⟩
 obtain⟨e,rfl⟩:=hr
 simp -implicitDefEqProofs (disch:=omega)only[W2,dd,Nat.testBit,Nat.reduceAdd,Nat.reduceShiftRight,Nat.reduceAnd,Nat.reduceBNe,Nat.reduceMul]
 exact hQ _ _ _ _ _ q0 ⟨q1,q2,q3⟩
theorem Lk(hR:Rb<n)(hr:m Rb=some (.cells [.pointer (some ⟨D,0,none⟩),.int .u64 0,ev,bv,tv,.int .i64 13] 0 false true)):Pure (df PG EL Y 11 [.pointer (some ⟨Rb,0,none⟩)] m n) m n (.int .i64 13):=by
 refine dz e11 rfl rfl ?_
 simp only[Mt]
 simp -implicitDefEqProofs (disch:=omega)only[W2,dd,Nat.testBit,Nat.reduceAdd,Nat.reduceShiftRight,Nat.reduceAnd,Nat.reduceBNe,Nat.reduceMul]
 generalize hM1:(AMem.put m n _:FM)=M1
 have l1:∀b,b<n->M1 b=m b:=fun b hb=>by rw[<-hM1,dc _ _ _ _ (by omega)]
 have l0:M1 n=some (.cells [.pointer (some ⟨Rb,0,none⟩)] 0 false true):=by rw[<-hM1];exact de _ _ _
 refine di (gy (show Rb<n+1 by omega) ((l1 _ hR).trans hr)) fun r1=>?_
 simp -implicitDefEqProofs (disch:=omega)only[W2,dd,Nat.testBit,Nat.reduceAdd,Nat.reduceShiftRight,Nat.reduceAnd,Nat.reduceBNe,Nat.reduceMul]
theorem IQ(hU:YUp Y){i:Ids}{dur:List Sec}(h:Dsk i pb m n dur ps)(hp:PwR i.P m p)(hI:PwI p)(hc:ps.length<=100000){fv:Value}(hr:m i.R=some (.cells [.pointer (some ⟨i.D,0,none⟩),.int .u64 0,ev,bv,tv,fv] 0 false true))(kd:bd<n/\m bd=some (.cells [.pointer (some ⟨i.R,0,none⟩)] 0 false true)):
  Rt (df PG EL Y 33 [.pointer (some ⟨bd,0,none⟩)] m n) fun r m' n' w=>OpR i pb m n p dur ps (dR dur ps) [] r m' n' w:=by
 obtain⟨h1,h2,h3,h4,h5,h6,h7,h8,h9⟩:=h.cc.ok
 have hKN:=h.cc.KN
 obtain⟨kd1,kd2⟩:=kd
 refine eZ (R:=fun r m' n' w=>OpR i pb m n p dur ps (dR dur ps) [] r m' n' w) e33 rfl (fun r m' n' w hh _ hw=>hh.free h hp hI (by omega) hw) fun Q hQ=>?_
 simp only[PE]
 simp -implicitDefEqProofs (disch:=omega)only[W2,dd,Nat.testBit,Nat.reduceAdd,Nat.reduceShiftRight,Nat.reduceAnd,Nat.reduceBNe,Nat.reduceMul,kd2,hr]
 refine fx (oV hU h hp hI hc) fun r1 m1 n1 r2 w1 hh=>?_
 obtain⟨e,rfl,_⟩:=hh.one
 simp -implicitDefEqProofs (disch:=omega)only[W2,dd,Nat.testBit,Nat.reduceAdd,Nat.reduceShiftRight,Nat.reduceAnd,Nat.reduceBNe,Nat.reduceMul]
 exact hQ _ _ _ _ _ hh
def flV(vs:List Nat)(b:Nat):Nat:=vs[b]?.getD 0
def FluR(i:Ids)(Fa:Rec->Prop)(fl:Nat->Nat)(vs:List Nat)(tb:Nat)(p:Pw)(pb n:Nat)(r:Value)(m':FM)(n':Nat):Prop:=
 (r=.int .i64 0/\p.off=false/\¬p.due/\∃p' pb',(pb'=pb\/n<=pb')/\PwR i.P m' p'/\PwE p p'/\DrI i Fa (flV vs) vs tb pb' m' n')\/(r=.int .i64 13/\zn i Fa fl pb n m' n')
theorem A9(hU:YUp Y){i:Ids}(h:DrI i Fa fl vs tb pb m n)(hp:PwR i.P m p)(hI:PwI p)(htb:tb<=50000):
  Rt (df PG EL Y 11 [.pointer (some ⟨i.R,0,none⟩)] m n) fun r m' n' w=>(Nat.testBit w i.R=true\/Nat.testBit w i.P=true)/\n<=n'/\Fr i.P i.sd i.EN pb n m m' w/\FluR i Fa fl vs tb p pb n r m' n':=by
 obtain⟨dur,ps,es,bs,t,hUs,hver,hfl,hf1,ht,hct⟩:=h
 have hD:=hUs.d
 obtain⟨h1,h2,h3,h4,h5,h6,h7,h8,h9⟩:=hD.dsk.cc.ok
 have hKN:=hD.dsk.cc.KN
 have hpN:=hD.dsk.cc.pbN
 have hpk:=hD.dsk.cc.pbk
 obtain⟨bv,hd,hb⟩:=hD.r
 have hr:=hd.r
 refine eZ (R:=fun r m' n' w=>(Nat.testBit w i.R=true\/Nat.testBit w i.P=true)/\n<=n'/\Fr i.P i.sd i.EN pb n m m' w/\FluR i Fa fl vs tb p pb n r m' n') e11 rfl (fun r m' n' w hh _ hw=>?_) fun Q hQ=>?_
 ·rcases hh.1 with k|k
  ·rw[dK hw _ (by omega)]at k;cases k
  ·rw[dK hw _ (by omega)]at k;cases k
 simp only[Mt]
 simp -implicitDefEqProofs (disch:=omega)only[W2,dd,Nat.testBit,Nat.reduceAdd,Nat.reduceShiftRight,Nat.reduceAnd,Nat.reduceBNe,Nat.reduceMul]
 generalize hM1:(AMem.put m n _:FM)=M1
 have l1:∀b,b<n->M1 b=m b:=fun b hb=>by rw[<-hM1,dc _ _ _ _ (by omega)]
 have l0:M1 n=some (.cells [.pointer (some ⟨i.R,0,none⟩)] 0 false true):=by rw[<-hM1];exact de _ _ _
 have hr1:=(l1 i.R (by omega)).trans hr
 refine di (gy (show i.R<n+1 by omega) hr1) fun r1=>?_
 have hD1:=hD.dF (show n<=n+1 by omega) l1
 have hp1:PwR i.P M1 p:=(l1 _ (by omega)).trans hp
 have hbf:et (n+1) (.func (.func 33) #[] #[.pointer (some ⟨n,0,none⟩)])=true:=by
  refine(sG (n+1) 33 [] [.pointer (some ⟨n,0,none⟩)]).trans ?_
  simp[pc,dC (show n<n+1 by omega)]
 simp -implicitDefEqProofs (disch:=omega)only[W2,dd,Nat.testBit,Nat.reduceAdd,Nat.reduceShiftRight,Nat.reduceAnd,Nat.reduceBNe,Nat.reduceMul,l0,gj,hbf]
 refine fx (lp (f:=33) (cs:=[.pointer (some ⟨n,0,none⟩)]) hD1.dsk hp1 hI (show i.P<n+1 by omega) (IQ hU hD1.dsk hp1 hI (by omega) hr1 ⟨by omega,l0⟩)) fun r2 m2 n2 r3 w2 hh=>?_
 have z1:=hh.2.1
 have z2:=hh.2.2.1
 obtain⟨lw1,lw2⟩:=HU (z2 n (by omega) (by omega) (by omega) (by omega)).2
 obtain⟨z0,_,_,p',hp',hI',hcase⟩:=hh
 have fr:∀b,b<n->b≠i.P->¬(i.sd<=b/\b<=i.EN)->b≠pb->m2 b=m b/\Nat.testBit (Nat.lor (bit n) w2) b=false:=fun b hb h0 hkk hne=>by
  clear hcase
  exact⟨by rw[(z2 b (by omega) h0 (by omega) hne).1,l1 b hb],by simp only[c9,dh (show b≠n by omega),(z2 b (by omega) h0 (by omega) hne).2];rfl⟩
 rcases hcase with⟨rfl,f1,f2,f3,f4,pb',f5,hD2⟩|⟨rfl,f1,f2,hD2⟩
 ·have hD2':=hD1.F7 z1 z2 f5 hD2
  have hz0:Nat.testBit w2 i.P=true:=by
   rcases z0 with k|k
   ·exact k
   ·rw[f1]at k;cases k
  simp -implicitDefEqProofs (disch:=omega)only[W2,dd,Nat.testBit,Nat.reduceAdd,Nat.reduceShiftRight,Nat.reduceAnd,Nat.reduceBNe,Nat.reduceMul,lw1,lw2]
  refine dV Ln fun r4=>?_
  simp -implicitDefEqProofs (disch:=omega)only[W2,dd,Nat.testBit,Nat.reduceAdd,Nat.reduceShiftRight,Nat.reduceAnd,Nat.reduceBNe,Nat.reduceMul]
  refine hQ _ _ _ _ _ ⟨.inr (by simp only[c9,hz0];simp),by omega,fr,.inl ⟨rfl,f1,f2,p',pb',by omega,hp',⟨hI',by rw[f3,f1],f4⟩,dR dur ps,[],es,bs,t,⟨hD2',hUs.pl,hUs.con,hUs.emp,fun k=>?_,hUs.el⟩,hver,fun k hk=>?_,hf1,ht,by simp⟩⟩
  ·rw[List.take_nil]
   refine⟨hUs.ci.last.1,fun b hb=>?_⟩
   have hbe:b<es.length:=by rw[hUs.el];exact hb
   have hvb:flV vs b=es[b].ver:=by rw[flV,<-hver,List.getElem?_map,List.getElem?_eq_getElem hbe];rfl
   by_cases h0:es[b].ver=0
   ·exact .inl (by rw[hvb,h0])
   ·obtain⟨s,q1,q2,q3,q4⟩:=hUs.con b hbe h0
    exact .inr ⟨_,s,(hUs.pl.ent b hbe h0).1,q1,q2,by rw[hvb,q3];exact Nat.le_refl _⟩
  ·rw[flV,<-hver,List.getElem?_map,List.getElem?_eq_getElem hk];exact Nat.le_refl _
 ·have hr2:=(z2 i.R (by omega) (by omega) (by omega) (by omega)).1.trans hr1
  simp -implicitDefEqProofs (disch:=omega)only[W2,dd,Nat.testBit,Nat.reduceAdd,Nat.reduceShiftRight,Nat.reduceAnd,Nat.reduceBNe,Nat.reduceMul,lw1,lw2]
  refine fx (nl (pb0:=pb) (n0:=n) hD2 hUs.ci hp' (hI'.o f1) (.inl rfl) hr2 (by omega)) fun r4 m4 n4 r5 w4 hh=>?_
  obtain⟨x1,rfl,rfl,x2,x3⟩:=hh
  simp -implicitDefEqProofs (disch:=omega)only[W2,dd,Nat.testBit,Nat.reduceAdd,Nat.reduceShiftRight,Nat.reduceAnd,Nat.reduceBNe,Nat.reduceMul]
  refine hQ _ _ _ _ _ ⟨.inl (by simp only[c9,x1];simp),by omega,fun b hb h0 hkk hne=>⟨?_,?_⟩,.inr ⟨rfl,x3⟩⟩
  ·rw[(x2 b (by omega)).1,(fr b hb h0 hkk hne).1]
  ·simp only[c9,dh (show b≠n by omega),(z2 b (by omega) h0 (by omega) hne).2,(x2 b (by omega)).2];rfl
theorem LA(hR:Rb<n)(hr:m Rb=some (.cells [.pointer (some ⟨D,0,none⟩),.int .u64 0,ev,bv,tv,.int .i64 13] 0 false true)):Pure (df PG EL Y 12 [.pointer (some ⟨Rb,0,none⟩)] m n) m n (.tuple #[.int .i64 0,.int .i64 13]):=by
 refine dz e12 rfl rfl ?_
 simp only[JZ]
 simp -implicitDefEqProofs (disch:=omega)only[W2,dd,Nat.testBit,Nat.reduceAdd,Nat.reduceShiftRight,Nat.reduceAnd,Nat.reduceBNe,Nat.reduceMul]
 refine di (gy hR hr) fun r1=>?_
 simp -implicitDefEqProofs (disch:=omega)only[W2,dd,Nat.testBit,Nat.reduceAdd,Nat.reduceShiftRight,Nat.reduceAnd,Nat.reduceBNe,Nat.reduceMul]
def ClnR(i:Ids)(Fa:Rec->Prop)(fl:Nat->Nat)(vs:List Nat)(tb:Nat)(p:Pw)(pb n:Nat)(m':FM)(n':Nat):Prop:=
 (∃p' pb',(pb'=pb\/n<=pb')/\PwR i.P m' p'/\PwE p p'/\DrI i Fa fl vs tb pb' m' n')\/zn i Fa fl pb n m' n'
theorem A'(hU:YUp Y){i:Ids}(hFt:∀r t,Fa r->Fa {r with tm:=t})(h:DrI i Fa fl vs tb pb m n)(hp:PwR i.P m p)(hI:PwI p)(htb:tb<=50000):
  Rt (df PG EL Y 12 [.pointer (some ⟨i.R,0,none⟩)] m n) fun r m' n' w=>n<=n'/\Fr i.P i.sd i.EN pb n m m' w/\(∃a b:Int,r=.tuple #[.int .i64 a,.int .i64 b])/\ClnR i Fa fl vs (tb+400) p pb n m' n':=by
 have hI0:=h.mono (fun _ h=>h) (show tb<=tb+400 by omega)
 obtain⟨dur,ps,es,bs,t,hUs,hver,hfl,hf1,ht,hct⟩:=h
 have hD:=hUs.d
 obtain⟨h1,h2,h3,h4,h5,h6,h7,h8,h9⟩:=hD.dsk.cc.ok
 have hKN:=hD.dsk.cc.KN
 have hpN:=hD.dsk.cc.pbN
 obtain⟨bv,hd,hb⟩:=hD.r
 have hr:=hd.r
 obtain⟨rv,hrv,hvic⟩:=Ey (Y:=Y) hD hUs.pl.ok hf1
 rcases hrv with⟨k,rfl,hkc⟩|⟨rfl,_⟩
 ·obtain⟨hk,hku,hkl⟩:=xF hUs.pl hkc
  have hub:=nX hUs.pl hf1
  refine(dY (R:=fun r m' n' w=>n<=n'/\Fr i.P i.sd i.EN pb n m m' w/\(∃a b:Int,r=.tuple #[.int .i64 a,.int .i64 b])/\ClnR i Fa fl vs (tb+400) p pb n m' n') e12 rfl (show i.R<n by omega) fun Q hQ=>?_).mono fun _ _ _ _ hh=>hh.2
  simp only[JZ]
  simp -implicitDefEqProofs (disch:=omega)only[W2,dd,Nat.testBit,Nat.reduceAdd,Nat.reduceShiftRight,Nat.reduceAnd,Nat.reduceBNe,Nat.reduceMul]
  refine di (gy (show i.R<n by omega) hr) fun r1=>?_
  simp -implicitDefEqProofs (disch:=omega)only[W2,dd,Nat.testBit,Nat.reduceAdd,Nat.reduceShiftRight,Nat.reduceAnd,Nat.reduceBNe,Nat.reduceMul]
  refine di hvic fun r2=>?_
  simp -implicitDefEqProofs (disch:=omega)only[W2,dd,Nat.testBit,Nat.reduceAdd,Nat.reduceShiftRight,Nat.reduceAnd,Nat.reduceBNe,Nat.reduceMul,dH]
  refine dw (Ip hU hFt hUs hp hI hfl hk hku hkl hub (by omega) (by omega)) fun r3 m3 n3 r4 w3 hh=>?_
  obtain⟨q0,z1,z2,⟨mv,pb',dur',ps',es',bs',p',z3,rfl,hU3,hp3,hE3,ho3,hpl3,hu3,hmv,hver3,hf3⟩|⟨rfl,hF⟩⟩:=hh
  ·simp -implicitDefEqProofs (disch:=omega)only[W2,dd,Nat.testBit,Nat.reduceAdd,Nat.reduceShiftRight,Nat.reduceAnd,Nat.reduceBNe,Nat.reduceMul,dH]
   refine hQ _ _ _ _ _ q0 ⟨z1,z2,⟨_,_,rfl⟩,.inl ⟨p',pb',z3,hp3,hE3,dur',ps',es',bs',_,hU3,hver3.trans hver,fun k hk=>?_,hf3,by omega,by omega⟩⟩
   have hk':k<es.length:=by rw[hUs.el,<-hU3.el];exact hk
   rw[BR hver3 hk hk'];exact hfl k hk'
  ·simp -implicitDefEqProofs (disch:=omega)only[W2,dd,Nat.testBit,Nat.reduceAdd,Nat.reduceShiftRight,Nat.reduceAnd,Nat.reduceBNe,Nat.reduceMul,dH]
   exact hQ _ _ _ _ _ q0 ⟨z1,z2,⟨_,_,rfl⟩,.inr hF⟩
 ·refine Rt.lU (v:=.tuple #[.int .i64 0,.int .i64 9]) (dz e12 rfl rfl ?_) ⟨Nat.le_refl _,fun b _ _ _ _=>⟨rfl,Nat.zero_testBit _⟩,⟨_,_,rfl⟩,.inl ⟨p,pb,.inl rfl,hp,⟨hI,rfl,rfl⟩,hI0⟩⟩
  simp only[JZ]
  simp -implicitDefEqProofs (disch:=omega)only[W2,dd,Nat.testBit,Nat.reduceAdd,Nat.reduceShiftRight,Nat.reduceAnd,Nat.reduceBNe,Nat.reduceMul]
  refine di (gy (show i.R<n by omega) hr) fun r1=>?_
  simp -implicitDefEqProofs (disch:=omega)only[W2,dd,Nat.testBit,Nat.reduceAdd,Nat.reduceShiftRight,Nat.reduceAnd,Nat.reduceBNe,Nat.reduceMul]
  refine di hvic fun r2=>?_
  simp -implicitDefEqProofs (disch:=omega)only[W2,dd,Nat.testBit,Nat.reduceAdd,Nat.reduceShiftRight,Nat.reduceAnd,Nat.reduceBNe,Nat.reduceMul,dH]
theorem uq(a:Addr):ji PG .neq 27 (.pointer (some a)) (.pointer none)=some (.bool true):=by
 show cond (jm PG 27) (kY .neq false) none=_
 rw[show jm PG 27=true by kernel_rfl];rfl
theorem BF(hP:P<n)(hp:PwR P m p)(ho:p.off=false)(k:Nat):Rt (df PG EL Y 8 [.pointer (some ⟨P,0,none⟩),.int .i64 (k:Int)] m n) fun r m' n' w=>Nat.testBit w P=true/\(n'=n/\(∀b,b≠P->m' b=m b/\Nat.testBit w b=false)/\PwR P m' ⟨false,true,k,p.fl⟩):=by
 obtain⟨o,a,l,f⟩:=p
 simp only at ho
 subst ho
 simp only[PwR,pwC]at hp
 refine lh (R:=fun m' n' w=>(n'=n/\(∀b,b≠P->m' b=m b/\Nat.testBit w b=false)/\PwR P m' ⟨false,true,k,f⟩)) e8 rfl rfl hP fun Q hQ=>?_
 simp only[ac8]
 simp -implicitDefEqProofs (disch:=omega)only[W2,dd,Nat.testBit,Nat.reduceAdd,Nat.reduceShiftRight,Nat.reduceAnd,Nat.reduceBNe,Nat.reduceMul,uq,hp]
 exact hQ _ _ _ _ (by simp only[c9,dn];simp) ⟨rfl,fun b hb=>⟨dc _ _ _ _ hb,by simp only[c9,dh hb];rfl⟩,de _ _ _⟩
theorem Hx(hP:P<n)(hp:PwR P m p):Pure (df PG EL Y 13 [.pointer (some ⟨P,0,none⟩)] m n) m n (.bool p.off):=by
 simp only[PwR,pwC]at hp
 refine dz e13 rfl rfl ?_
 simp only[PX]
 simp -implicitDefEqProofs (disch:=omega)only[W2,dd,Nat.testBit,Nat.reduceAdd,Nat.reduceShiftRight,Nat.reduceAnd,Nat.reduceBNe,Nat.reduceMul,uq,hp]
theorem D6(hP:P<n)(hp:PwR P m p):Rt (df PG EL Y 15 [.pointer (some ⟨P,0,none⟩)] m n) fun r m' n' w=>Nat.testBit w P=true/\(n'=n/\(∀b,b≠P->m' b=m b/\Nat.testBit w b=false)/\PwR P m' ⟨false,p.armed,p.left,p.fl⟩):=by
 simp only[PwR,pwC]at hp
 refine lh (R:=fun m' n' w=>(n'=n/\(∀b,b≠P->m' b=m b/\Nat.testBit w b=false)/\PwR P m' ⟨false,p.armed,p.left,p.fl⟩)) e15 rfl rfl hP fun Q hQ=>?_
 simp only[PV]
 simp -implicitDefEqProofs (disch:=omega)only[W2,dd,Nat.testBit,Nat.reduceAdd,Nat.reduceShiftRight,Nat.reduceAnd,Nat.reduceBNe,Nat.reduceMul,uq,hp]
 exact hQ _ _ _ _ (by simp only[dn];simp) ⟨rfl,fun b hb=>⟨dc _ _ _ _ hb,dh hb⟩,de _ _ _⟩
theorem yi{i:Ids}{dur:List Sec}(h:Dsk i pb m n dur ps)(hp:PwR i.P m p)(ho:p.off=true)(hc:ps.length<=100000)(dF:Nat)(hk:dF<=100000):
  Rt (df PG EL Y 14 [.pointer (some ⟨i.D,0,none⟩),.int .i64 (dF:Int)] m n) fun r m' n' w=>Nat.testBit w i.C=true/\(r=.int .i64 0/\n<=n'/\Fr i.sd i.sd i.D pb n m m' w/\Rd i pb m' n' p.fl (dR dur (ps.take dF))):=by
 obtain⟨h1,h2,h3,h4,h5,h6,h7,h8,h9⟩:=h.cc.ok
 have hKN:=h.cc.KN
 have hpbN:=h.cc.pbN
 have hpbk:=h.cc.pbk
 have hQN:=h.cc.QN
 obtain⟨s0,s1,s2,s3,op,hd⟩:=h.dk
 simp only[dkC]at hd
 obtain⟨o,a,l,f⟩:=p
 simp only at ho
 subst ho
 simp only[PwR,pwC]at hp
 refine dY (R:=fun r m' n' w=>(r=.int .i64 0/\n<=n'/\Fr i.sd i.sd i.D pb n m m' w/\Rd i pb m' n' f (dR dur (ps.take dF)))) e14 rfl (show i.C<n by omega) fun Q hQ=>?_
 simp only[PW]
 simp -implicitDefEqProofs (disch:=omega)only[W2,dd,Nat.testBit,Nat.reduceAdd,Nat.reduceShiftRight,Nat.reduceAnd,Nat.reduceBNe,Nat.reduceMul,nn,hd,hp]
 refine dw (xH h.cc hc dF hk) fun r1 m1 n1 r2 w1 hh=>?_
 have z0:=hh.1
 have z1:=hh.2.1
 have z2:=hh.2.2.1
 have hd1:=(z2 i.D (by omega) (by omega) (by omega) (by omega)).1.trans hd
 have hp1:=(z2 i.P (by omega) (by omega) (by omega) (by omega)).1.trans hp
 simp -implicitDefEqProofs (disch:=omega)only[W2,dd,Nat.testBit,Nat.reduceAdd,Nat.reduceShiftRight,Nat.reduceAnd,Nat.reduceBNe,Nat.reduceMul,hd1,hp1]
 generalize hM3:(AMem.put m1 i.D _:FM)=M3
 have l3:∀b,b≠i.D->M3 b=m1 b:=fun b hb=>by rw[<-hM3,dc _ _ _ _ hb]
 have hdk:DkR i.D i.C i.P f M3:=⟨s0,s1,s2,s3,op,by rw[<-hM3];exact de _ _ _⟩
 have fr3:Fr i.D i.D i.D pb n1 m1 M3 0:=fun b hb h0 _ _=>⟨l3 b h0,Nat.zero_testBit _⟩
 refine hQ _ _ _ _ _ (by simp only[c9,z0];simp) ⟨rfl,z1,fun b hb h0 hkk hne=>⟨by rw[l3 b (by omega),(z2 b hb h0 (by omega) hne).1],by simp only[c9,(z2 b hb h0 (by omega) hne).2,dh (show b≠i.D by omega)];rfl⟩,h.cc.ok,by omega,?_,hdk⟩
 obtain⟨_,_,_,⟨k1,k2⟩|⟨k1,mc,sc,k2,k3,k4,k5⟩⟩:=hh
 ·obtain⟨pv,hst,_⟩:=k2.st
  have hm:=k2.con
  obtain⟨x1,x2,x3⟩:=hm.ids
  rw[show dR dur (ps.take dF)=dR (dR dur ps) [] by rw[List.take_of_length_le k1];rfl]
  exact⟨i.md,i.mc,i.sc,pv,(l3 _ (by omega)).trans hst,hm.fr fr3 (by omega) (by omega) (Nat.le_refl _) (.inl rfl) (l3 _ (by omega)) (l3 _ (by omega)),.inl (by omega),.inl (by omega)⟩
 ·exact⟨i.md,mc,sc,_,(l3 _ (by omega)).trans k4,k5.fr fr3 (by omega) (by omega) (Nat.le_refl _) (.inl rfl) (l3 _ (by omega)) (l3 _ (by omega)),.inr (by omega),.inr (by omega)⟩
def Ids.to(i:Ids)(q:Nat):Ids:={i with Q:=q}
structure Far(i:Ids)(M M':FM)(N N' q:Nat):Prop where
 lo:∃lo hi,(hi<i.sd\/i.EN<lo)/\hi<i.K/\∀b,b<N->b≠i.P->¬(lo<=b/\b<=hi)->b≠i.Q->M' b=M b
 hN:N<=N'
 hq:q=i.Q\/N<=q
 qN:q<N'
theorem Far.K{i:Ids}(h:Far i M M' N N' q)(hP:i.P<i.K)(hb:b<N)(hK:i.K<=b)(hQ:b≠i.Q):M' b=M b/\b≠q:=by
 obtain⟨lo,hi,h1,h2,h3⟩:=h.lo
 have:=h.hq
 exact⟨h3 b hb (by omega) (by omega) hQ,by omega⟩
theorem Far.own{i:Ids}(h:Far i M M' N N' q){b:Nat}(hb:b<N)(h1:i.sd<=b)(h2:b<=i.EN)(hP:i.P<i.sd)(hQ:b≠i.Q):M' b=M b:=by
 obtain⟨lo,hi,k1,k2,k3⟩:=h.lo
 exact k3 b hb (by omega) (by omega) hQ
theorem By.far{i:Ids}{v:Value}{len:Nat}(h:By i pb M N v len cs)(hf:Far i M M' N N' q)(hP:i.P<i.K):By (i.to q) pb M' N' v len cs:=by
 obtain⟨b,o,c,xs,opn,wr,h1,⟨h2,h2'⟩,h3,h4,h5,h6,h7⟩:=h
 obtain⟨k1,k2⟩:=hf.K hP h4 h2 h2'
 exact⟨b,o,c,xs,opn,wr,h1,⟨h2,k2⟩,h3,by have:=hf.hN;omega,k1.trans h5,h6,h7⟩
theorem Frz.far{i:Ids}{b:Nat}(h:Frz i pb M N b cs)(hf:Far i M M' N N' q)(hP:i.P<i.K):Frz (i.to q) pb M' N' b cs:=by
 obtain⟨⟨h2,h2'⟩,h3,h4,h5⟩:=h
 obtain⟨k1,k2⟩:=hf.K hP h4 h2 h2'
 exact⟨⟨h2,k2⟩,h3,by have:=hf.hN;omega,k1.trans h5⟩
theorem mF.far{i:Ids}(hf:Far i M M' N N' q)(hP:i.P<i.K):∀x s,mF i pb M N x s->mF (i.to q) pb M' N' x s
 |x,.blank,h=>h
 |x,.dead,h=>h
 |x,.ent r,⟨h1,h2,h3⟩=>⟨h1,h2,h3.far hf hP⟩
theorem Pop.far{i:Ids}(hf:Far i M M' N N' q)(hP:i.P<i.K):∀o p,Pop i pb M N o p->Pop (i.to q) pb M' N' o p
 |o,.wr a r,⟨ba,bb,v,h1,h2,h3,h4,h5,h6⟩=>⟨ba,bb,v,h1,h2.far hf hP,h3.far hf hP,h4,h5,h6.far hf hP⟩
 |o,.er b,⟨ba,h1,h2,h3⟩=>⟨ba,h1,h2.far hf hP,h3⟩
theorem jB.far{i:Ids}(h:jB i pb M N mb cb xs)(hf:Far i M M' N N' q)(hP:i.P<i.K)(h1:M' mb=M mb)(h2:M' cb=M cb):jB (i.to q) pb M' N' mb cb xs:=by
 obtain⟨raw,hm,hr⟩:=h
 exact⟨raw,hm.frame hf.hN h1 h2,hr.mono (mF.far hf hP)⟩
theorem DkR.far(h:DkR D C P seen M)(he:M' D=M D):DkR D C P seen M':=by
 obtain⟨s0,s1,s2,s3,op,hd⟩:=h
 exact⟨s0,s1,s2,s3,op,he.trans hd⟩
theorem Cch.far{i:Ids}{dur:List Sec}(h:Cch i pb M N dur ps)(hf:Far i M M' N N' q)(hpq:pb≠i.Q)(hQ:i.K<=i.Q\/i.EN<i.Q\/i.Q<i.sd):Cch (i.to q) pb M' N' dur ps:=by
 obtain⟨h1,h2,h3,h4,h5,h6,h7,h8,h9⟩:=h.ok
 have hK:=h.KN
 have hN:=hf.hN
 have hp:=h.pbN
 have hpk:=h.pbk
 obtain⟨pv,hst,pcs,hpo,hpv⟩:=h.st
 have own:∀b,i.sd<=b->b<=i.EN->M' b=M b:=fun b k1 k2=>hf.own (by omega) k1 k2 h1 (by omega)
 refine⟨⟨h1,h2,h3,h4,h5,h6,h7,h8,h9⟩,Nat.le_trans hK hN,hpk,by omega,hf.qN,⟨pv,(own i.C (by omega) (by omega)).trans hst,pcs,hpo.mono (Pop.far hf (by omega)),?_⟩,h.con.far hf (by omega) (own i.mc (by omega) (by omega)) (own i.sc (by omega) (by omega)),h.dur.far hf (by omega) (own i.md (by omega) (by omega)) (own i.sd (by omega) (by omega))⟩
 rcases hpv with k|⟨k1,k2,k3,k4,k5⟩
 ·exact .inl k
 ·exact .inr ⟨k1,k2,by omega,k4,(hf.K (by omega) k3 k2 hpq).1.trans k5⟩
theorem Dsk.far{i:Ids}{dur:List Sec}(h:Dsk i pb M N dur ps)(hf:Far i M M' N N' q)(hpq:pb≠i.Q)(hQ:i.K<=i.Q\/i.EN<i.Q\/i.Q<i.sd):Dsk (i.to q) pb M' N' dur ps:=by
 obtain⟨h1,h2,h3,h4,h5,h6,h7,h8,h9⟩:=h.cc.ok
 have hK:=h.cc.KN
 exact⟨h.cc.far hf hpq hQ,h.dk.far (hf.own (by omega) (by omega) (by omega) h1 (by omega))⟩
theorem Drv.far{i:Ids}{dur:List Sec}{es:List Ent}{bs:List Bnd}{t:Nat}(h:Drv i pb M N dur ps es bs t)(hf:Far i M M' N N' q)(hpq:pb≠i.Q)(hQ:i.K<=i.Q\/i.EN<i.Q\/i.Q<i.sd):Drv (i.to q) pb M' N' dur ps es bs t:=by
 obtain⟨h1,h2,h3,h4,h5,h6,h7,h8,h9⟩:=h.dsk.cc.ok
 have hK:=h.dsk.cc.KN
 have hN:=hf.hN
 obtain⟨bv,hd,b,c,opn,wr,k1,⟨k2,k2'⟩,k3,k4,k5,k6,k7⟩:=h.r
 have hqq:=hf.hq
 have hb:M' b=M b/\b≠q:=by
  rcases k2 with k2|k2
  ·exact hf.K (by omega) k4 k2 k2'
  ·exact⟨hf.own k4 (by omega) (by omega) h1 k2',by omega⟩
 exact⟨h.dsk.far hf hpq hQ,⟨bv,hd.dF (hf.own (by omega) (by omega) (by omega) h1 (by omega)) (hf.own (by omega) (by omega) (by omega) h1 (by omega)),b,c,opn,wr,k1,⟨k2,hb.2⟩,k3,by omega,hb.1.trans k5,k6,k7⟩,h.bl⟩
theorem DrI.far{i:Ids}(h:DrI i Fa fl vs tb pb M N)(hf:Far i M M' N N' q)(hpq:pb≠i.Q)(hQ:i.K<=i.Q\/i.EN<i.Q\/i.Q<i.sd):DrI (i.to q) Fa fl vs tb pb M' N':=by
 obtain⟨dur,ps,es,bs,t,h,h1⟩:=h
 exact⟨dur,ps,es,bs,t,⟨h.d.far hf hpq hQ,h.pl,h.con,h.emp,h.ci,h.el⟩,h1⟩
theorem DrvF.far{i:Ids}{dur:List Sec}(h:DrvF i pb M N dur ps)(hf:Far i M M' N N' q)(hpq:pb≠i.Q)(hQ:i.K<=i.Q\/i.EN<i.Q\/i.Q<i.sd):DrvF (i.to q) pb M' N' dur ps:=by
 obtain⟨h1,h2,h3,h4,h5,h6,h7,h8,h9⟩:=h.dsk.cc.ok
 have hK:=h.dsk.cc.KN
 obtain⟨ev,bv,tv,hr⟩:=h.r
 exact⟨h.dsk.far hf hpq hQ,ev,bv,tv,(hf.own (b:=i.R) (by omega) (by omega) (by omega) h1 (by omega)).trans hr⟩
theorem Rd.far{i:Ids}(h:Rd i pb M N seen xs)(hf:Far i M M' N N' q)(hQ:i.K<=i.Q\/i.EN<i.Q\/i.Q<i.sd):Rd (i.to q) pb M' N' seen xs:=by
 obtain⟨h1,h2,h3,h4,h5,h6,h7,h8,h9⟩:=h.ok
 have hK:=h.KN
 have hqq:=hf.hq
 obtain⟨md,mc,sc,pv,k1,k2,k3,k4⟩:=h.st
 obtain⟨x1,x2,x3⟩:=k2.ids
 have get:∀b,b<N->((i.sd<=b/\b<=i.C)\/(i.K<=b/\b≠i.Q))->M' b=M b/\((i.sd<=b/\b<=i.C)\/(i.K<=b/\b≠q)):=fun b hb hk=>by
  rcases hk with k|⟨k,k'⟩
  ·exact⟨hf.own hb k.1 (by omega) h1 (by omega),.inl k⟩
  ·obtain⟨y1,y2⟩:=hf.K (by omega) hb k k'
   exact⟨y1,.inr ⟨k,y2⟩⟩
 obtain⟨y1,y2⟩:=get mc x1 k3
 obtain⟨y3,y4⟩:=get sc x2 k4
 exact⟨⟨h1,h2,h3,h4,h5,h6,h7,h8,h9⟩,Nat.le_trans hK hf.hN,⟨md,mc,sc,pv,(hf.own (b:=i.C) (by omega) (by omega) (by omega) h1 (by omega)).trans k1,k2.far hf (by omega) y1 y3,y2,y4⟩,h.dk.far (hf.own (b:=i.D) (by omega) (by omega) (by omega) h1 (by omega))⟩
theorem Ce(m:FM)(n:Nat):Rt (df PG EL Y 5 [] m n) fun r m' n' w=>n<=n'/\(∀b,b<n->m' b=m b)/\(∀j,j<=n->Nat.mod w (bit j)=0)/\r=.pointer (some ⟨n,0,none⟩)/\n<n'/\m' n=some (.cells (pwC ⟨false,false,0,0⟩) 0 false true):=by
 refine ez (R:=fun r m' n'=>r=.pointer (some ⟨n,0,none⟩)/\n<n'/\m' n=some (.cells (pwC ⟨false,false,0,0⟩) 0 false true)) e5 rfl fun Q hQ=>?_
 simp only[ac5]
 simp -implicitDefEqProofs (disch:=omega)only[W2,dd,Nat.testBit,Nat.reduceAdd,Nat.reduceShiftRight,Nat.reduceAnd,Nat.reduceBNe,Nat.reduceMul]
 exact hQ _ _ _ _ _ (by omega) (fun b hb=>dc _ _ _ _ (by omega)) (dE (Nat.le_refl _)) rfl ⟨rfl,by omega,de _ _ _⟩
def im:List (Int×Value):=List.replicate 90 (0,.slice none 0 0)
theorem mh:im.length=90:=List.length_replicate
theorem uK:∀x∈im,Am.one x.2=true:=fun x hx=>by rw[List.eq_of_mem_replicate hx];rfl
theorem FN(m:FM)(n:Nat):Rt (df PG EL Y 20 [gV] m n) fun r m' n' w=>n<=n'/\(∀b,b<n->m' b=m b)/\(∀j,j<=n->Nat.mod w (bit j)=0)/\r=.tuple #[.pointer (some ⟨n+2,0,none⟩),.int .i64 0]/\n'=n+3/\m' (n+1)=some (.cells (jk im) 2 false true)/\m' (n+2)=some (.cells [.int .i64 60,.int .i64 5,.int .i64 2,.int .i64 3,.int .i64 1,.slice (some ⟨n+1,0,none⟩) (90) (90)] 0 false true):=by
 refine ez (R:=fun r m' n'=>r=.tuple #[.pointer (some ⟨n+2,0,none⟩),.int .i64 0]/\n'=n+3/\m' (n+1)=some (.cells (jk im) 2 false true)/\m' (n+2)=some (.cells [.int .i64 60,.int .i64 5,.int .i64 2,.int .i64 3,.int .i64 1,.slice (some ⟨n+1,0,none⟩) (90) (90)] 0 false true)) e20 rfl fun Q hQ=>?_
 simp only[PR,gV]
 simp -implicitDefEqProofs (disch:=omega)only[W2,dd,Nat.testBit,Nat.reduceAdd,Nat.reduceShiftRight,Nat.reduceAnd,Nat.reduceBNe,Nat.reduceMul]
 refine di (ix _ _) fun r1=>?_
 simp -implicitDefEqProofs (disch:=omega)only[W2,dd,Nat.testBit,Nat.reduceAdd,Nat.reduceShiftRight,Nat.reduceAnd,Nat.reduceBNe,Nat.reduceMul]
 refine dV (jE _ _) fun r2=>?_
 simp -implicitDefEqProofs (disch:=omega)only[W2,dd,Nat.testBit,Nat.reduceAdd,Nat.reduceShiftRight,Nat.reduceAnd,Nat.reduceBNe,Nat.reduceMul]
 refine hQ _ _ _ _ _ (by omega) (fun b hb=>by rw[dc _ _ _ _ (by omega),dc _ _ _ _ (by omega),dc _ _ _ _ (by omega)]) ?_ rfl ⟨rfl,rfl,by rw[dc _ _ _ _ (by omega)];exact de _ _ _,de _ _ _⟩
 simp only[eL]
 exact⟨dE (Nat.le_refl _),dE (by omega),dE (by omega)⟩
structure NewC(n0:Nat)(M:FM)(N sd md sc mc C:Nat):Prop where
 h0:n0<=sd
 h1:sd<md
 h2:md<sc
 h3:sc<mc
 h4:mc<C
 h5:C<N
 dur:Med M N md sd im
 con:Med M N mc sc im
 st:M C=some (.cells [.pointer (some ⟨md,0,none⟩),.pointer (some ⟨mc,0,none⟩),.slice none 0 0] 0 false true)
theorem Med.AG{xs:List (Int×Value)}(h:Med M N mb cb xs)(hN:N<=N')(hf:∀b,b<N->M' b=M b):Med M' N' mb cb xs:=h.frame hN (hf _ h.mbN) (hf _ h.cbN)
theorem Gc{sv:Value}(hmb:mb<n)(hm:m mb=some (.cells [.int .i64 60,.int .i64 5,.int .i64 2,.int .i64 3,.int .i64 1,sv] 0 false true))(hs:Sh 2 m n sv im.length (jk im)):
  Rt (df PG EL Y 22 [.pointer (some ⟨mb,0,none⟩)] m n) fun r m' n' w=>n<=n'/\(∀b,b<n->m' b=m b)/\(∀j,j<=n->Nat.mod w (bit j)=0)/\∃sd md sc mc C,r=.pointer (some ⟨C,0,none⟩)/\NewC n m' n' sd md sc mc C:=by
 refine ez (R:=fun r m' n'=>∃sd md sc mc C,r=.pointer (some ⟨C,0,none⟩)/\NewC n m' n' sd md sc mc C) e22 rfl fun Q hQ=>?_
 simp only[PP]
 simp -implicitDefEqProofs (disch:=omega)only[W2,dd,Nat.testBit,Nat.reduceAdd,Nat.reduceShiftRight,Nat.reduceAnd,Nat.reduceBNe,Nat.reduceMul,lI]
 refine dw (ni hmb hm hs uK mh) fun r1 m1 n1 r2 w1 hh=>?_
 obtain⟨q1,q2,q3,md,sd,rfl,e1,e2,e3,e4⟩:=hh
 simp -implicitDefEqProofs (disch:=omega)only[W2,dd,Nat.testBit,Nat.reduceAdd,Nat.reduceShiftRight,Nat.reduceAnd,Nat.reduceBNe,Nat.reduceMul]
 refine dw (ni (show mb<n1 by omega) ((q2 mb hmb).trans hm) (hs.frame q1 q2) uK mh) fun r3 m2 n2 r4 w2 hh=>?_
 obtain⟨z1,z2,z3,mc,sc,rfl,f1,f2,f3,f4⟩:=hh
 simp -implicitDefEqProofs (disch:=omega)only[W2,dd,Nat.testBit,Nat.reduceAdd,Nat.reduceShiftRight,Nat.reduceAnd,Nat.reduceBNe,Nat.reduceMul]
 generalize hM3:(AMem.put m2 n2 _:FM)=M3
 have l3:∀b,b<n2->M3 b=m2 b:=fun b hb=>by rw[<-hM3,dc _ _ _ _ (by omega)]
 refine hQ _ _ _ _ _ (by omega) (fun b hb=>by rw[l3 b (by omega),z2 b (by omega),q2 b hb]) ?_ rfl ⟨sd,md,sc,mc,n2,rfl,⟨e1,e2,by omega,f2,by omega,by omega,(e4.AG z1 z2).AG (by omega) l3,f4.AG (by omega) l3,by rw[<-hM3];exact de _ _ _⟩⟩
 simp only[eL]
 exact⟨⟨q3 n (Nat.le_refl _),z3 n q1⟩,dE (by omega)⟩
theorem Lh(m:FM)(n:Nat):Pure (df PG EL Y 21 [.slice none 0 0] m n) m n (.bool true):=by
 refine dz e21 rfl rfl ?_
 simp only[PQ]
 simp -implicitDefEqProofs (disch:=omega)only[W2,dd,Nat.testBit,Nat.reduceAdd,Nat.reduceShiftRight,Nat.reduceAnd,Nat.reduceBNe,Nat.reduceMul]
 refine dS (dm (L:=Ja) (b:=zf) rfl ?_)
 simp only[zf]
 simp -implicitDefEqProofs (disch:=omega)only[W2,dd,Nat.testBit,Nat.reduceAdd,Nat.reduceShiftRight,Nat.reduceAnd,Nat.reduceBNe,Nat.reduceMul]
 intro rr
 simp -implicitDefEqProofs (disch:=omega)only[W2,dd,Nat.testBit,Nat.reduceAdd,Nat.reduceShiftRight,Nat.reduceAnd,Nat.reduceBNe,Nat.reduceMul]
theorem Lm(m:FM)(n:Nat):Pure (df PG EL Y 23 [.slice none 0 0] m n) m n (.slice none 0 0):=by
 refine dz e23 rfl rfl ?_
 simp only[PO]
 simp -implicitDefEqProofs (disch:=omega)only[W2,dd,Nat.testBit,Nat.reduceAdd,Nat.reduceShiftRight,Nat.reduceAnd,Nat.reduceBNe,Nat.reduceMul,show ji PG .eql 69 (.slice none 0 0) (.slice none 0 0)=some (.bool true)from by kernel_rfl]
theorem Ig(a:Addr):ji PG .eql 27 (.pointer (some a)) (.pointer none)=some (.bool false):=by
 rw[jY (by kernel_rfl)];rfl
theorem F5(hU:YUp Y)(hp0:p.fl=0)(hP:P<n)(hm:m P=some (.cells (pwC p) 0 false true)):Rt (df PG EL Y 6 [gV,.slice none 0 0,.pointer (some ⟨P,0,none⟩)] m n) fun r m' n' w=>n<=n'/\(∀b,b<n->m' b=m b)/\(∀j,j<=n->Nat.mod w (bit j)=0)/\∃sd md sc mc C D,r=.tuple #[.pointer (some ⟨D,0,none⟩),.int .i64 0]/\NewC n m' n' sd md sc mc C/\C<D/\D<n'/\m' D=some (.cells (dkC C P 0 0 0 0 0 0) 0 false true):=by
 refine ez (R:=fun r m' n'=>∃sd md sc mc C D,r=.tuple #[.pointer (some ⟨D,0,none⟩),.int .i64 0]/\NewC n m' n' sd md sc mc C/\C<D/\D<n'/\m' D=some (.cells (dkC C P 0 0 0 0 0 0) 0 false true)) e6 rfl fun Q hQ=>?_
 obtain⟨po,pa,pl,pf⟩:=p
 simp only at hp0
 subst hp0
 simp only[pwC]at hm
 simp only[ac6,gV]
 simp -implicitDefEqProofs (disch:=omega)only[W2,dd,Nat.testBit,Nat.reduceAdd,Nat.reduceShiftRight,Nat.reduceAnd,Nat.reduceBNe,Nat.reduceMul]
 generalize hM1:(AMem.put m n _:FM)=M1
 have l1:∀b,b<n->M1 b=m b:=fun b hb=>by rw[<-hM1,dc _ _ _ _ (by omega)]
 have l0:M1 n=some (.cells [.int .i64 60,.int .i64 5,.int .i64 2,.int .i64 3,.int .i64 1] 0 false true):=by rw[<-hM1];exact de _ _ _
 refine dw (FN M1 (n+1)) fun r1 m2 n2 r2 w2 hh=>?_
 obtain⟨q1,q2,q3,rfl,rfl,q4,q5⟩:=hh
 simp -implicitDefEqProofs (disch:=omega)only[W2,dd,Nat.testBit,Nat.reduceAdd,Nat.reduceShiftRight,Nat.reduceAnd,Nat.reduceBNe,Nat.reduceMul,dH]
 refine di (Lh _ _) fun r3=>?_
 have l0':=(q2 n (by omega)).trans l0
 simp -implicitDefEqProofs (disch:=omega)only[W2,dd,Nat.testBit,Nat.reduceAdd,Nat.reduceShiftRight,Nat.reduceAnd,Nat.reduceBNe,Nat.reduceMul,Ig,l0']
 have hs:Sh 2 m2 (n+1+3) (.slice (some ⟨n+1+1,0,none⟩) (90) (90)) im.length (jk im):=by
  rw[mh]
  exact⟨_,0,_,_,_,_,rfl,by omega,q4,by rw[eU,gr];exact fw (by rw[lj,mh]),by omega⟩
 refine tA hU (Gc (show n+1+2<n+1+3 by omega) q5 hs) fun r4 m3 n3 r5 w3 hh hu=>?_
 obtain⟨z1,z2,z3,sd,md,sc,mc,C,rfl,hC⟩:=hh
 obtain⟨k1,k2⟩:=gF (z3 (n+1+3) (Nat.le_refl _)) (show n<n+1+3 by omega)
 obtain⟨k3,k4⟩:=gF (z3 (n+1+3) (Nat.le_refl _)) (show P<n+1+3 by omega)
 have hc5:=hC.h5
 simp -implicitDefEqProofs (disch:=omega)only[W2,dd,Nat.testBit,Nat.reduceAdd,Nat.reduceShiftRight,Nat.reduceAnd,Nat.reduceBNe,Nat.reduceMul,k1,k2]
 refine dV (Lm _ _) fun r6=>?_
 have hm3:=(z2 P (by omega)).trans ((q2 P (by omega)).trans ((l1 P hP).trans hm))
 simp -implicitDefEqProofs (disch:=omega)only[W2,dd,Nat.testBit,Nat.reduceAdd,Nat.reduceShiftRight,Nat.reduceAnd,Nat.reduceBNe,Nat.reduceMul,hm3,k3,k4]
 generalize hM4:(AMem.put m3 n3 _:FM)=M4
 have l4:∀b,b<n3->M4 b=m3 b:=fun b hb=>by rw[<-hM4,dc _ _ _ _ (by omega)]
 obtain⟨c0,c1,c2,c3,c4,c5,c6,c7,c8⟩:=hC
 refine hQ _ _ _ _ _ (by omega) (fun b hb=>by rw[l4 b (by omega),z2 b (by omega),q2 b (by omega),l1 b hb]) ?_ rfl ⟨sd,md,sc,mc,C,n3,rfl,⟨by omega,c1,c2,c3,c4,by omega,c6.AG (by omega) l4,c7.AG (by omega) l4,(l4 C c5).trans c8⟩,c5,by omega,by rw[<-hM4];exact de _ _ _⟩
 simp only[eL]
 exact⟨⟨dE (Nat.le_refl _),q3 n (by omega)⟩,z3 n (by omega),dE (by omega)⟩
def ff(k:Nat):List Ent:=List.replicate k ⟨0,0,0⟩
theorem Cm(k:Nat):ee (ff k)++[.int .i64 0,.int .u64 0,.int .i64 (-1)]=ee (ff (k+1)):=by
 have:ff (k+1)=ff k++[⟨0,0,0⟩]:=by rw[ff,List.replicate_succ',ff]
 rw[this,uL];rfl
theorem Ga{n R nb:Nat}{M0:FM}{bv dp:Value}(hR:R<n)(hnb:nb<=100)(ho:Am.one bv=true/\Am.one dp=true)(x1 x3 x4 x5 x6 x7 x8:Value)
  (hQ:∀M N w ev,n<=N->(∀b,b<n->b≠R->M b=M0 b)->(∀b,b<n->b≠R->Nat.testBit w b=false)->M R=some (.cells [dp,.int .u64 0,ev,bv,.int .u64 0,.int .i64 0] 0 false true)->SlZ 3 M n N ev nb (ee (ff nb))->Q (.exit 0) [x1,.pointer (some ⟨R,0,none⟩),x3,x4,x5,x6,x7,x8,.int .i64 (nb:Int)] M N w):
  ∀(d j:Nat),j+d=nb->∀(M:FM) (N w0:Nat) (ev:Value),n<=N->(∀b,b<n->b≠R->M b=M0 b)->(∀b,b<n->b≠R->Nat.testBit w0 b=false)->M R=some (.cells [dp,.int .u64 0,ev,bv,.int .u64 0,.int .i64 0] 0 false true)->SlZ 3 M n N ev j (ee (ff j))->
  Gv (dt PG EL Y zd [.int .i64 (j:Int),x1,.pointer (some ⟨R,0,none⟩),x3,x4,x5,x6,x7,x8,.int .i64 (nb:Int)] M N) fun X e m n w=>Q X e m n (Nat.lor w0 w):=by
 obtain⟨ho1,ho2⟩:=ho
 intro d
 induction d with
 |zero=>
  intro j hj M N w0 ev hN hM hw hr hS
  refine dm (L:=zd) (b:=qE) rfl ?_
  simp only[qE]
  obtain rfl:j=nb:=by omega
  simp -implicitDefEqProofs (disch:=omega)only[W2,dd,Nat.testBit,Nat.reduceAdd,Nat.reduceShiftRight,Nat.reduceAnd,Nat.reduceBNe,Nat.reduceMul]
  exact hQ _ _ _ _ hN hM hw hr hS
 |succ d ih=>
  intro j hj M N w0 ev hN hM hw hr hS
  have hone:=hS.one
  refine dm (L:=zd) (b:=qE) rfl ?_
  simp only[qE]
  simp -implicitDefEqProofs (disch:=omega)only[W2,dd,Nat.testBit,Nat.reduceAdd,Nat.reduceShiftRight,Nat.reduceAnd,Nat.reduceBNe,Nat.reduceMul,hr,hone]
  generalize hM1:(AMem.put M N _:FM)=M1
  have l1:∀b,b<N->M1 b=M b:=fun b hb=>by rw[<-hM1,dc _ _ _ _ (by omega)]
  have hS1:SlZ 3 M1 n (N+1) ev j (ee (ff j)):=hS.frame (by omega) fun b _ h2=>l1 b h2
  have hr1:=(l1 R (by omega)).trans hr
  refine dw (ER (sz:=3) (bytes:=24) (zs:=[.int .i64 0,.int .u64 0,.int .i64 (-1)]) hS1 _ _ _ (by omega) (by omega) rfl rfl (by omega) (by omega)) fun v1 M2 N2 r1 w1 hh=>?_
  obtain⟨hv1,hn1,hs1,hl1,hw1⟩:=hh
  subst hn1
  have ho1':=hs1.one
  have hr2:=(hl1 R hR).trans hr1
  rw[Cm]at hs1
  simp -implicitDefEqProofs (disch:=omega)only[W2,dd,Nat.testBit,Nat.reduceAdd,Nat.reduceShiftRight,Nat.reduceAnd,Nat.reduceBNe,Nat.reduceMul,hr2,ho1',dW ho1']
  generalize hM3:(AMem.put M2 R _:FM)=M3
  have l3:∀b,b≠R->M3 b=M2 b:=fun b hb=>by rw[<-hM3,dc _ _ _ _ hb]
  refine dM (ih (j+1) (by omega) M3 (N+2) (Nat.lor w0 (Nat.lor (Nat.lor (bit N) w1) (bit R))) v1 (by omega) (fun b h1 h2=>by rw[l3 b h2,hl1 b h1,l1 b (by omega),hM b h1 h2]) (fun b h1 h2=>by simp only[c9,hw b h1 h2,dh (show b≠N by omega),dK (hw1 n (Nat.le_refl _)) b h1,dh h2];rfl) (by rw[<-hM3];exact de _ _ _) (hs1.frame (Nat.le_refl _) fun b h1 h2=>l3 b (by omega))) fun X e m n w hq=>?_
  rw[show Nat.lor w0 (Nat.lor (Nat.lor (Nat.lor (bit N) w1) (bit R)) w)=Nat.lor (Nat.lor w0 (Nat.lor (Nat.lor (bit N) w1) (bit R))) w from(dy _ _ _).symm]
  exact hq
theorem su{C P seen:Nat}(hD:D<n)(hd:DkR D C P seen m):
  Rt (df PG EL Y 24 [.pointer (some ⟨D,0,none⟩),.int .u64 0,.int .i64 ((6:Nat):Int)] m n) fun r m' n' w=>n<=n'/\(∀b,b<n->m' b=m b)/\(∀j,j<=n->Nat.mod w (bit j)=0)/\∃R EN,r=.tuple #[.pointer (some ⟨R,0,none⟩),.int .i64 0]/\n<=R-1/\1<=R/\R<EN/\EN<n'/\m' R=some (.cells [.pointer (some ⟨D,0,none⟩),.int .u64 0,.slice (some ⟨EN,0,none⟩) (6) UNK,.slice (some ⟨R-1,0,none⟩) 5 5,.int .u64 0,.int .i64 0] 0 false true)/\m' EN=some (.cells (ee (ff (6))) 3 true true)/\m' (R-1)=some (.cells (dD (List.replicate 5 ⟨0,0,0,0⟩)) 4 false true):=by
 refine ez (R:=fun r m' n'=>∃R EN,r=.tuple #[.pointer (some ⟨R,0,none⟩),.int .i64 0]/\n<=R-1/\1<=R/\R<EN/\EN<n'/\m' R=some (.cells [.pointer (some ⟨D,0,none⟩),.int .u64 0,.slice (some ⟨EN,0,none⟩) (6) UNK,.slice (some ⟨R-1,0,none⟩) 5 5,.int .u64 0,.int .i64 0] 0 false true)/\m' EN=some (.cells (ee (ff (6))) 3 true true)/\m' (R-1)=some (.cells (dD (List.replicate 5 ⟨0,0,0,0⟩)) 4 false true)) e24 rfl fun Q hQ=>?_
 simp only[PN]
 simp -implicitDefEqProofs (disch:=omega)only[W2,dd,Nat.testBit,Nat.reduceAdd,Nat.reduceShiftRight,Nat.reduceAnd,Nat.reduceBNe,Nat.reduceMul]
 refine di (lF hD hd) fun r1=>?_
 simp only[gV]
 simp -implicitDefEqProofs (disch:=omega)only[W2,dd,Nat.testBit,Nat.reduceAdd,Nat.reduceShiftRight,Nat.reduceAnd,Nat.reduceBNe,Nat.reduceMul]
 generalize hM1:(AMem.put m n _:FM)=M1
 have l1:∀b,b<n->M1 b=m b:=fun b hb=>by rw[<-hM1,dc _ _ _ _ (by omega)]
 have l0:M1 n=some (.cells [.int .i64 60,.int .i64 5,.int .i64 2,.int .i64 3,.int .i64 1] 0 false true):=by rw[<-hM1];exact de _ _ _
 simp -implicitDefEqProofs (disch:=omega)only[W2,dd,Nat.testBit,Nat.reduceAdd,Nat.reduceShiftRight,Nat.reduceAnd,Nat.reduceBNe,Nat.reduceMul,nn,l0,show∀k,et k (.pointer none)=true from fun _=>rfl]
 refine dV (hH _ _) fun r2=>?_
 simp -implicitDefEqProofs (disch:=omega)only[W2,dd,Nat.testBit,Nat.reduceAdd,Nat.reduceShiftRight,Nat.reduceAnd,Nat.reduceBNe,Nat.reduceMul,l0]
 generalize hM2:(AMem.put (AMem.put M1 (n+1) _) (n+2) _:FM)=M2
 have l2:∀b,b<n+1->M2 b=M1 b:=fun b hb=>by rw[<-hM2,dc _ _ _ _ (by omega),dc _ _ _ _ (by omega)]
 have k1:M2 (n+1)=some (.cells (dD (List.replicate 5 ⟨0,0,0,0⟩)) 4 false true):=by rw[<-hM2,dc _ _ _ _ (by omega)];exact de _ _ _
 have k2:M2 (n+2)=some (.cells [.pointer (some ⟨D,0,none⟩),.int .u64 0,.slice none 0 0,.slice (some ⟨n+1,0,none⟩) 5 5,.int .u64 0,.int .i64 0] 0 false true):=by rw[<-hM2];exact de _ _ _
 refine dS ((Ga (n:=n+3) (R:=n+2) (nb:=6) (M0:=M2) (bv:=.slice (some ⟨n+1,0,none⟩) 5 5) (dp:=.pointer (some ⟨D,0,none⟩)) (by omega) (by omega) ⟨rfl,rfl⟩ _ _ _ _ _ _ _ (fun M N w ev hN hM hw hr hS=>?_) (6) 0 (Nat.zero_add _) M2 (n+3) 0 (.slice none 0 0) (Nat.le_refl _) (fun _ _ _=>rfl) (fun b _ _=>Nat.zero_testBit _) k2 (.inl ⟨rfl,rfl,rfl⟩)).mono fun X e m' n' w hq=>by simpa only[dx]using hq)
 intro rr
 simp -implicitDefEqProofs (disch:=omega)only[W2,dd,Nat.testBit,Nat.reduceAdd,Nat.reduceShiftRight,Nat.reduceAnd,Nat.reduceBNe,Nat.reduceMul]
 rcases hS with⟨z,_⟩|⟨_,hcl,EN,rfl,e1,e2,e3⟩
 ·omega
 refine hQ _ _ _ _ _ (by omega) (fun b hb=>by rw[hM b (by omega) (by omega),l2 b (by omega),l1 b hb]) ?_ rfl ⟨n+2,EN,rfl,by omega,by omega,by omega,e2,hr,e3,?_⟩
 ·refine fm fun b hb=>?_
  simp only[c9,dh (show b≠n by omega),dh (show b≠n+1 by omega),dh (show b≠n+2 by omega),hw b (by omega) (by omega)];rfl
 ·rw[show n+2-1=n+1 by omega,hM _ (by omega) (by omega)];exact k1
def jo:List Bnd:=List.replicate 5 ⟨0,0,0,0⟩
def nP(X:List Sec):Prop:=∀(a:Nat) r,X[a]?≠some (Sec.ent r)
theorem nP.erase{X:List Sec}(h:nP X)(b:Nat):nP (iI X (60+b*6) 6):=fun a r hx=>h a r (rl hx).1
theorem IU(hU:YUp Y){i:Ids}{dur:List Sec}(h:Dsk i pb m n dur ps)(hp:PwR i.P m p)(hI:PwI p)(hc:ps.length<=100000){ba a:Nat}(ha:a<5)(kd:bd<n/\m bd=some (.cells [.pointer (some ⟨i.D,0,none⟩)] 0 false true))(kk:bk<n/\m bk=some (.cells [.int .u64 0] 0 false true))(ka:ba<n/\m ba=some (.cells [.int .i64 (a:Int)] 0 false true)):
  Rt (df PG EL Y 26 [.pointer (some ⟨bd,0,none⟩),.pointer (some ⟨bk,0,none⟩),.pointer (some ⟨ba,0,none⟩)] m n) fun r m' n' w=>OpR i pb m n p dur ps dur (ps++[Op.er a]) r m' n' w:=by
 obtain⟨h1,h2,h3,h4,h5,h6,h7,h8,h9⟩:=h.cc.ok
 have hKN:=h.cc.KN
 obtain⟨kd1,kd2⟩:=kd
 obtain⟨kk1,kk2⟩:=kk
 obtain⟨ka1,ka2⟩:=ka
 refine eZ (R:=fun r m' n' w=>OpR i pb m n p dur ps dur (ps++[Op.er a]) r m' n' w) e26 rfl (fun r m' n' w hh _ hw=>hh.free h hp hI (by omega) hw) fun Q hQ=>?_
 simp only[PL]
 simp -implicitDefEqProofs (disch:=omega)only[W2,dd,Nat.testBit,Nat.reduceAdd,Nat.reduceShiftRight,Nat.reduceAnd,Nat.reduceBNe,Nat.reduceMul,kd2,kk2,ka2]
 refine dw (uO hU h hp hI hc ha) fun r1 m1 n1 r2 w1 hh=>?_
 obtain⟨e,rfl,_⟩:=hh.one
 simp -implicitDefEqProofs (disch:=omega)only[W2,dd,Nat.testBit,Nat.reduceAdd,Nat.reduceShiftRight,Nat.reduceAnd,Nat.reduceBNe,Nat.reduceMul]
 exact hQ _ _ _ _ _ hh
theorem IR(hU:YUp Y){i:Ids}{dur:List Sec}(h:Dsk i pb m n dur ps)(hp:PwR i.P m p)(hI:PwI p)(hc:ps.length<=100000)(kd:bd<n/\m bd=some (.cells [.pointer (some ⟨i.D,0,none⟩)] 0 false true))(kk:bk<n/\m bk=some (.cells [.int .u64 0] 0 false true)):
  Rt (df PG EL Y 28 [.pointer (some ⟨bd,0,none⟩),.pointer (some ⟨bk,0,none⟩)] m n) fun r m' n' w=>OpR i pb m n p dur ps (dR dur ps) [] r m' n' w:=by
 obtain⟨h1,h2,h3,h4,h5,h6,h7,h8,h9⟩:=h.cc.ok
 have hKN:=h.cc.KN
 obtain⟨kd1,kd2⟩:=kd
 obtain⟨kk1,kk2⟩:=kk
 refine eZ (R:=fun r m' n' w=>OpR i pb m n p dur ps (dR dur ps) [] r m' n' w) e28 rfl (fun r m' n' w hh _ hw=>hh.free h hp hI (by omega) hw) fun Q hQ=>?_
 simp only[PJ]
 simp -implicitDefEqProofs (disch:=omega)only[W2,dd,Nat.testBit,Nat.reduceAdd,Nat.reduceShiftRight,Nat.reduceAnd,Nat.reduceBNe,Nat.reduceMul,kd2,kk2]
 refine dw (oV hU h hp hI hc) fun r1 m1 n1 r2 w1 hh=>?_
 obtain⟨e,rfl,_⟩:=hh.one
 simp -implicitDefEqProofs (disch:=omega)only[W2,dd,Nat.testBit,Nat.reduceAdd,Nat.reduceShiftRight,Nat.reduceAnd,Nat.reduceBNe,Nat.reduceMul]
 exact hQ _ _ _ _ _ hh
def Un(p:Pw):Prop:=p.off=false/\p.armed=false/\p.fl=0
theorem Un.i(h:Un p):PwI p:=.inl ⟨h.1,h.2.2⟩
theorem Oc(hU:YUp Y){i:Ids}{N1 bd bk:Nat}{M1:FM}(hi:i.D<N1)(hbd:bd<N1/\bd≠i.P/\¬(i.sd<=bd/\bd<=i.D)/\M1 bd=some (.cells [.pointer (some ⟨i.D,0,none⟩)] 0 false true))(hbk:bk<N1/\bk≠i.P/\¬(i.sd<=bk/\bk<=i.D)/\M1 bk=some (.cells [.int .u64 0] 0 false true))(x4 x5 x6 x7 x8 x9 x10 x11:Value)
  (hQ:∀y0 y1 y3 pb M N w dur ps p,N1<=N->Dsk i pb M N dur ps->ps.length=5->nP (dR dur ps)->PwR i.P M p->Un p->(pb=i.sd\/N1<=pb)->(∀b,b<N1->b≠i.P->¬(i.sd<=b/\b<=i.D)->M b=M1 b/\Nat.testBit w b=false)->Q (.exit 0) [y0,y1,y3,.int .i64 5,x4,x5,x6,x7,x8,.pointer (some ⟨bk,0,none⟩),.pointer (some ⟨bd,0,none⟩),x9,x10,x11] M N w):
  ∀(d j:Nat),j+d=5->∀(y0 y1 y3:Value) (pb:Nat) (M:FM) (N w0:Nat) (dur:List Sec) (ps:List Op) (p:Pw),N1<=N->Dsk i pb M N dur ps->ps.length=j->nP (dR dur ps)->PwR i.P M p->Un p->(pb=i.sd\/N1<=pb)->(∀b,b<N1->b≠i.P->¬(i.sd<=b/\b<=i.D)->M b=M1 b/\Nat.testBit w0 b=false)->
  Gv (dt PG EL Y EW [y0,y1,.int .i64 (j:Int),y3,.int .i64 5,x4,x5,x6,x7,x8,.pointer (some ⟨bk,0,none⟩),.pointer (some ⟨bd,0,none⟩),x9,x10,x11] M N) fun X e m n w=>Q X e m n (Nat.lor w0 w):=by
 obtain⟨bd1,bd2,bd2',bd3⟩:=hbd
 obtain⟨bk1,bk2,bk2',bk3⟩:=hbk
 intro d
 induction d with
 |zero=>
  intro j hj y0 y1 y3 pb M N w0 dur ps p hN hD hpl hne hp hun hpb hf
  refine dm (L:=EW) (b:=vw) rfl ?_
  simp only[vw]
  obtain rfl:j=5:=by omega
  simp -implicitDefEqProofs (disch:=omega)only[W2,dd,Nat.testBit,Nat.reduceAdd,Nat.reduceShiftRight,Nat.reduceAnd,Nat.reduceBNe,Nat.reduceMul]
  exact hQ _ _ _ _ _ _ _ _ _ _ hN hD hpl hne hp hun hpb hf
 |succ d ih=>
  intro j hj y0 y1 y3 pb M N w0 dur ps p hN hD hpl hne hp hun hpb hf
  obtain⟨h1,h2,h3,h4,h5,h6,h7,h8,h9⟩:=hD.cc.ok
  have hKN:=hD.cc.KN
  have m2:=(hf bd bd1 bd2 bd2').1.trans bd3
  have m3:=(hf bk bk1 bk2 bk2').1.trans bk3
  refine dm (L:=EW) (b:=vw) rfl ?_
  simp only[vw]
  simp -implicitDefEqProofs (disch:=omega)only[W2,dd,Nat.testBit,Nat.reduceAdd,Nat.reduceShiftRight,Nat.reduceAnd,Nat.reduceBNe,Nat.reduceMul,gj]
  generalize hM2:(AMem.put M N _:FM)=M2
  have l2:∀b,b<N->M2 b=M b:=fun b hb=>by rw[<-hM2,dc _ _ _ _ (by omega)]
  have hD2:=hD.dF (show N<=N+1 by omega) l2
  have hp2:PwR i.P M2 p:=(l2 _ (by omega)).trans hp
  refine dw (lp (f:=26) (cs:=[.pointer (some ⟨bd,0,none⟩),.pointer (some ⟨bk,0,none⟩),.pointer (some ⟨N,0,none⟩)]) hD2 hp2 hun.i (show i.P<N+1 by omega) (IU hU hD2 hp2 hun.i (by omega) (a:=j) (by omega) ⟨by omega,(l2 bd (by omega)).trans m2⟩ ⟨by omega,(l2 bk (by omega)).trans m3⟩ ⟨by omega,by rw[<-hM2];exact de _ _ _⟩)) fun r3 M3 N3 r4 w3 hh=>?_
  have q1:=hh.2.1
  have q2:=hh.2.2.1
  obtain⟨_,_,_,p',hp',hI',⟨rfl,_,_,f1,f2,pb',f3,f4⟩|⟨_,_,f1,_⟩⟩:=hh
  ·have hun':Un p':=⟨f1,f2.trans hun.2.1,by rcases hI' with⟨_,h⟩|⟨h,_⟩;· exact h
                                            ·rw[f1]at h;cases h⟩
   simp -implicitDefEqProofs (disch:=omega)only[W2,dd,Nat.testBit,Nat.reduceAdd,Nat.reduceShiftRight,Nat.reduceAnd,Nat.reduceBNe,Nat.reduceMul]
   refine dM (ih (j+1) (by omega) y0 y1 y3 pb' M3 N3 (Nat.lor w0 (Nat.lor (Nat.lor (bit N) (bit N)) w3)) dur (ps++[Op.er j]) p' (by omega) f4 (by simp[hpl]) (by rw[iS];exact hne.erase j) hp' hun' (by omega) (fun b hb h0 hk=>?_)) fun X e m n w hq=>?_
   ·have hpe:b≠pb:=by omega
    refine⟨by rw[(q2 b (by omega) h0 hk hpe).1,l2 b (by omega),(hf b hb h0 hk).1],?_⟩
    simp only[c9,(hf b hb h0 hk).2,dh (show b≠N by omega),(q2 b (by omega) h0 hk hpe).2];rfl
   ·rw[show Nat.lor w0 (Nat.lor (Nat.lor (Nat.lor (bit N) (bit N)) w3) w)=Nat.lor (Nat.lor w0 (Nat.lor (Nat.lor (bit N) (bit N)) w3)) w from(dy _ _ _).symm]
    exact hq
  ·rcases f1 with f1|f1
   ·rw[hun.1]at f1;cases f1
   ·have:=f1.1;rw[hun.2.1]at this;cases this
def oY:List Sec:=List.replicate 90 .blank
theorem Gj:nP oY:=fun a r h=>by
 rw[oY,List.getElem?_replicate]at h
 split at h
 ·injection h with h;cases h
 ·cases h
theorem u9{R:Int×Value->Sec->Prop}(h:R (0,.slice none 0 0) .blank):ke R im oY:=by
 refine⟨by rw[im,oY,List.length_replicate,List.length_replicate],fun a x s hx hs=>?_⟩
 rw[im,List.getElem?_replicate]at hx
 rw[oY,List.getElem?_replicate]at hs
 by_cases h90:a<90
 ·rw[if_pos h90]at hx hs
  simp only[Option.some.injEq]at hx hs
  subst hx;subst hs;exact h
 ·rw[if_neg h90]at hx;cases hx
def Mx(i:Ids)(M:FM):Prop:=∃b,M i.R=some (.cells [.pointer (some ⟨i.D,0,none⟩),.int .u64 0,.slice (some ⟨i.EN,0,none⟩) 6 UNK,.slice (some ⟨b,0,none⟩) 5 5,.int .u64 0,.int .i64 0] 0 false true)/\i.D<b/\b≠i.R/\b<i.EN
theorem new9(hU:YUp Y){n0 sd md sc mc:Nat}(hP:P<n0)(hPm:PwR P m p)(hun:Un p)(hC:NewC n0 m n sd md sc mc C)(hCD:C<D)(hDn:D<n)(hDm:m D=some (.cells (dkC C P 0 0 0 0 0 0) 0 false true)):
  Rt (df PG EL Y 7 [.pointer (some ⟨D,0,none⟩),.int .u64 0,.int .i64 6] m n) fun r m' n' w=>Nat.testBit w P=true/\(∃(i:Ids) (pb':Nat) (dur':List Sec) (p':Pw),i.P=P/\i.D=D/\i.sd=sd/\n<=i.R/\n<=n'/\r=.tuple #[.pointer (some ⟨i.R,0,none⟩),.int .i64 0]/\PwR P m' p'/\Un p'/\Drv i pb' m' n' dur' [] (ff 6) jo 0/\nP dur'/\Mx i m'/\(∀b,b<n->b≠P->¬(sd<=b/\b<=D)->m' b=m b/\Nat.testBit w b=false)):=by
 obtain⟨c0,c1,c2,c3,c4,c5,c6,c7,c8⟩:=hC
 refine dY (R:=fun r m' n' w=>∃(i:Ids) (pb':Nat) (dur':List Sec) (p':Pw),i.P=P/\i.D=D/\i.sd=sd/\n<=i.R/\n<=n'/\r=.tuple #[.pointer (some ⟨i.R,0,none⟩),.int .i64 0]/\PwR P m' p'/\Un p'/\Drv i pb' m' n' dur' [] (ff 6) jo 0/\nP dur'/\Mx i m'/\(∀b,b<n->b≠P->¬(sd<=b/\b<=D)->m' b=m b/\Nat.testBit w b=false)) e7 rfl (show P<n by omega) fun Q hQ=>?_
 simp only[ac7]
 simp -implicitDefEqProofs (disch:=omega)only[W2,dd,Nat.testBit,Nat.reduceAdd,Nat.reduceShiftRight,Nat.reduceAnd,Nat.reduceBNe,Nat.reduceMul]
 generalize hM1:(AMem.put (AMem.put m n _) (n+1) _:FM)=M1
 have l1:∀b,b<n->M1 b=m b:=fun b hb=>by rw[<-hM1,dc _ _ _ _ (by omega),dc _ _ _ _ (by omega)]
 have p0:M1 n=some (.cells [.pointer (some ⟨D,0,none⟩)] 0 false true):=by rw[<-hM1,dc _ _ _ _ (by omega)];exact de _ _ _
 have p1:M1 (n+1)=some (.cells [.int .u64 0] 0 false true):=by rw[<-hM1];exact de _ _ _
 refine dw (su (C:=C) (P:=P) (seen:=0) (show D<n+2 by omega) ⟨0,0,0,0,0,(l1 D hDn).trans hDm⟩) fun r1 m2 n2 r2 w2 hh=>?_
 obtain⟨q1,q2,q3,R,EN,rfl,e1,e2,e3,e4,e5,e6,e7⟩:=hh
 simp -implicitDefEqProofs (disch:=omega)only[W2,dd,Nat.testBit,Nat.reduceAdd,Nat.reduceShiftRight,Nat.reduceAnd,Nat.reduceBNe,Nat.reduceMul,dH,e5]
 have hal:∀b,b<n->m2 b=m b:=fun b hb=>by rw[q2 b (by omega),l1 b hb]
 have hmN:=c7.mbN
 have hcN:=c7.cbN
 have hmN':=c6.mbN
 have hcN':=c6.cbN
 have hok:Ids.Ok ⟨P,sd,md,sc,mc,C,D,R,EN,n2,sd⟩:=⟨by show P<sd;omega,c1,c2,c3,c4,hCD,by show D<R;omega,e3,e4⟩
 have hDsk:Dsk ⟨P,sd,md,sc,mc,C,D,R,EN,n2,sd⟩ sd m2 n2 oY []:=
  ⟨⟨hok,Nat.le_refl _,.inr rfl,by omega,by show sd<n2;omega,⟨.slice none 0 0,by rw[hal _ (by show C<n;omega)];exact c8,[],⟨rfl,fun a x s hx=>by cases hx⟩,.inl ⟨rfl,rfl⟩⟩,⟨im,c7.frame (by omega) (hal _ hmN) (hal _ hcN),u9 rfl⟩,⟨im,c6.frame (by omega) (hal _ hmN') (hal _ hcN'),u9 rfl⟩⟩,⟨0,0,0,0,0,by rw[hal _ (by show D<n;omega)];exact hDm⟩⟩
 have hp2:PwR P m2 p:=(hal _ (by omega)).trans hPm
 have k0:=(q2 n (by omega)).trans p0
 have k1:=(q2 (n+1) (by omega)).trans p1
 refine dS ((Oc hU (i:=⟨P,sd,md,sc,mc,C,D,R,EN,n2,sd⟩) (N1:=n2) (bd:=n) (bk:=n+1) (M1:=m2) (show D<n2 by omega) ⟨by omega,by show n≠P;omega,by show¬(sd<=n/\n<=D);omega,k0⟩ ⟨by omega,by show n+1≠P;omega,by show¬(sd<=n+1/\n+1<=D);omega,k1⟩ _ _ _ _ _ _ _ _ (fun y0 y1 y3 pb3 M3 N3 w3 dur3 ps3 p3 hN3 hD3 hpl3 hne3 hp3 hun3 hpb3 hf3=>?_) 5 0 (Nat.zero_add _) _ _ _ sd m2 n2 0 oY [] p (Nat.le_refl _) hDsk rfl Gj hp2 hun (.inl rfl) (fun b _ _ _=>⟨rfl,Nat.zero_testBit _⟩)).mono fun X e m' n' w hq=>by simpa only[dx]using hq)
 intro rr
 have hsd:pb3=sd\/n2<=pb3:=hpb3
 have hf3':∀b,b<n2->b≠P->¬(sd<=b/\b<=D)->M3 b=m2 b/\Nat.testBit w3 b=false:=hf3
 have f0:=(hf3' n (by omega) (by omega) (by omega)).1.trans k0
 have f1:=(hf3' (n+1) (by omega) (by omega) (by omega)).1.trans k1
 simp -implicitDefEqProofs (disch:=omega)only[W2,dd,Nat.testBit,Nat.reduceAdd,Nat.reduceShiftRight,Nat.reduceAnd,Nat.reduceBNe,Nat.reduceMul,gj]
 refine dw (lp (f:=28) (cs:=[.pointer (some ⟨n,0,none⟩),.pointer (some ⟨n+1,0,none⟩)]) hD3 hp3 hun3.i (show P<N3 by omega) (IR hU hD3 hp3 hun3.i (by omega) ⟨by omega,f0⟩ ⟨by omega,f1⟩)) fun r5 M5 N5 r6 w5 hh=>?_
 have y1':=hh.2.1
 have y2':Fr P sd D pb3 N3 M3 M5 w5:=hh.2.2.1
 obtain⟨y0',_,_,p',hp',hI',⟨rfl,_,_,g1,g2,pb',g3,g4⟩|⟨_,_,g1,_⟩⟩:=hh
 ·have hun':Un p':=⟨g1,g2.trans hun3.2.1,by rcases hI' with⟨_,h⟩|⟨h,_⟩;· exact h
                                            ·rw[g1]at h;cases h⟩
  have hz0:Nat.testBit w5 P=true:=by
   rcases y0' with k|k
   ·exact k
   ·rw[hun3.1]at k;cases k
  simp -implicitDefEqProofs (disch:=omega)only[W2,dd,Nat.testBit,Nat.reduceAdd,Nat.reduceShiftRight,Nat.reduceAnd,Nat.reduceBNe,Nat.reduceMul]
  have fr:∀b,b<n2->b≠P->¬(sd<=b/\b<=D)->M5 b=m2 b:=fun b hb h0 hk=>by rw[(y2' b (by omega) h0 hk (by omega)).1,(hf3' b hb h0 hk).1]
  refine hQ _ _ _ _ _ (by simp only[c9,hz0];simp) ⟨⟨P,sd,md,sc,mc,C,D,R,EN,n2,sd⟩,pb',dR dur3 ps3,p',rfl,rfl,rfl,by show n<=R;omega,by omega,rfl,hp',hun',⟨g4,⟨.slice (some ⟨R-1,0,none⟩) 5 5,⟨?_,?_,rfl⟩,R-1,5,false,true,rfl,?_,?_,?_,?_,?_,?_⟩,rfl⟩,hne3,⟨R-1,?_,by show D<R-1;omega,by show R-1≠R;omega,by show R-1<EN;omega⟩,fun b hb h0 hk=>⟨?_,?_⟩⟩
  ·show M5 R=_
   rw[fr R (by omega) (by omega) (by omega),e5];rfl
  ·show M5 EN=_
   rw[fr EN (by omega) (by omega) (by omega)];exact e6
  ·exact⟨.inr ⟨by show D<R-1;omega,by show R-1≠R;omega,by show R-1<EN;omega⟩,by show R-1≠sd;omega⟩
  ·omega
  ·omega
  ·rw[fr _ (by omega) (by omega) (by omega)];exact e7
  ·simp[jo]
  ·simp[jo]
  ·show M5 R=_
   rw[fr R (by omega) (by omega) (by omega),e5]
  ·rw[fr b (by omega) h0 hk,hal b hb]
  ·simp only[c9,dh (show b≠n by omega),dh (show b≠n+1 by omega),dK (q3 (n+2) (Nat.le_refl _)) b (by omega),(hf3' b (by omega) h0 hk).2,(y2' b (by omega) h0 hk (by omega)).2];rfl
 ·rcases g1 with g1|g1
  ·rw[hun3.1]at g1;cases g1
  ·have:=g1.1;rw[hun3.2.1]at this;cases this
theorem DrI.new{i:Ids}{K Q:Nat}{dur:List Sec}(h:Drv i pb M N dur [] (ff 6) jo 0)(hne:nP dur)(hN:N<=N')(hf:∀b,i.sd<=b->b<=i.EN->M' b=M b)(hK:i.EN<K)(hKN:K<=N')(hQ:Q<N')(hQb:Q<i.sd\/i.EN<Q)(h5':Mx i M):DrI {i with K:=K,Q:=Q} Fa (fun _=>0) [0,0,0,0,0,0] 0 i.sd M' N':=by
 obtain⟨h1,h2,h3,h4,h5,h6,h7,h8,h9⟩:=h.dsk.cc.ok
 have hKo:=h.dsk.cc.KN
 obtain⟨pv,hst,pcs,hpo,hpv⟩:=h.dsk.cc.st
 have hpc:pcs=[]:=List.length_eq_zero_iff.1 hpo.1
 subst hpc
 have hpv':pv=.slice none 0 0:=by
  rcases hpv with⟨_,h⟩|⟨h,_⟩
  ·exact h
  ·exact absurd h (Nat.lt_irrefl _)
 subst hpv'
 obtain⟨raw1,hm1,hr1⟩:=h.dsk.cc.con
 obtain⟨raw2,hm2,hr2⟩:=h.dsk.cc.dur
 have hs:∀{raw:List (Int×Value)} {xs:List Sec},nP xs->ke (mF i pb M N) raw xs->ke (mF {i with K:=K,Q:=Q} i.sd M' N') raw xs:=fun{raw xs} hx hr=>by
  refine⟨hr.1,fun a x s h1 h2=>?_⟩
  have:=hr.2 a x s h1 h2
  cases s with
  |blank=>exact this
  |dead=>exact this
  |ent r=>exact absurd h2 (hx a r)
 obtain⟨bv,hd,b,c,opn,wr,k1,⟨k2,k2'⟩,k3,k4,k5,k6,k7⟩:=h.r
 obtain⟨b',e1',e2,e3,e4⟩:=h5'
 have e1:bv=.slice (some ⟨b',0,none⟩) 5 5:=by
  have:=hd.r.symm.trans e1'
  injection this with this;injection this with this;injection this with _ this;injection this with _ this;injection this with _ this;injection this with this _
 have hbb:b=b'/\c=5:=by
  rw[e1]at k1
  injection k1 with k1 _ k1'
  injection k1 with k1
  injection k1 with k1
  exact⟨k1.symm,k1'.symm⟩
 obtain⟨rfl,rfl⟩:=hbb
 have fC:=hf i.C (by omega) (by omega)
 have fD:=hf i.D (by omega) (by omega)
 have fR:=hf i.R (by omega) (by omega)
 have fE:=hf i.EN (by omega) (by omega)
 have fmc:=hf i.mc (by omega) (by omega)
 have fsc:=hf i.sc (by omega) (by omega)
 have fmd:=hf i.md (by omega) (by omega)
 have fsd:=hf i.sd (by omega) (by omega)
 have fb:=hf b (by omega) (by omega)
 have hsdN:i.sd<N':=by omega
 have hbQ:b≠Q:=by omega
 have hbs':b≠i.sd:=by omega
 have hbN:b<N':=by omega
 refine⟨dur,[],ff 6,jo,0,⟨⟨⟨⟨⟨h1,h2,h3,h4,h5,h6,h7,h8,hK⟩,hKN,.inr rfl,hsdN,hQ,⟨.slice none 0 0,fC.trans hst,[],⟨rfl,fun a x s hx=>by cases hx⟩,.inl ⟨rfl,rfl⟩⟩,⟨raw1,hm1.frame hN fmc fsc,hs hne hr1⟩,⟨raw2,hm2.frame hN fmd fsd,hs hne hr2⟩⟩,h.dsk.dk.far fD⟩,⟨_,hd.dF fR fE,b,5,opn,wr,e1,⟨.inr ⟨e2,e3,e4⟩,hbQ⟩,hbs',hbN,fb.trans k5,k6,k7⟩,rfl⟩,?_,fun k hk hv=>?_,fun q hq u hu1 hu2 r hr=>hne _ r hr,fun k=>?_,rfl⟩,rfl,fun k hk=>Nat.zero_le _,by decide,Nat.le_refl _,by simp⟩
 ·refine⟨rfl,fun x hx=>?_,fun b hb=>?_,fun p q hp hq hu=>?_,fun k hk hv=>?_⟩
  ·rw[List.eq_of_mem_replicate hx];decide
  ·have:jo[b]=⟨0,0,0,0⟩:=List.getElem_replicate ..
   rw[this]
   rfl
  ·have:jo[p]=⟨0,0,0,0⟩:=List.getElem_replicate ..
   rw[this]at hu
   exact absurd hu (Nat.lt_irrefl _)
  ·have:(ff 6)[k]=⟨0,0,0⟩:=List.getElem_replicate ..
   rw[this]at hv
   exact absurd rfl hv
 ·have:(ff 6)[k]=⟨0,0,0⟩:=List.getElem_replicate ..
  rw[this]at hv
  exact absurd rfl hv
 ·rw[List.take_nil]
  exact⟨fun a r h=>absurd h (hne a r),fun b _=>.inl rfl⟩
end Go.Am.CD
namespace Go.Am.CD
set_option maxRecDepth 1000000
open Go Go.Am Go.RowKit
variable{d W B n:Nat}{w w1 w':World}{v:Value}{tmps:Array Value}{e:List Value}{m':FM}{rest:List Nat}
def qy:AC:=
(.post (.seq (.reg [.op (.bin .lss 3 (.v 0) (.v 2))])
(.seq (.cond (.v 0) .skip
(.pre [] 2 (.exit 0)))
(.seq (.block 1 [[42],[41],[],[40],[39],[30,10],[29,9],[26],[24,8,25,36],[7],[6],[3],[0],[1,31,32],[2]] (.post (.seq (.reg [.nop 1,
 .op (.idx 1 (.v 4) (.v 1)),
 .op (.ld1 (.v 0)),
 .nop 3,
 .nop 0])
(.seq (.seq (.reg [.nop 0,
 .op (.bin .eql 99 (.v 0) (.c (.slice none 0 0)))])
(.cond (.v 0) (.pre [] 3 (.exit 1))
.skip))
(.seq (.reg [.nop 9,
 .nop 4,
 .nop 11,
 .op (.bin .quo 3 (.v 4) (.v 11)),
 .op (.idx 4 (.v 10) (.v 0)),
 .nop 0])
(.seq (.reg [.nop 0,
 .nop 6,
 .nop 13,
 .op (.bin .rem 3 (.v 6) (.v 13)),
 .op (.bin .add 3 (.v 0) (.c (.int .i64 1))),
 .op (.nilck (.v 2)),
 .op (.fld 0 (.v 0)),
 .eff (.st 1 (.v 0) (.v 2))])
(.seq (.reg [.nop 7,
 .op (.call 78 [(.v 7)]),
 .nop 0,
 .op (.extr 0 (.v 0)),
 .op (.extr 1 (.v 1)),
 .op (.extr 2 (.v 2)),
 .op (.new [(.int .i64 0),(.int .i64 0),(.int .u64 0),(.int .u8 0),(.int .u8 0),(.int .u8 0),(.int .u8 0),(.int .u8 0),(.int .u8 0),(.int .u8 0),(.int .u8 0)]),
 .eff (.st 11 (.v 0) (.v 3)),
 .nop 2,
 .nop 1])
(.seq (.seq (.reg [.nop 1,
 .op (.bin .neq 33 (.v 1) (.c (.int .i64 0))),
 .nop 0,
 .opg (.fld 1 (.v 1)) 0 false,
 .opg (.ld1 (.v 0)) 1 false,
 .opg (.mov (.v 31)) 2 false,
 .opg (.bin .geq 3 (.v 1) (.v 0)) 3 false,
 .op (.pick (.v 4) (.c (.bool true)) (.v 0))])
(.cond (.v 0) (.pre [] 20 (.exit 1))
.skip))
(.seq (.reg [.nop 15,
 .nop 15,
 .op (.nilck (.v 15)),
 .op (.fld 2 (.v 0)),
 .op (.ld1 (.v 0)),
 .nop 11,
 .op (.mx (.v 0) (.v 11)),
 .op (.nilck (.v 19)),
 .op (.fld 2 (.v 0)),
 .eff (.st 1 (.v 0) (.v 2))])
(.seq (.reg [.op (.ldn 11 (.v 12)),
 .op (.fld 0 (.v 38)),
 .op (.ld1 (.v 0)),
 .nop 30,
 .op (.bin .add 3 (.v 0) (.v 30)),
 .op (.build [(.int .i64 0),(.int .i64 0),(.int .u64 0),(.int .u8 0),(.int .u8 0),(.int .u8 0),(.int .u8 0),(.int .u8 0),(.int .u8 0),(.int .u8 0),(.int .u8 0),(.int .i64 0)] [(0,11,(.v 3)),(11,1,(.v 0))]),
 .nop 19,
 .op (.build [(.int .i64 0),(.int .i64 0),(.int .u64 0),(.int .u8 0),(.int .u8 0),(.int .u8 0),(.int .u8 0),(.int .u8 0),(.int .u8 0),(.int .u8 0),(.int .u8 0),(.int .i64 0),(.int .u64 0)] [(0,12,(.v 0)),(12,1,(.v 19))]),
 .op (.new [(.int .i64 0),(.int .i64 0),(.int .u64 0),(.int .u8 0),(.int .u8 0),(.int .u8 0),(.int .u8 0),(.int .u8 0),(.int .u8 0),(.int .u8 0),(.int .u8 0),(.int .i64 0),(.int .u64 0)]),
 .eff (.st 13 (.v 0) (.v 1))])
(.seq (.reg [.nop 38,
 .op (.fld 1 (.v 19)),
 .op (.ld1 (.v 0)),
 .op (.mp (.look 3 (.agg #[(.int .i64 0),(.int .i64 0),(.int .u64 0),(.int .u8 0),(.int .u8 0),(.int .u8 0),(.int .u8 0),(.int .u8 0),(.int .u8 0),(.int .u8 0),(.int .u8 0),(.int .i64 0),(.int .u64 0)]) true) [(.v 40),(.v 0)]),
 .nop 0,
 .op (.extr 0 (.v 0)),
 .op (.extr 1 (.v 1)),
 .op (.new [(.int .i64 0),(.int .i64 0),(.int .u64 0),(.int .u8 0),(.int .u8 0),(.int .u8 0),(.int .u8 0),(.int .u8 0),(.int .u8 0),(.int .u8 0),(.int .u8 0),(.int .i64 0),(.int .u64 0)]),
 .eff (.st 13 (.v 0) (.v 2)),
 .nop 1])
(.seq (.reg [.nop 1,
 .op (.una .not (.v 1)),
 .nop 0,
 .opg (.ldn 13 (.v 7)) 0 false,
 .opg (.ldn 13 (.v 2)) 1 false,
 .opg (.call 79 [(.v 1),(.v 0)]) 2 false,
 .op (.pick (.v 3) (.c (.bool true)) (.v 0))])
(.cond (.v 0) (.post (.reg [.nop 49,
 .op (.fld 1 (.v 30)),
 .op (.ld1 (.v 0)),
 .op (.ldn 13 (.v 13)),
 .eff (.mp (.upd 3) [(.v 52),(.v 1),(.v 0)])]) [] 3)
.skip))))))))))) [] 44))
(.reg [.op (.bin .add 3 (.v 1) (.c (.int .i64 1))),
 .nop 0])))) [0] 3)
def vz:AC:=.loop [[41],[],[40],[39],[30,10],[29,9],[26],[24,8,25,36],[7],[6],[3],[0],[1,31,32],[2]] qy
def xQ:AC:=
(.seq (.reg [.op (.box (.v 0)),
 .op (.mov (.c (.slice none 0 0))),
 .op (.mov (.c (.slice none 0 0)))])
(.seq (.post (.reg [.op (.ldn 5 (.v 2)),
 .op (.call 57 [(.v 0)]),
 .nop 0]) [0] 2)
(.seq (.seq (.reg [.nop 0,
 .op (.bin .eql 3 (.v 0) (.c (.int .i64 0)))])
(.cond (.v 0) (.seq (.reg [.op (.mov (.c (.slice none 0 0))),
 .op (.mov (.c (.slice none 0 0)))])
(.ret [.v 1,.v 0]))
.skip))
(.seq (.post (.reg [.op (.fld 1 (.v 4)),
 .op (.ld1 (.v 0)),
 .op (.make 4 32 [(.int .i64 0),(.int .i64 0),(.int .u64 0),(.int .u64 0)] (.v 0) (.v 0)),
 .nop 0]) [0] 3)
(.seq (.reg [.op (.mp .mk []),
 .nop 0])
(.seq (.seq (.post (.reg [.nop 8,
 .nop 8,
 .op (.len false (.v 8)),
 .op (.fld 1 (.v 7)),
 .op (.ld1 (.v 0)),
 .nop 6,
 .op (.bin .mul 3 (.v 0) (.v 6)),
 .op (.pur .min [(.v 3),(.v 0)]),
 .op (.slc 1 (.v 13) none (some (.v 0))),
 .op (.len false (.v 0)),
 .op (.mov (.c (.int .i64 0)))]) [0,1,2] 8)
(.block 0 [[],[40],[39],[30,10],[29,9],[26],[24,8,25,36],[7],[6],[3],[0],[1,31,32],[2]] (.pre [0] 0 vz)))
(.reg [.op (.mov (.c (.slice none 0 0)))])))))))
def sO:AC:=
(.post (.seq (.reg [.nop 2,
 .op (.fld 0 (.v 0)),
 .op (.ldn 12 (.v 0)),
 .op (.mkl 12 1 [(.int .i64 0),(.int .i64 0),(.int .u64 0),(.int .u8 0),(.int .u8 0),(.int .u8 0),(.int .u8 0),(.int .u8 0),(.int .u8 0),(.int .u8 0),(.int .u8 0),(.int .i64 0)] [(0,(.v 0))]),
 .op (.app 12 40 (.v 5) (.v 0)),
 .nop 0])
(.reg [.nop 11,
 .op (.fld 0 (.v 4)),
 .op (.fld 11 (.v 0)),
 .op (.ld1 (.v 0)),
 .op (.fld 0 (.v 19)),
 .op (.ld1 (.v 0)),
 .op (.bin .sub 3 (.v 2) (.v 0)),
 .nop 19,
 .op (.bin .quo 3 (.v 0) (.v 19)),
 .op (.idx 4 (.v 18) (.v 0)),
 .op (.fld 1 (.v 0)),
 .op (.ld1 (.v 0)),
 .op (.bin .add 3 (.v 0) (.c (.int .i64 1))),
 .op (.idx 4 (.v 22) (.v 4)),
 .op (.fld 1 (.v 0)),
 .eff (.st 1 (.v 0) (.v 2))])) [13] 20)
def BJ:AC:=
(.seq (.post (.reg [.nop 0,
 .op (.call 80 [(.v 0),(.c (.func (.func 81) #[] #[]))])]) [] 1)
(.seq (.reg [.nop 0,
 .nop 5,
 .nop 0,
 .nop 5])
(.ret [.v 0,.v 5])))
def yu:List AI:=[.op (.new [(.int .i64 0),(.int .i64 0),(.int .u64 0),(.int .u8 0),(.int .u8 0),(.int .u8 0),(.int .u8 0),(.int .u8 0),(.int .u8 0),(.int .u8 0),(.int .u8 0),(.int .i64 0),(.int .u64 0)]),.eff (.st 13 (.v 0) (.v 1))]
def GeS:Ctx:=[[20],[],[40],[39],[30,10],[29,9],[26],[24,8,25,36],[7],[6],[3],[0],[1,31,32],[2]]
def GfS:Ctx:=GeS++[[111]]
def wh:Nat->Code->Code
 |0,.seq a _=>a
 |N+1,.seq a b=>.seq a (wh N b)
 |_,c=>c
def Il:Nat->Code->Code
 |0,.seq _ b=>b
 |N+1,.seq _ b=>Il N b
 |_,c=>c
def GM:Nat->AC->Code->Bool
 |0,_,.seq _ _=>true
 |N+1,.seq _ z,.seq _ b=>GM N z b
 |_,_,_=>false
def oK(ops:Array Oper)(i d:Nat)(op:Go.Op):Prop:=∃o,ops[i]?=some o/\o.dst=some d/\o.op=op/\o.guard=none
def okB:Option (Option Ctx)->Bool
 |some (some G)=>leC GfS G
 |_=>false
noncomputable def sB:Code:=Proofs.Tryz.f40.body.getD .skip
theorem chkA:GM 6 xQ sB=true/\chk PG 140 Proofs.Tryz.f40.results [] (yU 3) (wh 6 sB) xQ=some (some GeS):=⟨by kernel_rfl,by kernel_rfl⟩
theorem NV:∃i1 o1 i2 o2 i3 o3 cB cC,Il 6 sB=.seq (.seq (.region i1 o1 false) (.block 2 (.loop (.seq (.region i2 o2 false) (.seq (.cond (.tmp 113) .skip (.exit 2)) (.block 3 (.seq (.region i3 o3 false) cB)))))) ) cC/\
  o1.size=2/\oK o1 0 110 (.move (.tmp 10))/\oK o1 1 111 (.range 159 (.tmp 110))/\o2.size=2/\oK o2 0 112 (.next (.tmp 111) false)/\oK o2 1 113 (.extract (.tmp 112) 0)/\
  o3.size=4/\oK o3 0 114 (.entry (.tmp 111))/\oK o3 1 115 (.extract (.tmp 114) 1)/\j4 PG 140 o3 (o3.toList.drop 2) ([115]::GfS) yu=some ([22]::[115]::GfS)/\
  okB (chk PG 140 Proofs.Tryz.f40.results [] ([22]::[115]::GfS) cB sO)=true/\chk PG 140 Proofs.Tryz.f40.results [] GfS cC BJ=some none:=
 ⟨_,_,_,_,_,_,_,_,rfl,rfl,⟨_,rfl,rfl,rfl,rfl⟩,⟨_,rfl,rfl,rfl,rfl⟩,rfl,⟨_,rfl,rfl,rfl,rfl⟩,⟨_,rfl,rfl,rfl,rfl⟩,rfl,⟨_,rfl,rfl,rfl,rfl⟩,⟨_,rfl,rfl,rfl,rfl⟩,by kernel_rfl,by kernel_rfl,by kernel_rfl⟩
section
variable{P:Program}{E:Nat->Option AFn}{Y:Nat->List Value->FM->Nat->OR FM}
theorem Fs{nt:Nat}{res:Array ResultVar}(hY:ew Y)(hC:∀k,kK FM P E Y k):∀(N k:Nat) (x:AC) (c:Code) (Γ Γe:Ctx) (e:List Value) (m:FM) (n:Nat) (e':List Value) (m':FM) (n' r wm:Nat),GM N x c=true->chk P nt res [] Γ (wh N c) x=some (some Γe)->exec P E Y k x e m n=.ok .norm e' m' n' r wm->
  ∀(ρ:Ren) (V:Nat->Option Blk) (w:World) (B F:Nat) (a:Act),a.defers=[]->a.tmps.size=nt->dI ρ Γ e a.tmps->Sub (Nat.lor r wm) F->eI V m n F->MRel ρ V w B->gI ρ n->
  ∀Q,(∀a' w' ρ',a'.defers=[]->a'.tmps.size=nt->Post ρ V w B n m' n' wm ρ' w'->dI ρ' Γe e' a'.tmps->(Il N c).wp P Q a' w')->c.wp P Q a w:=by
 intro N
 induction N with
 |zero=>
  intro k x c Γ Γe e m n e' m' n' r wm hsp hchk h ρ V w B F a hd hs he hF hag hm hfree Q hk
  cases c<;>simp[GM]at hsp
  rename_i c1 c2
  refine wp_seq (wp_mono (hC k nt res x c1 [] Γ _ e m n .norm e' m' n' r wm hchk h ρ V w B F a hd hs he hF hag hm hfree) fun ex a' w' hq=>?_)
  obtain⟨ρ',g1,g2,g3,rfl,Γ',g5,g6⟩:=hq
  injection g5 with g5
  subst g5
  exact hk a' w' ρ' g1 g2 g3 g6
 |succ N ih=>
  intro k x c Γ Γe e m n e' m' n' r wm hsp hchk h ρ V w B F a hd hs he hF hag hm hfree Q hk
  cases x<;>cases c<;>simp[GM]at hsp
  rename_i y z c1 c2
  rw[show wh (N+1) (.seq c1 c2)=.seq c1 (wh N c2)from rfl]at hchk
  simp[chk]at hchk
  cases k with
  |zero=>cases h
  |succ k=>
  obtain⟨X1,e1,m1,n1,r1,w1,h1,h2⟩:=fj h
  cases hc:chk P nt res [] Γ c1 y with
  |none=>rw[hc]at hchk;cases hchk
  |some Γ1=>
   rw[hc]at hchk
   cases Γ1 with
   |none=>cases hchk
   |some Γ1=>
    replace hchk:chk P nt res [] Γ1 (wh N c2) z=some (some Γe):=hchk
    rcases jF h2 with⟨rfl,r2,w2,h3,rfl,rfl⟩|⟨hne,e0,_⟩
    ·have l1:=fO (P:=P) (E:=E) (Y:=Y) hY k _ _ _ _ _ _ _ _ _ _ h1
     have l2:=fO (P:=P) (E:=E) (Y:=Y) hY k _ _ _ _ _ _ _ _ _ _ h3
     refine wp_seq (wp_mono (hC k nt res y c1 [] Γ _ e m n .norm e1 m1 n1 r1 w1 hc h1 ρ V w B F a hd hs he (Sub.trans (Sub.lor (Sub.trans (Sub.left r1 r2) (Sub.left _ _)) (Sub.trans (Sub.left w1 w2) (Sub.right _ _))) hF) hag hm hfree) fun ex a' w' hq=>?_)
     obtain⟨ρ',g1,g2,g3,rfl,Γ',g5,g6⟩:=hq
     injection g5 with g5
     subst g5
     refine ih k z c2 Γ1 Γe e1 m1 n1 e' m' n' r2 w2 hsp hchk h3 ρ' (upd V w1 m1) w' B F a' g1 g2 g6 (Sub.trans (Sub.lor (Sub.trans (Sub.right r1 r2) (Sub.left _ _)) (Sub.trans (Sub.right w1 w2) (Sub.right _ _))) hF) (hag.step l1) g3.mrel (hfree.next g3) Q fun a2 w2' ρ2 q1 q2 q3 q4=>?_
     exact hk a2 w2' ρ2 q1 q2 (g3.trans q3 l2) q4
    ·exact absurd e0.symm hne
theorem mg{ρ:Ren}{Γ:Ctx}(h:dI ρ Γ e tmps){d:Nat}(hd:Γ.all (fun l=>!l.contains d)=true)(v:Value):dI ρ Γ e (tmps.setIfInBounds d v):=by
 intro i t hn
 obtain⟨x,y,h1,h2,h3⟩:=h i t hn
 refine⟨x,y,h1,?_,h3⟩
 obtain⟨l,g1,g2⟩:=eu.1 hn
 rw[List.all_eq_true]at hd
 have:=hd l (List.mem_of_getElem? g1)
 have hne:d≠t:=by
  rintro rfl
  simp[g2]at this
 rw[Array.getElem?_setIfInBounds_ne hne]
 exact h2
theorem Lo{ρ:Ren}{Γ:Ctx}(h:dI ρ Γ e tmps){d:Nat}(hd:Γ.all (fun l=>!l.contains d)=true){v':Value}(hv:VRel ρ v v')(hl:e.length=Γ.length)(hs:d<tmps.size):dI ρ (Γ++[[d]]) (e++[v]) (tmps.setIfInBounds d v'):=by
 intro i t hn
 obtain⟨l,g1,g2⟩:=eu.1 hn
 by_cases hi:i<Γ.length
 ·rw[List.getElem?_append_left hi]at g1
  obtain⟨x,y,h1,h2,h3⟩:=mg h hd v' i t (eu.2 ⟨l,g1,g2⟩)
  exact⟨x,y,by rw[List.getElem?_append_left (by omega)];exact h1,h2,h3⟩
 ·rw[List.getElem?_append_right (by omega)]at g1
  have hi2:i=Γ.length:=by
   have:=(List.getElem?_eq_some_iff.1 g1).1
   simp at this;omega
  subst hi2
  simp at g1
  subst g1
  simp at g2
  subst g2
  exact⟨v,v',by rw[List.getElem?_append_right (by omega)];simp[hl],by simp[hs],hv⟩
theorem Post.side{ρ ρ':Ren}{V:Nat->Option Blk}{w2:World}{n':Nat}(h:Post ρ V w B n m' n' W ρ' w1)(hB:B<=w.heap.size)(hb:Below w.heap.size w1 w2)(hs:∀b p O,ρ' b=some p->upd V W m' b=some O->w2.heap[p.blk]?=w1.heap[p.blk]?):Post ρ V w B n m' n' W ρ' w2 where
 le:=h.le
 dom:=h.dom
 mrel:=⟨fun b p O hp hV=>(h.mrel.blk b p O hp hV).mono ρ'.le_refl (hs b p O hp hV),h.mrel.excl,fun b p hp=>Nat.lt_of_lt_of_le (h.mrel.fresh b p hp) hb.size,Nat.le_trans h.mrel.le hb.size,h.mrel.gl.mono (hb.mono hB)⟩
 below:=h.below.trans (hb.mono hB)
 num:=h.num
 frame:=fun k hk hn=>(hb.block k hk).trans (h.frame k hk hn)
 newp:=h.newp
 wold:=h.wold
theorem oG{ops:Array Oper}{Q:Exit->Act->World->Prop}{i:Nat}{a:Act}{w':World}{op:Go.Op}{v:Value}(h:oK ops i d op)(hrun:∀o:Oper,o.op=op->(execOp a.eval o).run P w=.ok (.value v) w')(hk:wpOps P ops Q rest (a.put (some d) v) w'):wpOps P ops Q (i::rest) a w:=by
 obtain⟨o,h1,h2,h3,h4⟩:=h
 simp only[wpOps,h1]
 have hw:Region.wanted o (yielded ops a.tmps)=true:=by simp[Region.wanted,h4]
 rw[if_pos hw]
 left
 unfold Oper.wp
 rw[hrun o h3,Oper.upon_value,h2]
 exact hk
theorem NI{ops:Array Oper}{Q:Exit->Act->World->Prop}{i:Nat}{a:Act}{w':World}{o:Oper}{v:Value}(h1:ops[i]?=some o)(h2:o.dst=some d)(h4:o.guard=none)(hrun:(execOp a.eval o).run P w=.ok (.value v) w')(hk:wpOps P ops Q rest (a.put (some d) v) w'):wpOps P ops Q (i::rest) a w:=by
 simp only[wpOps,h1]
 have hw:Region.wanted o (yielded ops a.tmps)=true:=by simp[Region.wanted,h4]
 rw[if_pos hw]
 left
 unfold Oper.wp
 rw[hrun,Oper.upon_value,h2]
 exact hk
theorem uG{α:Type}(f:α->Nat):∀{Z:List α} {p:α->Bool} {z:α},(Z.map f).Nodup->z∈Z->p z=true->(Z.filter p).Perm (z::Z.filter fun y=>p y&&!(f y==f z))
 |[],_,_,_,h,_=>by simp at h
 |y::Z,p,z,hn,hz,hp=>by
  rw[List.map_cons,List.nodup_cons]at hn
  rcases List.mem_cons.1 hz with rfl|hz
  ·have e:Z.filter (fun y=>p y&&!(f y==f z))=Z.filter p:=by
    refine List.filter_congr fun y hy=>?_
    have:¬f y=f z:=fun h=>hn.1 (h▸List.mem_map_of_mem hy)
    simp[this]
   rw[List.filter_cons_of_pos hp,List.filter_cons_of_neg (by simp),e]
  ·have ih:=uG f hn.2 hz hp
   have hne:¬f y=f z:=fun h=>hn.1 (h▸List.mem_map_of_mem hz)
   cases hy:p y
   ·rw[List.filter_cons_of_neg (by simp[hy]),List.filter_cons_of_neg (by simp[hy])]
    exact ih
   ·rw[List.filter_cons_of_pos hy,List.filter_cons_of_pos (by simp[hy,hne])]
    exact(ih.cons y).trans (List.Perm.swap z y _)
theorem Post.dF{ρ ρ1:Ren}{V:Nat->Option Blk}{m1 m':FM}{n1 W':Nat}(hp:Post ρ V w B n m1 n1 W ρ1 w1)(hm:MRel ρ V w B)(hfree:gI ρ n)(bl:List Nat)
  (hget:∀i b,bl[i]?=some b->n<=b/\W.testBit b=true/\∃c z o,m1 b=some (.cells c z o true)/\c.all flat=true/\m' (n+i)=some (.cells c z o true)) (hnd:bl.Nodup) (hw:Nat.mod W (bit n)=0) (hW':∀b,W'.testBit b=(decide (n<=b)&&decide (b<n+bl.length))):
  Post ρ V w B n m' (n+bl.length) W' (fun b=>if n<=b/\b<n+bl.length then ρ1 (bl.getD (b-n) 0)else ρ b) w1:=by
 have hwb:=dK hw
 have old:∀{b p},ρ b=some p->b<n:=fun{b p} h=>by
  rcases Nat.lt_or_ge b n with h1|h1
  ·exact h1
  ·rw[hfree b h1]at h;cases h
 have nil:∀b p,ρ b=some p->W.testBit b=true->False:=fun b p h1 h2=>by rw[hwb b (old h1)]at h2;cases h2
 have same:∀k,k<w.heap.size->w1.heap[k]?=w.heap[k]?:=fun k hk=>hp.frame k hk fun b p h1 h2=>(nil b p h1 h2).elim
 have inb:∀b,n<=b->b<n+bl.length->∃b',bl[b-n]?=some b'/\bl.getD (b-n) 0=b':=fun b h1 h2=>⟨bl[b-n],List.getElem?_eq_getElem (by omega),by rw[List.getD_eq_getElem?_getD,List.getElem?_eq_getElem (by omega)];rfl⟩
 have fresh:∀b p,n<=b->ρ1 b=some p->w.heap.size<=p.blk:=fun b p h1 h2=>by
  rcases hp.newp b p h2 with h|h|⟨b0,p0,h3,h4,_⟩
  ·exact absurd (old h) (by omega)
  ·exact h
  ·exact(nil b0 p0 h3 h4).elim
 have hle:Ren.le ρ (fun b=>if n<=b/\b<n+bl.length then ρ1 (bl.getD (b-n) 0)else ρ b):=fun b p h=>by
  have:=old h
  show(if n<=b/\b<n+bl.length then ρ1 (bl.getD (b-n) 0)else ρ b)=some p
  rw[if_neg (by omega)];exact h
 refine⟨hle,fun b p h=>?_,⟨fun b p O h1 h2=>?_,fun b1 b2 p1 p2 O1 O2 h1 h2 h3 h4 hne hwr=>?_,fun b p h=>?_,hp.mrel.le,hp.mrel.gl⟩,hp.below,by omega,fun k hk _=>same k hk,fun b p h=>?_,fun b h=>?_⟩
 ·by_cases hc:n<=b/\b<n+bl.length
  ·exact .inr hc
  ·simp only[hc,if_false]at h;exact .inl h
 ·unfold upd at h2
  by_cases hc:n<=b/\b<n+bl.length
  ·simp only[hc,and_self,if_true]at h1
   rw[hW',decide_eq_true hc.1,decide_eq_true hc.2]at h2
   simp only[Bool.and_self,if_true]at h2
   obtain⟨b',q1,q2⟩:=inb b hc.1 hc.2
   rw[q2]at h1
   obtain⟨g1,g2,c,z,o,g3,g4,g5⟩:=hget _ _ q1
   rw[show n+(b-n)=b by omega]at g5
   have:O=.cells c z o true:=by
    have h2:m' b=some O:=h2
    rw[g5]at h2;injection h2 with h2;exact h2.symm
   subst this
   have hb:=hp.mrel.blk b' p (.cells c z o true) h1 (by unfold upd;rw[g2,if_pos rfl];exact g3)
   obtain⟨a1,cc,e,fz,a2,a3,a4⟩:=hb
   refine⟨a1,cc,e,fz,a2,fun i x hx=>?_,a4⟩
   obtain⟨y,y1,y2⟩:=a3 i x hx
   have hf:=List.all_eq_true.1 g4 x (List.mem_of_getElem? hx)
   rw[y2.dN hf]at y1
   exact⟨x,y1,.flat hf⟩
  ·simp only[hc,if_false]at h1
   have hW:W'.testBit b=false:=by rw[hW'];simpa using hc
   rw[hW]at h2
   simp only[Bool.false_eq_true,if_false]at h2
   exact(hm.blk b p O h1 h2).mono hle (same _ (hm.fresh b p h1))
 ·unfold upd at h3 h4
  by_cases c1:n<=b1/\b1<n+bl.length<;>by_cases c2:n<=b2/\b2<n+bl.length
  ·simp only[c1,and_self,if_true]at h1
   simp only[c2,and_self,if_true]at h2
   rw[hW',decide_eq_true c1.1,decide_eq_true c1.2]at h3
   rw[hW',decide_eq_true c2.1,decide_eq_true c2.2]at h4
   simp only[Bool.and_self,if_true]at h3 h4
   obtain⟨x1,q1,q2⟩:=inb b1 c1.1 c1.2
   obtain⟨x2,q3,q4⟩:=inb b2 c2.1 c2.2
   rw[q2]at h1
   rw[q4]at h2
   obtain⟨g1,g2,c,z,o,g3,g4,g5⟩:=hget _ _ q1
   obtain⟨g1',g2',c',z',o',g3',g4',g5'⟩:=hget _ _ q3
   refine hp.mrel.excl x1 x2 p1 p2 _ _ h1 h2 (by unfold upd;rw[g2,if_pos rfl];exact g3) (by unfold upd;rw[g2',if_pos rfl];exact g3') (fun hx=>?_) rfl
   subst hx
   have hl1:=(List.getElem?_eq_some_iff.1 q1).1
   have:=(List.getElem?_inj hl1 hnd).1 (q1.trans q3.symm)
   omega
  ·simp only[c1,and_self,if_true]at h1
   simp only[c2,if_false]at h2
   obtain⟨x1,q1,q2⟩:=inb b1 c1.1 c1.2
   rw[q2]at h1
   have:=fresh x1 p1 (hget _ _ q1).1 h1
   have:=hm.fresh b2 p2 h2
   omega
  ·simp only[c1,if_false]at h1
   simp only[c2,and_self,if_true]at h2
   obtain⟨x2,q1,q2⟩:=inb b2 c2.1 c2.2
   rw[q2]at h2
   have:=fresh x2 p2 (hget _ _ q1).1 h2
   have:=hm.fresh b1 p1 h1
   omega
  ·simp only[c1,if_false]at h1
   simp only[c2,if_false]at h2
   have hW1:W'.testBit b1=false:=by rw[hW'];simpa using c1
   have hW2:W'.testBit b2=false:=by rw[hW'];simpa using c2
   rw[hW1]at h3
   rw[hW2]at h4
   exact hm.excl b1 b2 p1 p2 O1 O2 h1 h2 (by simpa using h3) (by simpa using h4) hne hwr
 ·by_cases hc:n<=b/\b<n+bl.length
  ·simp only[hc,and_self,if_true]at h
   exact hp.mrel.fresh _ p h
  ·simp only[hc,if_false]at h
   exact Nat.lt_of_lt_of_le (hm.fresh b p h) hp.below.size
 ·by_cases hc:n<=b/\b<n+bl.length
  ·simp only[hc,and_self,if_true]at h
   obtain⟨x1,q1,q2⟩:=inb b hc.1 hc.2
   rw[q2]at h
   exact .inr (.inl (fresh x1 p (hget _ _ q1).1 h))
  ·simp only[hc,if_false]at h
   exact .inl h
 ·rw[hW',Bool.and_eq_true,decide_eq_true_eq,decide_eq_true_eq]at h
  obtain⟨x1,q1,q2⟩:=inb b h.1 h.2
  obtain⟨⟨p,hpp⟩,_⟩:=hp.wold x1 (hget _ _ q1).2.1
  exact⟨⟨p,by rw[if_pos h,q2];exact hpp⟩,fun hlt=>absurd hlt (by omega)⟩
end
end Go.Am.CD
