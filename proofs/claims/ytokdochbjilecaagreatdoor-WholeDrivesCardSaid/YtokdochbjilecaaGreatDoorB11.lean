/- The machine and its runs, part 11: AyMb AyMc AyMd AyMe AyMf AyMg AyMh. -/
import Derived.Test.YtokdochbjilecaaGreatDoorB10
set_option linter.unusedVariables false
set_option linter.unusedSimpArgs false
set_option linter.unusedSectionVars false
namespace Go.Am.CD
set_option maxRecDepth 100000
open Go Go.Am
variable{E:Nat->Option AFn}{Y:Nat->List Value->FM->Nat->OR FM}
variable{n pb seen a N P N' C D ba n' w mb b bd cb f bb sz h n1 w1:Nat}{m M M' m' m1:FM}{i:Ids}{ps ps':List Op}{v r pv:Value}{xs dur':List Sec}{cs:List Value}{p:Op}{rc:Rec}
theorem nm(a:Addr):ji PG .eql 74 (.pointer (some a)) (.pointer none)=some (.bool false):=by
 rw[jY (by kernel_rfl)];rfl
theorem HD(a:Addr):ji PG .neq 74 (.pointer (some a)) (.pointer none)=some (.bool true):=by
 show cond (jm PG 74) (kY .neq false) none=_
 rw[show jm PG 74=true by kernel_rfl];rfl
theorem NX{xs:List (Int×Value)}(h:Med m n mb cb xs){len:Nat}{bs:List Value}(hba:ba<n)(hbb:bb<n)(hma:m ba=some (.cells [.int .i64 (a:Int)] 0 false true))(hmb:m bb=some (.cells [v] 0 false true))(ha:a<90)(hv:Sh 1 m n v len bs)(hone:bs.all Am.one=true)(hl:len<=64):
  Rt (df PG EL Y 201 [.pointer (some ⟨mb,0,none⟩),.pointer (some ⟨ba,0,none⟩),.pointer (some ⟨bb,0,none⟩)] m n) fun r m' n' w=>Nat.testBit w cb=true/\(n<=n'/\(∀b,b<n->b≠cb->m' b=m b/\Nat.testBit w b=false)/\r=.int .i64 0/\∃v',SlZ 1 m' n n' v' len bs/\Med m' n' mb cb (oE a v' xs)):=by
 have hcbN:=h.cbN
 refine dY (R:=fun r m' n' w=>n<=n'/\(∀b,b<n->b≠cb->m' b=m b/\Nat.testBit w b=false)/\r=.int .i64 0/\∃v',SlZ 1 m' n n' v' len bs/\Med m' n' mb cb (oE a v' xs)) e201 rfl hcbN fun Q hQ=>?_
 have hvo:=hv.one
 simp only[Jg]
 simp -implicitDefEqProofs (disch:=omega)only[W2,dd,Nat.testBit,Nat.reduceAdd,Nat.reduceShiftRight,Nat.reduceAnd,Nat.reduceBNe,Nat.reduceMul,hma,hmb,hvo]
 refine dw (Ar h a ha hv hone hl) fun r1 m1 n1 r2 w1 hh=>?_
 obtain⟨ht,hr⟩:=hh
 have hr1:=hr.2.2.1
 subst hr1
 simp -implicitDefEqProofs (disch:=omega)only[W2,dd,Nat.testBit,Nat.reduceAdd,Nat.reduceShiftRight,Nat.reduceAnd,Nat.reduceBNe,Nat.reduceMul]
 exact hQ _ _ _ _ _ ht hr
theorem NY{xs:List (Int×Value)}(h:Med m n mb cb xs)(hba:ba<n)(hma:m ba=some (.cells [.int .i64 (b:Int)] 0 false true))(hb:b<5):
  Rt (df PG EL Y 108 [.pointer (some ⟨mb,0,none⟩),.pointer (some ⟨ba,0,none⟩)] m n) fun r m' n' w=>Nat.testBit w cb=true/\(n<=n'/\(∀b,b<n->b≠cb->m' b=m b/\Nat.testBit w b=false)/\r=.int .i64 0/\Med m' n' mb cb (iH xs (60+b*6) 6)):=by
 have hcbN:=h.cbN
 refine dY (R:=fun r m' n' w=>n<=n'/\(∀b,b<n->b≠cb->m' b=m b/\Nat.testBit w b=false)/\r=.int .i64 0/\Med m' n' mb cb (iH xs (60+b*6) 6)) e108 rfl hcbN fun Q hQ=>?_
 simp only[J']
 simp -implicitDefEqProofs (disch:=omega)only[W2,dd,Nat.testBit,Nat.reduceAdd,Nat.reduceShiftRight,Nat.reduceAnd,Nat.reduceBNe,Nat.reduceMul,hma]
 refine dw (At h b hb) fun r1 m1 n1 r2 w1 hh=>?_
 obtain⟨ht,hr⟩:=hh
 have hr1:=hr.2.2.1
 subst hr1
 simp -implicitDefEqProofs (disch:=omega)only[W2,dd,Nat.testBit,Nat.reduceAdd,Nat.reduceShiftRight,Nat.reduceAnd,Nat.reduceBNe,Nat.reduceMul]
 exact hQ _ _ _ _ _ ht hr
theorem G8(h:jB i pb m n mb cb xs){o:Value}(hp:Pop i pb m n o p)(hcb:cb<i.K)(hK:i.K<=n)(hQ:i.Q<n)(hpb:pb<n):
  Rt (ju (df PG EL Y) [.pointer (some ⟨mb,0,none⟩)] m n o) fun r m' n' w=>Nat.testBit w cb=true/\(n<=n'/\(∀b,b<n->b≠cb->m' b=m b/\Nat.testBit w b=false)/\r=.int .i64 0/\jB i pb m' n' mb cb (p.on xs)):=by
 obtain⟨raw,hm,hr⟩:=h
 have fr:∀{m':FM} {w:Nat},(∀b,b<n->b≠cb->m' b=m b/\Nat.testBit w b=false)->Fr cb cb cb pb n m m' w:=fun h b hb h0 _ _=>h b hb h0
 cases p with
 |wr a r=>
  obtain⟨ba,bb,v,rfl,⟨a1,a2,a3,a4⟩,⟨b1,b2,b3,b4⟩,ha,hr1,hv⟩:=hp
  rw[show(Value.func (.func 201) #[] #[.pointer (some ⟨ba,0,none⟩),.pointer (some ⟨bb,0,none⟩)])=.func (.func 201) #[] [.pointer (some ⟨ba,0,none⟩),.pointer (some ⟨bb,0,none⟩)].toArray from rfl,ml]
  refine(NX hm a3 b3 a4 b4 ha hv.sh (yE _) (by omega)).mono fun r' m' n' w hh=>?_
  obtain⟨k1,k2,k3,k4,v',k5,k6⟩:=hh
  refine⟨k1,k2,k3,k4,_,k6,FG (hr.mono (mF.fr (fr k3) hcb hcb k2 (.inl rfl))) rfl ⟨rfl,hr1,BX k5 (fun _ _ _=>rfl) (Nat.le_refl _) (by omega) hK hQ (.inl hpb) (Cq _)⟩⟩
 |er b=>
  obtain⟨ba,rfl,⟨a1,a2,a3,a4⟩,hb⟩:=hp
  rw[show(Value.func (.func 108) #[] #[.pointer (some ⟨ba,0,none⟩)])=.func (.func 108) #[] [.pointer (some ⟨ba,0,none⟩)].toArray from rfl,ml]
  refine(NY hm a3 a4 hb).mono fun r' m' n' w hh=>?_
  obtain⟨k1,k2,k3,k4,k5⟩:=hh
  exact⟨k1,k2,k3,k4,_,k5,wF (hr.mono (mF.fr (fr k3) hcb hcb k2 (.inl rfl))) _ rfl _⟩
structure Cch(i:Ids)(pb:Nat)(M:FM)(N:Nat)(dur:List Sec)(ps:List Op):Prop where
 ok:i.Ok
 KN:i.K<=N
 pbk:i.K<=pb\/pb=i.sd
 pbN:pb<N
 QN:i.Q<N
 st:∃pv,M i.C=some (.cells [.pointer (some ⟨i.md,0,none⟩),.pointer (some ⟨i.mc,0,none⟩),pv] 0 false true)/\sT i pb M N pv ps
 con:jB i pb M N i.mc i.sc (dR dur ps)
 dur:jB i pb M N i.md i.sd dur
theorem Cch.jT{dur:List Sec}(h:Cch i pb M N dur ps)(hN:N<=N')(hf:∀b,b<N->b≠i.P->b≠i.D->b≠i.R->b≠i.EN->M' b=M b):Cch i pb M' N' dur ps:=by
 obtain⟨h1,h2,h3,h4,h5,h6,h7,h8,h9⟩:=h.ok
 have hK:=h.KN
 have hp:=h.pbN
 have hpk:=h.pbk
 have hQ:=h.QN
 obtain⟨pv,hst,hpe⟩:=h.st
 have fr:Fr i.P i.D i.EN pb N M M' 0:=fun b hb h0 hk _=>⟨hf b hb h0 (by omega) (by omega) (by omega),Nat.zero_testBit _⟩
 exact⟨h.ok,by omega,hpk,by omega,by omega,⟨pv,(hf _ (by omega) (by omega) (by omega) (by omega) (by omega)).trans hst,hpe.fr fr (by omega) (by omega) (fun _=>hf _ hp (by omega) (by omega) (by omega) (by omega)) hN⟩,h.con.fr fr (by omega) (by omega) hN (.inl rfl) (hf _ (by omega) (by omega) (by omega) (by omega) (by omega)) (hf _ (by omega) (by omega) (by omega) (by omega) (by omega)),h.dur.fr fr (by omega) (by omega) hN (.inl rfl) (hf _ (by omega) (by omega) (by omega) (by omega) (by omega)) (hf _ (by omega) (by omega) (by omega) (by omega) (by omega))⟩
theorem Cch.dF{M':FM}{N':Nat}{dur:List Sec}(h:Cch i pb M N dur ps)(hN:N<=N')(hf:∀b,b<N->M' b=M b):Cch i pb M' N' dur ps:=h.jT hN fun b hb _ _ _ _=>hf b hb
theorem Bv{dur:List Sec}(h:Cch i pb m n dur ps)(hc:ps.length<=100000){o:Value}{p:Op}(hp:Pop i pb m n o p):
  Rt (df PG EL Y 107 [.pointer (some ⟨i.C,0,none⟩),o] m n) fun r m' n' w=>Nat.testBit w i.sc=true/\(∃pb',n<=n'/\Fr i.sd i.sd i.C pb n m m' w/\n<=pb'/\r=.int .i64 0/\Cch i pb' m' n' dur (ps++[p])):=by
 obtain⟨h1,h2,h3,h4,h5,h6,h7,h8,h9⟩:=h.ok
 have hKN:=h.KN
 have hpbN:=h.pbN
 have hpbk:=h.pbk
 have hQN:=h.QN
 obtain⟨pv,hst,hpend⟩:=h.st
 have hoo:=hp.one
 refine dY (R:=fun r m' n' w=>(∃pb',n<=n'/\Fr i.sd i.sd i.C pb n m m' w/\n<=pb'/\r=.int .i64 0/\Cch i pb' m' n' dur (ps++[p]))) e107 rfl (show i.sc<n by omega) fun Q hQ=>?_
 simp only[Ka]
 simp -implicitDefEqProofs (disch:=omega)only[W2,dd,Nat.testBit,Nat.reduceAdd,Nat.reduceShiftRight,Nat.reduceAnd,Nat.reduceBNe,Nat.reduceMul,nm,hst,jw]
 refine dw (G8 h.con hp (by omega) hKN hQN hpbN) fun r1 m1 n1 r2 w1 hh=>?_
 obtain⟨hw1,hn1,hf1,rfl,hx⟩:=hh
 have hst1:=(hf1 i.C (by omega) (by omega)).1.trans hst
 have fr1:Fr i.sd i.sd i.C pb n m m1 w1:=fun b hb _ hb' _=>hf1 b hb (by omega)
 have hpend1:sT i pb m1 n1 pv ps:=hpend.fr fr1 (by omega) (by omega) (fun hk=>(hf1 pb h.pbN (by omega)).1) hn1
 obtain⟨hpo,hpb,hpf⟩:=hpend1.one
 obtain⟨f,cs,ho⟩:=hp.func
 simp -implicitDefEqProofs (disch:=omega)only[W2,dd,Nat.testBit,Nat.reduceAdd,Nat.reduceShiftRight,Nat.reduceAnd,Nat.reduceBNe,Nat.reduceMul,hst1,hpo,hoo,dW hoo]
 generalize hM1:(AMem.put m1 n1 (some (Blk.cells [o] 1 false true)):FM)=M1
 have l1:∀b,b<n1->M1 b=m1 b:=fun b hb=>by rw[<-hM1,dc _ _ _ _ (by omega)]
 have frl:Fr i.sd i.sd i.C pb n1 m1 M1 0:=Fr.dF l1
 have hpend2:sT i pb M1 (n1+1) pv ps:=hpend1.fr frl (by omega) (by omega) (fun hk=>l1 pb (by omega)) (by omega)
 have hpop2:Pop i pb M1 (n1+1) o p:=Pop.fr frl (by omega) (by omega) (by omega) (.inl rfl) _ _ (Pop.fr fr1 (by omega) (by omega) hn1 (.inl rfl) _ _ hp)
 refine dw (Hn hpend2 hc (by omega) (by omega) hpop2 _ _ _) fun v2 M2 N2 r3 w3 hh=>?_
 obtain⟨rfl,hp2,hf2,hf2'⟩:=hh
 have l2:∀b,b<i.K->b<n1+1->M2 b=M1 b/\Nat.testBit w3 b=false:=fun b hb hn=>by
  by_cases e:b=pb
  ·subst e;exact hf2' hb
  ·exact hf2 b hn e
 have hst2:=(l2 i.C (by omega) (by omega)).1.trans ((l1 i.C (by omega)).trans hst1)
 obtain⟨hvo,hvb,hvf⟩:=hp2.one
 simp -implicitDefEqProofs (disch:=omega)only[W2,dd,Nat.testBit,Nat.reduceAdd,Nat.reduceShiftRight,Nat.reduceAnd,Nat.reduceBNe,Nat.reduceMul,hst2,hvo,dW hvo]
 generalize hM3:(AMem.put M2 i.C _:FM)=M3
 have l3:∀b,b≠i.C->M3 b=M2 b:=fun b hb=>by rw[<-hM3,dc _ _ _ _ hb]
 have l4:∀b,b<i.K->b≠i.C->b<n1->M3 b=m1 b:=fun b hb hne hn=>by rw[l3 b hne,(l2 b hb (by omega)).1,l1 b hn]
 have fr3:Fr i.C i.C i.C pb n1 m1 M3 0:=fun b hb h0 _ hne=>⟨by rw[l3 b h0,(hf2 b (by omega) hne).1,l1 b hb],Nat.zero_testBit _⟩
 obtain⟨x1,x2,x3⟩:=hx.ids
 refine hQ _ _ _ _ _ ?_ ⟨n1+1,by omega,fun b hb h0 hk hne=>⟨?_,?_⟩,by omega,rfl,?_⟩
 ·simp only[c9,hw1];simp
 ·rw[l3 b (by omega),(hf2 b (by omega) hne).1,l1 b (by omega),(hf1 b hb (by omega)).1]
 ·simp only[c9,(hf1 b hb (by omega)).2,dh (show b≠n1 by omega),(hf2 b (by omega) hne).2,dh (show b≠i.C by omega)];rfl
 ·refine⟨h.ok,by omega,.inl (by omega),by omega,by omega,⟨v2,by rw[<-hM3];exact de _ _ _,hp2.fr (P:=i.C) (lo:=i.C) (hi:=i.C) (w:=0) (fun b hb h0 _ _=>⟨l3 b h0,Nat.zero_testBit _⟩) (by omega) (by omega) (fun _=>l3 _ (by omega)) (Nat.le_refl _)⟩,?_,?_⟩
  ·rw[iS]
   exact hx.fr fr3 (by omega) (by omega) (by omega) (.inr (by omega)) (l4 _ (by omega) (by omega) (by omega)) (l4 _ (by omega) (by omega) (by omega))
  ·exact(h.dur.fr fr1 (by omega) (by omega) hn1 (.inl rfl) (hf1 _ (by omega) (by omega)).1 (hf1 _ (by omega) (by omega)).1).fr fr3 (by omega) (by omega) (by omega) (.inr (by omega)) (l4 _ (by omega) (by omega) (by omega)) (l4 _ (by omega) (by omega) (by omega))
theorem zP:∀xs:List (Int×Value),(∀x∈xs,Am.one x.2=true)->(jk xs).all Am.one=true
 |[],_=>rfl
 |x::xs,h=>by
  rw[jk,List.all_cons,List.all_cons,zP xs fun y hy=>h y (List.mem_cons_of_mem _ hy),h x (List.mem_cons_self ..)];rfl
theorem IE(m:FM)(n:Nat){len:Nat}(h:Sh 2 m n v len cs)(hone:cs.all Am.one=true)(hl:len<=1000000):
  Rt (df PG EL Y 103 [v] m n) fun v' m' n' w=>n<=n'/\(∀b,b<n->m' b=m b)/\(∀j,j<=n->Nat.mod w (bit j)=0)/\SlZ 2 m' n n' v' len cs:=by
 refine ez (R:=fun v m' n'=>SlZ 2 m' n n' v len cs) e103 rfl fun Q hQ=>?_
 have e26:ji PG .eql 136 v (.slice none 0 0)=some (.bool false):=by
  obtain⟨b,o,c,rfl,hb,h0⟩:=h.sl
  exact oS (P:=PG) (t:=136) (by kernel_rfl) (some ⟨b,o,none⟩) len c
 have hone1:=h.one
 simp only[Kc]
 simp -implicitDefEqProofs (disch:=omega)only[W2,dd,Nat.testBit,Nat.reduceAdd,Nat.reduceShiftRight,Nat.reduceAnd,Nat.reduceBNe,Nat.reduceMul,e26,hone1]
 generalize hM1:(AMem.put m n (some (.cells [] 2 false true)):FM)=M1
 have lo1:∀b,b<n->M1 b=m b:=fun b hb=>by rw[<-hM1,dc _ _ _ _ (by omega)]
 obtain⟨b',hb',hsh⟩:=(h.frame (show n<=n+1 by omega) lo1).GR
 obtain⟨b,o,c,rfl,hb,h0⟩:=h.sl
 rw[hsh]
 refine dw (yV (n0:=n) (Nat.le_refl _) (by omega) (by omega) h0 hone h.OE _ _ _ (by omega) (by omega)) fun v2 M2 N2 r2 w2 ⟨n2,hS2,lo2,hw2⟩=>?_
 subst n2;subst hw2
 simp -implicitDefEqProofs (disch:=omega)only[W2,dd,Nat.testBit,Nat.reduceAdd,Nat.reduceShiftRight,Nat.reduceAnd,Nat.reduceBNe,Nat.reduceMul]
 refine hQ _ _ _ _ _ (by omega) (fun b hb=>by rw[lo2 b (by omega),lo1 b hb]) ?_ ?_ hS2
 ·simp -implicitDefEqProofs (disch:=omega)only[W2,dd,Nat.testBit,Nat.reduceAdd,Nat.reduceShiftRight,Nat.reduceAnd,Nat.reduceBNe,Nat.reduceMul]
 ·rcases hS2 with⟨q,_⟩|⟨_,_,b,rfl,_⟩
  ·omega
  ·rfl
theorem ni{sv:Value}{xs:List (Int×Value)}(hmb:mb<n)(hm:m mb=some (.cells [.int .i64 60,.int .i64 5,.int .i64 2,.int .i64 3,.int .i64 1,sv] 0 false true))(hs:Sh 2 m n sv xs.length (jk xs))(hone:∀x∈xs,Am.one x.2=true)(hlen:xs.length=90):
  Rt (df PG EL Y 56 [.pointer (some ⟨mb,0,none⟩)] m n) fun r m' n' w=>n<=n'/\(∀b,b<n->m' b=m b)/\(∀j,j<=n->Nat.mod w (bit j)=0)/\∃nb cb,r=.pointer (some ⟨nb,0,none⟩)/\n<=cb/\cb<nb/\nb<n'/\Med m' n' nb cb xs:=by
 refine ez (R:=fun r m' n'=>∃nb cb,r=.pointer (some ⟨nb,0,none⟩)/\n<=cb/\cb<nb/\nb<n'/\Med m' n' nb cb xs) e56 rfl fun Q hQ=>?_
 have hso:=hs.one
 simp only[Pk]
 simp -implicitDefEqProofs (disch:=omega)only[W2,dd,Nat.testBit,Nat.reduceAdd,Nat.reduceShiftRight,Nat.reduceAnd,Nat.reduceBNe,Nat.reduceMul,lI,hm,hso,hs.bel]
 refine fx (IE m n hs (zP xs hone) (by omega)) fun v1 m1 n1 r1 w1 hh=>?_
 obtain⟨q1,q2,q3,q4⟩:=hh
 have hvo:=q4.one
 rcases q4 with⟨z,_⟩|⟨_,hcl,cb,rfl,e1,e2,e3⟩
 ·omega
 obtain⟨k1,k2⟩:=gF (q3 n (Nat.le_refl _)) hmb
 simp -implicitDefEqProofs (disch:=omega)only[W2,dd,Nat.testBit,Nat.reduceAdd,Nat.reduceShiftRight,Nat.reduceAnd,Nat.reduceBNe,Nat.reduceMul,k1,k2]
 generalize hM2:(AMem.put m1 n1 _:FM)=M2
 have l2:∀b,b≠n1->M2 b=m1 b:=fun b hb=>by rw[<-hM2,dc _ _ _ _ hb]
 refine hQ _ _ _ _ _ (by omega) (fun b hb=>by rw[l2 b (by omega),q2 b hb]) ?_ rfl ⟨n1,cb,rfl,e1,e2,by omega,⟨by rw[<-hM2];exact de _ _ _,(l2 cb (by omega)).trans e3,hlen,by omega,by omega,by omega,hone⟩⟩
 simp only[eL]
 exact⟨q3 n (Nat.le_refl _),dE (by omega)⟩
theorem HF(k:Nat):mxV (.int .i64 (k:Int)) (.int .i64 0)=some (.int .i64 (k:Int)):=by
 show some (Value.int .i64 (cond (ltB (k:Int) 0) 0 (k:Int)))=_
 rw[iW,decide_eq_false (by omega)];rfl
theorem GP{len o:Nat}(h0:0<len):Fu sz 0 h len UNK (some ⟨b,o,none⟩)=some (Value.slice (some ⟨b,o,none⟩) h UNK):=by
 have h1:Nat.beq UNK UNK=true:=Nat.beq_refl _
 have h2:Nat.beq UNK VAG=false:=qY (by decide)
 have h3:(Nat.blt 0 len || Nat.beq 0 0)=true:=by simp
 simp only[Fu,h1,h2,h3,cond_true,cond_false]
 rw[show Nat.add o (Nat.mul 0 sz)=o from by show o+0*sz=o;omega,show Nat.sub h 0=h from rfl]
theorem HG(a b:Nat):mnV (.int .i64 (a:Int)) (.int .i64 (b:Int))=some (.int .i64 ((min a b:Nat):Int)):=by
 show some (Value.int .i64 (cond (ltB (b:Int) (a:Int)) (b:Int) (a:Int)))=_
 rw[iW]
 by_cases h:b<a
 ·rw[decide_eq_true (by omega),cond_true,Nat.min_eq_right (by omega)]
 ·rw[decide_eq_false (by omega),cond_false,Nat.min_eq_left (by omega)]
theorem GO{len:Nat}{opn wr:Bool}(hp:0<len)(hh:h<=len)(hb:b<N)(hm:M b=some (.cells cs sz opn wr)):
  kP M N sz (jK sz none (some (Value.int .i64 (h:Int))) (Value.slice (some ⟨b,0,none⟩) len UNK)) (Value.slice (some ⟨b,0,none⟩) len UNK)=.ok (Value.slice (some ⟨b,0,none⟩) h UNK) M N (bit b) 0:=by
 have h0:jK sz none (some (Value.int .i64 (h:Int))) (Value.slice (some ⟨b,0,none⟩) len UNK)=some (Value.slice (some ⟨b,0,none⟩) h UNK):=by
  have hc:(Nat.ble 0 h&&Nat.ble h len)=true:=by rw[ep (Nat.zero_le _),ep hh];rfl
  show cond (Nat.ble 0 h&&Nat.ble h len) (Fu sz 0 h len UNK _) none=_
  rw[hc,cond_true]
  exact GP hp
 rw[h0,tK,eS hb,hm]
 show cond (Nat.beq sz sz) _ _=_
 rw[Nat.beq_refl];rfl
theorem Br{dur:List Sec}(h:Cch i pb m n dur ps)(hc:ps.length<=100000)(ha:a<90){r:Rec}(hr:r.Ok)(hv:Sh 1 m n v 37 (n8s r.enc)):
  Rt (df PG EL Y 153 [.pointer (some ⟨i.C,0,none⟩),.int .i64 (a:Int),v] m n) fun x m' n' w=>Nat.testBit w i.sc=true/\(∃pb',n<=n'/\Fr i.sd i.sd i.C pb n m m' w/\n<=pb'/\x=.int .i64 0/\Cch i pb' m' n' dur (ps++[Op.wr a r])):=by
 obtain⟨h1,h2,h3,h4,h5,h6,h7,h8,h9⟩:=h.ok
 have hKN:=h.KN
 have hpbN:=h.pbN
 have hQN:=h.QN
 have hvo:=hv.one
 refine dY (R:=fun x m' n' w=>(∃pb',n<=n'/\Fr i.sd i.sd i.C pb n m m' w/\n<=pb'/\x=.int .i64 0/\Cch i pb' m' n' dur (ps++[Op.wr a r]))) e153 rfl (show i.sc<n by omega) fun Q hQ=>?_
 simp only[JA]
 simp -implicitDefEqProofs (disch:=omega)only[W2,dd,Nat.testBit,Nat.reduceAdd,Nat.reduceShiftRight,Nat.reduceAnd,Nat.reduceBNe,Nat.reduceMul,hvo,dW hvo]
 generalize hM1:(AMem.put (AMem.put m n (some (Blk.cells [Value.int IntKind.i64 ↑a] 0 false true))) (n+1) (some (Blk.cells [v] 0 false true)):FM)=M1
 have l1:∀b,b<n->M1 b=m b:=fun b hb=>by rw[<-hM1,dc _ _ _ _ (by omega),dc _ _ _ _ (by omega)]
 have lb:M1 (n+1)=some (Blk.cells [v] 0 false true):=by rw[<-hM1];exact de _ _ _
 have la:M1 n=some (Blk.cells [Value.int IntKind.i64 ↑a] 0 false true):=by rw[<-hM1,dc _ _ _ _ (by omega)];exact de _ _ _
 refine dw (uT M1 (n+2) (hv.frame (by omega) l1) (yE _) (by omega)) fun v1 m2 n2 r2 w2 hh=>?_
 obtain⟨hn2,hf2,hw2,hS2⟩:=hh
 have lb2:=(hf2 (n+1) (by omega)).trans lb
 have ho1:=hS2.one
 simp -implicitDefEqProofs (disch:=omega)only[W2,dd,Nat.testBit,Nat.reduceAdd,Nat.reduceShiftRight,Nat.reduceAnd,Nat.reduceBNe,Nat.reduceMul,lb2,dW ho1,ho1,gj]
 generalize hM3:(AMem.put m2 (n+1) (some (Blk.cells [v1] 0 false true)):FM)=M3
 have l3:∀b,b≠n+1->M3 b=m2 b:=fun b hb=>by rw[<-hM3,dc _ _ _ _ hb]
 have l4:∀b,b<n->M3 b=m b:=fun b hb=>by rw[l3 b (by omega),hf2 b (by omega),l1 b hb]
 have lb3:M3 (n+1)=some (Blk.cells [v1] 0 false true):=by rw[<-hM3];exact de _ _ _
 have la3:M3 n=some (Blk.cells [Value.int IntKind.i64 ↑a] 0 false true):=by rw[l3 n (by omega),hf2 n (by omega),la]
 have hBy:By i pb M3 n2 v1 37 (n8s r.enc):=BX hS2 (fun b k1 k2=>l3 b (by omega)) (Nat.le_refl _) (by omega) (by omega) (by omega) (by omega) (Cq _)
 refine dw (Bv (h.dF (show n<=n2 by omega) l4) hc (p:=.wr a r) ⟨n,n+1,v1,rfl,⟨⟨by omega,by omega⟩,by omega,by omega,la3⟩,⟨⟨by omega,by omega⟩,by omega,by omega,lb3⟩,ha,hr,hBy⟩) fun r4 m4 n4 r5 w4 hh=>?_
 obtain⟨hw4,pb',k1,k2,k3,rfl,k4⟩:=hh
 simp -implicitDefEqProofs (disch:=omega)only[W2,dd,Nat.testBit,Nat.reduceAdd,Nat.reduceShiftRight,Nat.reduceAnd,Nat.reduceBNe,Nat.reduceMul]
 refine hQ _ _ _ _ _ ?_ ⟨pb',by omega,fun b hb h0 hk hne=>⟨?_,?_⟩,by omega,rfl,k4⟩
 ·simp only[c9,hw4];simp
 ·rw[(k2 b (by omega) h0 hk hne).1,l4 b hb]
 ·simp only[c9,(k2 b (by omega) h0 hk hne).2,dh (show b≠n by omega),dh (show b≠n+1 by omega),dK (hw2 (n+2) (Nat.le_refl _)) b (by omega)];rfl
theorem Bu{dur:List Sec}(h:Cch i pb m n dur ps)(hc:ps.length<=100000)(hb:b<5):
  Rt (df PG EL Y 60 [.pointer (some ⟨i.C,0,none⟩),.int .i64 (b:Int)] m n) fun x m' n' w=>Nat.testBit w i.sc=true/\(∃pb',n<=n'/\Fr i.sd i.sd i.C pb n m m' w/\n<=pb'/\x=.int .i64 0/\Cch i pb' m' n' dur (ps++[Op.er b])):=by
 obtain⟨h1,h2,h3,h4,h5,h6,h7,h8,h9⟩:=h.ok
 have hKN:=h.KN
 have hpbN:=h.pbN
 have hQN:=h.QN
 refine dY (R:=fun x m' n' w=>(∃pb',n<=n'/\Fr i.sd i.sd i.C pb n m m' w/\n<=pb'/\x=.int .i64 0/\Cch i pb' m' n' dur (ps++[Op.er b]))) e60 rfl (show i.sc<n by omega) fun Q hQ=>?_
 simp only[Pg]
 simp -implicitDefEqProofs (disch:=omega)only[W2,dd,Nat.testBit,Nat.reduceAdd,Nat.reduceShiftRight,Nat.reduceAnd,Nat.reduceBNe,Nat.reduceMul,gj]
 generalize hM1:(AMem.put m n (some (Blk.cells [Value.int IntKind.i64 ↑b] 0 false true)):FM)=M1
 have l1:∀b,b<n->M1 b=m b:=fun b hb=>by rw[<-hM1,dc _ _ _ _ (by omega)]
 have la:M1 n=some (Blk.cells [Value.int IntKind.i64 ↑b] 0 false true):=by rw[<-hM1];exact de _ _ _
 refine dw (Bv (h.dF (show n<=n+1 by omega) l1) hc (p:=.er b) ⟨n,rfl,⟨⟨by omega,by omega⟩,by omega,by omega,la⟩,hb⟩) fun r4 m4 n4 r5 w4 hh=>?_
 obtain⟨hw4,pb',k1,k2,k3,rfl,k4⟩:=hh
 simp -implicitDefEqProofs (disch:=omega)only[W2,dd,Nat.testBit,Nat.reduceAdd,Nat.reduceShiftRight,Nat.reduceAnd,Nat.reduceBNe,Nat.reduceMul]
 refine hQ _ _ _ _ _ ?_ ⟨pb',by omega,fun b hb h0 hk hne=>⟨?_,?_⟩,by omega,rfl,k4⟩
 ·simp only[c9,hw4];simp
 ·rw[(k2 b (by omega) h0 hk hne).1,l1 b hb]
 ·simp only[c9,(k2 b (by omega) h0 hk hne).2,dh (show b≠n by omega)];rfl
def nN(x:Sec)(m':FM)(n n':Nat)(v:Value):Prop:=match x with
 | .ent r=>∃v',v=.tuple #[v',.int .i64 0]/\SlZ 1 m' n n' v' 37 (n8s r.enc)
 |_=>v=.tuple #[.slice none 0 0,.int .i64 15]
theorem CZ{md mc sc:Nat}(hC:C<n)(hst:m C=some (.cells [.pointer (some ⟨md,0,none⟩),.pointer (some ⟨mc,0,none⟩),pv] 0 false true))(h:jB i pb m n mc sc xs)(ha:a<xs.length):
  Rt (df PG EL Y 125 [.pointer (some ⟨C,0,none⟩),.int .i64 (a:Int)] m n) fun v m' n' w=>n<=n'/\(∀b,b<n->m' b=m b)/\(∀j,j<=n->Nat.mod w (bit j)=0)/\nN xs[a] m' n n' v:=by
 obtain⟨raw,hm,hr⟩:=h
 obtain⟨ha',hra⟩:=hr.at ha
 refine uC (R:=fun v m' n'=>nN xs[a] m' n n' v) e125 rfl fun Q hQ=>?_
 have bad:raw[a].1≠1->(∀m' n' v,v=.tuple #[.slice none 0 0,.int .i64 15]->nN xs[a] m' n n' v)->Wr PG EL Y [] 0 (dt PG EL Y BO.code [.pointer (some ⟨C,0,none⟩),.int .i64 (a:Int)] m n) Q:=fun h1 h2=>by
  simp only[BO]
  simp -implicitDefEqProofs (disch:=omega)only[W2,dd,Nat.testBit,Nat.reduceAdd,Nat.reduceShiftRight,Nat.reduceAnd,Nat.reduceBNe,Nat.reduceMul,nm,hst]
  refine di (As hm a ha' (st:=raw[a].1) (v:=raw[a].2) rfl h1) fun r1=>?_
  simp -implicitDefEqProofs (disch:=omega)only[W2,dd,Nat.testBit,Nat.reduceAdd,Nat.reduceShiftRight,Nat.reduceAnd,Nat.reduceBNe,Nat.reduceMul,dH]
  exact hQ _ _ _ _ _ (Nat.le_refl _) (fun _ _=>rfl) rfl (fun _=>h2 _ _ _ rfl) (fun _=>h2 _ _ _ rfl)
 generalize xs[a]=x at *
 cases x with
 |blank=>exact bad (by rw[show raw[a].1=0 from hra];decide) fun _ _ _ h=>h
 |dead=>exact bad (by rw[show raw[a].1=2 from hra];decide) fun _ _ _ h=>h
 |ent r=>
  obtain⟨h1,h2,h3⟩:=hra
  simp only[BO]
  simp -implicitDefEqProofs (disch:=omega)only[W2,dd,Nat.testBit,Nat.reduceAdd,Nat.reduceShiftRight,Nat.reduceAnd,Nat.reduceBNe,Nat.reduceMul,nm,hst]
  refine dw (Cs hm a ha' (v:=raw[a].2) (Prod.ext h1 rfl) h3.sh (yE _) (by omega)) fun r1 m1 n1 r2 w1 hh=>?_
  obtain⟨hn1,hf1,hw1,v1,rfl,hS1⟩:=hh
  simp -implicitDefEqProofs (disch:=omega)only[W2,dd,Nat.testBit,Nat.reduceAdd,Nat.reduceShiftRight,Nat.reduceAnd,Nat.reduceBNe,Nat.reduceMul,dH]
  refine hQ _ _ _ _ _ hn1 hf1 ?_ (fun _=>⟨v1,rfl,hS1⟩) (fun hfree=>?_)
  ·simp -implicitDefEqProofs (disch:=omega)only[W2,dd,Nat.testBit,Nat.reduceAdd,Nat.reduceShiftRight,Nat.reduceAnd,Nat.reduceBNe,Nat.reduceMul,hw1 n (Nat.le_refl _)]
  ·rw[pH hS1 (by omega)]at hfree;cases hfree
theorem zV{dur:List Sec}{j:Nat}(h:j<ps.length):dR dur (ps.take (j+1))=Op.on (dR dur (ps.take j)) ps[j]:=by
 rw[List.take_succ_eq_append_getElem h,iS]
theorem It(ok:i.Ok)(hK:i.K<=n)(hQ:i.Q<n)(hpb:pb<n){q v2:Value}{pcs:List Value}{dur:List Sec}{k:Nat}(hst:m i.C=some (.cells [.pointer (some ⟨i.md,0,none⟩),q,pv] 0 false true))(hk:k<=ps.length)(hsv:∀j,j<k->fU 1 j v2=some (.pointer (some ⟨pb,j,none⟩))/\i.K<=pb/\m pb=some (.cells pcs 1 true true))(hso:Am.one v2=true)(hpo:ke (Pop i pb m n) pcs ps)(x4 x5 x7:Value){Q:AX->List Value->FM->Nat->Nat->Prop}(hl:ps.length<=100000)
  (hQ':∀(x1:Value) M N w,n<=N->(∀b,b<n->b≠i.sd->M b=m b/\Nat.testBit w b=false)->jB i pb M N i.md i.sd (dR dur (ps.take k))->Q (.exit 0) [x1,.int .i64 (k:Int),v2,x4,x5,.pointer (some ⟨i.C,0,none⟩),x7] M N w):
  ∀(d j:Nat),j+d=k->∀(x1:Value) (M:FM) (N w0:Nat),n<=N->(∀b,b<n->b≠i.sd->M b=m b/\Nat.testBit w0 b=false)->jB i pb M N i.md i.sd (dR dur (ps.take j))->
  Gv (dt PG EL Y y7 [.int .i64 (j:Int),x1,.int .i64 (k:Int),v2,x4,x5,.pointer (some ⟨i.C,0,none⟩),x7] M N) fun X e m n w=>Q X e m n (Nat.lor w0 w):=by
 obtain⟨h1,h2,h3,h4,h5,h6,h7,h8,h9⟩:=ok
 intro d
 induction d with
 |zero=>
  intro j hj x1 M N w0 hN hf hy
  refine dm (L:=y7) (b:=qz) rfl ?_
  simp only[qz]
  obtain rfl:j=k:=by omega
  simp -implicitDefEqProofs (disch:=omega)only[W2,dd,Nat.testBit,Nat.reduceAdd,Nat.reduceShiftRight,Nat.reduceAnd,Nat.reduceBNe,Nat.reduceMul]
  exact hQ' _ _ _ _ hN hf hy
 |succ d ih=>
  intro j hj x1 M N w0 hN hf hy
  refine dm (L:=y7) (b:=qz) rfl ?_
  obtain⟨hi,hpK,hpm⟩:=hsv j (by omega)
  have hpM:=(hf pb hpb (by omega)).1.trans hpm
  have hsM:=(hf i.C (by omega) (by omega)).1.trans hst
  obtain⟨hjl,hp⟩:=hpo.at (show j<ps.length by omega)
  have hat:fh pcs j=some pcs[j]:=by rw[eV,List.getElem?_eq_getElem (by omega)]
  have hp':Pop i pb M N pcs[j] ps[j]:=Pop.fr (P:=i.sd) (lo:=i.sd) (hi:=i.sd) (fun b hb h0 _ _=>hf b hb h0) (by omega) (by omega) hN (.inl rfl) _ _ hp
  have hoo:=hp'.one
  simp only[qz]
  simp -implicitDefEqProofs (disch:=omega)only[W2,dd,Nat.testBit,Nat.reduceAdd,Nat.reduceShiftRight,Nat.reduceAnd,Nat.reduceBNe,Nat.reduceMul,hi,hpM,hat,hso,hsM,hoo,jw]
  refine dw (G8 hy hp' (by omega) (by omega) (by omega) (by omega)) fun r1 m1 n1 r2 w1 hh=>?_
  obtain⟨k0,k1,k2,k3,k4⟩:=hh
  rw[<-zV (by omega)]at k4
  simp -implicitDefEqProofs (disch:=omega)only[W2,dd,Nat.testBit,Nat.reduceAdd,Nat.reduceShiftRight,Nat.reduceAnd,Nat.reduceBNe,Nat.reduceMul]
  refine dM (ih (j+1) (by omega) _ _ _ (Nat.lor w0 w1) (by omega) (fun b hb hne=>⟨by rw[(k2 b (by omega) hne).1,(hf b hb hne).1],by rw[c9,(hf b hb hne).2,(k2 b (by omega) hne).2];rfl⟩) k4) fun X e m n w hq=>?_
  rw[show Nat.lor w0 (Nat.lor w1 w)=Nat.lor (Nat.lor w0 w1) w from(dy _ _ _).symm]
  exact hq
theorem xH{dur:List Sec}(h:Cch i pb m n dur ps)(hc:ps.length<=100000)(dF:Nat)(hkb:dF<=100000):
  Rt (df PG EL Y 36 [.pointer (some ⟨i.C,0,none⟩),.int .i64 (dF:Int)] m n) fun r m' n' w=>Nat.testBit w i.C=true/\(n<=n'/\Fr i.sd i.sd i.C pb n m m' w/\((ps.length<=dF/\Cch i pb m' n' (dR dur ps) [])\/(dF<ps.length/\∃mc sc,n<=mc/\n<=sc/\m' i.C=some (.cells [.pointer (some ⟨i.md,0,none⟩),.pointer (some ⟨mc,0,none⟩),.slice none 0 0] 0 false true)/\jB i pb m' n' mc sc (dR dur (ps.take dF))))):=by
 obtain⟨h1,h2,h3,h4,h5,h6,h7,h8,h9⟩:=h.ok
 have hKN:=h.KN
 have hpbN:=h.pbN
 have hpbk:=h.pbk
 have hQN:=h.QN
 obtain⟨pv,hst,hpend⟩:=h.st
 obtain⟨l2,l3,_⟩:=hpend.one
 have l1:=hpend.len
 obtain⟨pcs,hpo,hpv⟩:=hpend
 have hlen:∃v2 r,kP m n 1 (jK 1 none (some (.int .i64 ((min dF ps.length:Nat):Int))) pv) pv=.ok v2 m n r 0/\jS false v2=some (.int .i64 ((min dF ps.length:Nat):Int))/\Am.one v2=true/\et n v2=true/\∀j,j<min dF ps.length->fU 1 j v2=some (.pointer (some ⟨pb,j,none⟩))/\i.K<=pb/\m pb=some (.cells pcs 1 true true):=by
  have hl:=hpo.1
  rcases hpv with⟨rfl,rfl⟩|⟨k1,k2,k3,rfl,k4⟩
  ·have e:ps.length=0:=hl.symm
   rw[e,Nat.min_zero]
   exact⟨_,0,rfl,rfl,rfl,rfl,fun j hj=>absurd hj (Nat.not_lt_zero _)⟩
  ·exact⟨_,bit pb,GO k1 (by omega) k3 k4,rfl,rfl,dC k3,fun j hj=>⟨by rw[eY hj,Nat.zero_add,Nat.mul_one],k2,k4⟩⟩
 obtain⟨v2,r0,l4,l5,l6,l8,l7⟩:=hlen
 refine lh (R:=fun m' n' w=>(n<=n'/\Fr i.sd i.sd i.C pb n m m' w/\((ps.length<=dF/\Cch i pb m' n' (dR dur ps) [])\/(dF<ps.length/\∃mc sc,n<=mc/\n<=sc/\m' i.C=some (.cells [.pointer (some ⟨i.md,0,none⟩),.pointer (some ⟨mc,0,none⟩),.slice none 0 0] 0 false true)/\jB i pb m' n' mc sc (dR dur (ps.take dF)))))) e36 rfl rfl (show i.C<n by omega) fun Q hQ=>?_
 simp only[PA]
 have hlo:jS false pv=some (.int .i64 (ps.length:Int)):=l1
 by_cases hlt:dF<ps.length
 ·simp -implicitDefEqProofs (disch:=omega)only[W2,dd,Nat.testBit,Nat.reduceAdd,Nat.reduceShiftRight,Nat.reduceAnd,Nat.reduceBNe,Nat.reduceMul,nm,hst,l1,l2,l3,HF,HG,ol,iA,iC,Option.toList_none,Option.toList_some,List.nil_append,List.append_nil,List.all_cons,List.all_nil,l4,l5,l8,show∀x y:Opd,∀(e:List Value),dJ PG (df PG EL Y) e m n (.pur .min [x,y])=eG m n (mnV (ev e x) (ev e y))from fun _ _ _=>rfl]
  refine dS ((It h.ok hKN hQN hpbN hst (Nat.min_le_right dF ps.length) l7 l6 hpo _ _ _ hc (fun x1 M N w hN hf hy=>?_) (min dF ps.length) 0 (Nat.zero_add _) _ m n 0 (Nat.le_refl _) (fun b _ _=>⟨rfl,Nat.zero_testBit _⟩) h.dur).mono fun X e m' n' w hq=>by simpa only[dx]using hq)
  intro rr
  have hsM:=(hf i.C (by omega) (by omega)).1.trans hst
  simp -implicitDefEqProofs (disch:=omega)only[W2,dd,Nat.testBit,Nat.reduceAdd,Nat.reduceShiftRight,Nat.reduceAnd,Nat.reduceBNe,Nat.reduceMul,hsM]
  generalize hM3:(AMem.put M i.C (some (Blk.cells [.pointer (some ⟨i.md,0,none⟩),.pointer (some ⟨i.mc,0,none⟩),.slice none 0 0] 0 false true)):FM)=M3
  have m3:∀b,b≠i.C->M3 b=M b:=fun b hb=>by rw[<-hM3,dc _ _ _ _ hb]
  have fr3:Fr i.C i.C i.C pb N M M3 0:=fun b hb h0 _ _=>⟨m3 b h0,Nat.zero_testBit _⟩
  have hy3:=hy.fr fr3 (by omega) (by omega) (Nat.le_refl _) (.inl rfl) (m3 _ (by omega)) (m3 _ (by omega))
  have hC3:M3 i.C=some (.cells [.pointer (some ⟨i.md,0,none⟩),.pointer (some ⟨i.mc,0,none⟩),.slice none 0 0] 0 false true):=by rw[<-hM3];exact de _ _ _
  rw[Nat.min_eq_left (by omega)]at hy3
  obtain⟨raw,hm3,hr3⟩:=hy3
  have hst3:=hm3.st
  refine dw (ni hm3.mbN hst3 ⟨i.sd,0,UNK,jk raw,true,true,rfl,hm3.cbN,hm3.sc,by rw[eU,gr];exact fw (lj raw).symm,by rw[hm3.len];omega⟩ hm3.one hm3.len) fun r4 m4 n4 r5 w4 hh=>?_
  obtain⟨q1,q2,q3,nb,cb,rfl,q4,q5,q6,q7⟩:=hh
  have hC4:=(q2 i.C (by omega)).trans hC3
  simp -implicitDefEqProofs (disch:=omega)only[W2,dd,Nat.testBit,Nat.reduceAdd,Nat.reduceShiftRight,Nat.reduceAnd,Nat.reduceBNe,Nat.reduceMul,hC4]
  generalize hM5:(AMem.put m4 i.C _:FM)=M5
  have m5:∀b,b≠i.C->M5 b=m4 b:=fun b hb=>by rw[<-hM5,dc _ _ _ _ hb]
  refine hQ _ _ _ _ (by simp only[c9,dn];simp) ⟨by omega,fun b hb h0 hk hne=>⟨by rw[m5 b (by omega),q2 b (by omega),m3 b (by omega),(hf b hb (by omega)).1],?_⟩,.inr ⟨hlt,nb,cb,by omega,by omega,by rw[<-hM5];exact de _ _ _,raw,q7.frame (Nat.le_refl _) (m5 _ (by omega)) (m5 _ (by omega)),hr3.mono (mF.fr (P:=i.C) (lo:=i.C) (hi:=i.C) (w:=0) (fun b hb h0 _ _=>⟨by rw[m5 b h0,q2 b hb],Nat.zero_testBit _⟩) (by omega) (by omega) (by omega) (.inl rfl))⟩⟩
  simp only[c9,(hf b hb (by omega)).2,dh (show b≠i.C by omega),dK (q3 N (Nat.le_refl _)) b (by omega)];rfl
 ·simp -implicitDefEqProofs (disch:=omega)only[W2,dd,Nat.testBit,Nat.reduceAdd,Nat.reduceShiftRight,Nat.reduceAnd,Nat.reduceBNe,Nat.reduceMul,nm,hst,l1,l2,l3,HF,HG,ol,iA,iC,Option.toList_none,Option.toList_some,List.nil_append,List.append_nil,List.all_cons,List.all_nil,l4,l5,l8,show∀x y:Opd,∀(e:List Value),dJ PG (df PG EL Y) e m n (.pur .min [x,y])=eG m n (mnV (ev e x) (ev e y))from fun _ _ _=>rfl]
  refine dS ((It h.ok hKN hQN hpbN hst (Nat.min_le_right dF ps.length) l7 l6 hpo _ _ _ hc (fun x1 M N w hN hf hy=>?_) (min dF ps.length) 0 (Nat.zero_add _) _ m n 0 (Nat.le_refl _) (fun b _ _=>⟨rfl,Nat.zero_testBit _⟩) h.dur).mono fun X e m' n' w hq=>by simpa only[dx]using hq)
  intro rr
  have hsM:=(hf i.C (by omega) (by omega)).1.trans hst
  simp -implicitDefEqProofs (disch:=omega)only[W2,dd,Nat.testBit,Nat.reduceAdd,Nat.reduceShiftRight,Nat.reduceAnd,Nat.reduceBNe,Nat.reduceMul,hsM]
  generalize hM3:(AMem.put M i.C (some (Blk.cells [.pointer (some ⟨i.md,0,none⟩),.pointer (some ⟨i.mc,0,none⟩),.slice none 0 0] 0 false true)):FM)=M3
  have m3:∀b,b≠i.C->M3 b=M b:=fun b hb=>by rw[<-hM3,dc _ _ _ _ hb]
  have fr3:Fr i.C i.C i.C pb N M M3 0:=fun b hb h0 _ _=>⟨m3 b h0,Nat.zero_testBit _⟩
  have fr1:Fr i.sd i.sd i.sd pb n m M w:=fun b hb h0 _ _=>hf b hb h0
  have hy3:=hy.fr fr3 (by omega) (by omega) (Nat.le_refl _) (.inl rfl) (m3 _ (by omega)) (m3 _ (by omega))
  rw[Nat.min_eq_right (by omega),List.take_length]at hy3
  refine hQ _ _ _ _ (by rw[c9,dn];simp) ⟨hN,fun b hb h0 hk hne=>⟨by rw[m3 b (by omega),(hf b hb (by omega)).1],by rw[c9,(hf b hb (by omega)).2,dh (by omega)];rfl⟩,.inl ⟨by omega,h.ok,by omega,hpbk,by omega,by omega,⟨.slice none 0 0,by rw[<-hM3];exact de _ _ _,[],⟨rfl,fun a x s hx=>by cases hx⟩,.inl ⟨rfl,rfl⟩⟩,?_,hy3⟩⟩
  exact(h.con.fr fr1 (by omega) (by omega) hN (.inl rfl) (hf _ (by omega) (by omega)).1 (hf _ (by omega) (by omega)).1).fr fr3 (by omega) (by omega) (Nat.le_refl _) (.inl rfl) (m3 _ (by omega)) (m3 _ (by omega))
theorem Bt{dur:List Sec}(h:Cch i pb m n dur ps)(hc:ps.length<=100000):
  Rt (df PG EL Y 62 [.pointer (some ⟨i.C,0,none⟩)] m n) fun r m' n' w=>Nat.testBit w i.C=true/\(n<=n'/\Fr i.sd i.sd i.C pb n m m' w/\Cch i pb m' n' (dR dur ps) []):=by
 obtain⟨h1,h2,h3,h4,h5,h6,h7,h8,h9⟩:=h.ok
 have hKN:=h.KN
 obtain⟨pv,hst,hpe⟩:=h.st
 obtain⟨l2,l3,_⟩:=hpe.one
 have l1:=hpe.len
 refine lh (R:=fun m' n' w=>(n<=n'/\Fr i.sd i.sd i.C pb n m m' w/\Cch i pb m' n' (dR dur ps) [])) e62 rfl rfl (show i.C<n by omega) fun Q hQ=>?_
 simp only[Pe]
 simp -implicitDefEqProofs (disch:=omega)only[W2,dd,Nat.testBit,Nat.reduceAdd,Nat.reduceShiftRight,Nat.reduceAnd,Nat.reduceBNe,Nat.reduceMul,HD,hst,l1,l2]
 refine dw (xH h hc ps.length hc) fun r1 m1 n1 r2 w1 hh=>?_
 obtain⟨k1,k2,k3,⟨_,k4⟩|⟨k4,_⟩⟩:=hh
 ·simp -implicitDefEqProofs (disch:=omega)only[W2,dd,Nat.testBit,Nat.reduceAdd,Nat.reduceShiftRight,Nat.reduceAnd,Nat.reduceBNe,Nat.reduceMul]
  exact hQ _ _ _ _ k1 ⟨k2,k3,k4⟩
 ·omega
theorem eZ{P:Program}{fn:AFn}{args:List Value}{R:Value->FM->Nat->Nat->Prop}(hE:E f=some fn)(ha:gx args=fn.na)(hR:∀v m' n' w,R v m' n' w->du v=true->Nat.mod w (bit n)=0->R v m n 0)(h:∀Q:AX->List Value->FM->Nat->Nat->Prop,(∀v e m' n' w,R v m' n' w->Q (.ret v) e m' n' w)->Wr P E Y [] 0 (dt P E Y fn.code args m n) Q):Rt (df P E Y f args m n) R:=by
 rw[gZ hE ha]
 obtain⟨X,e',m',n',r,w,hx,v,rfl,h2⟩:=fX (gR (h (fun X _ m' n' w=>∃v,X=.ret v/\R v m' n' w) fun v _ m' n' w k=>⟨v,rfl,k⟩))
 rw[hx,iu]
 unfold eX
 cases h3:du v
 ·exact h2
 ·cases h4:Nat.beq (Nat.mod w (bit n)) 0
  ·exact h2
  ·rw[Bool.and_self,cond_true,dT]
   exact hR _ _ _ _ h2 h3 (Nat.eq_of_beq_eq_true h4)
structure Pw where
 off:Bool
 armed:Bool
 left:Int
 fl:Nat
def pwC(p:Pw):List Value:=[.bool p.off,.bool p.armed,.int .i64 p.left,.int .i64 (p.fl:Int)]
def PwR(P:Nat)(M:FM)(p:Pw):Prop:=M P=some (.cells (pwC p) 0 false true)
def Pw.due(p:Pw):Prop:=p.armed=true/\p.left=0
def dkC(C P seen:Nat)(s0 s1 s2 s3 op:Int):List Value:=[.int .i64 s0,.int .i64 s1,.int .i64 s2,.int .i64 s3,.int .i64 op,.int .i64 60,.int .i64 5,.int .i64 2,.int .i64 3,.int .i64 1,.pointer (some ⟨C,0,none⟩),.slice none 0 0,.pointer (some ⟨P,0,none⟩),.int .i64 (seen:Int),.int .u64 0,.bool false]
def DkR(D C P seen:Nat)(M:FM):Prop:=∃s0 s1 s2 s3 op,M D=some (.cells (dkC C P seen s0 s1 s2 s3 op) 0 false true)
theorem nn(a:Addr):ji PG .eql 29 (.pointer (some a)) (.pointer none)=some (.bool false):=by
 rw[jY (by kernel_rfl)];rfl
theorem xr{p:Pw}(hD:D<n)(hP:P<n)(hd:DkR D C P seen m)(hp:PwR P m p)(ho:p.off=false)(hs:seen=p.fl):Pure (df PG EL Y 104 [.pointer (some ⟨D,0,none⟩)] m n) m n (.int .i64 0):=by
 obtain⟨s0,s1,s2,s3,op,hd⟩:=hd
 obtain⟨o,a,l,f⟩:=p
 simp only at ho hs
 subst ho;subst hs
 simp only[dkC]at hd
 simp only[PwR,pwC]at hp
 refine dz e104 rfl rfl ?_
 simp only[Fb]
 simp -implicitDefEqProofs (disch:=omega)only[W2,dd,Nat.testBit,Nat.reduceAdd,Nat.reduceShiftRight,Nat.reduceAnd,Nat.reduceBNe,Nat.reduceMul,nn,hd,hp]
theorem CM{p:Pw}(hD:D<n)(hP:P<n)(hd:DkR D C P seen m)(hp:PwR P m p)(ho:p.off=true):Pure (df PG EL Y 104 [.pointer (some ⟨D,0,none⟩)] m n) m n (.int .i64 13):=by
 obtain⟨s0,s1,s2,s3,op,hd⟩:=hd
 obtain⟨o,a,l,f⟩:=p
 simp only at ho
 subst ho
 simp only[dkC]at hd
 simp only[PwR,pwC]at hp
 refine dz e104 rfl rfl ?_
 simp only[Fb]
 simp -implicitDefEqProofs (disch:=omega)only[W2,dd,Nat.testBit,Nat.reduceAdd,Nat.reduceShiftRight,Nat.reduceAnd,Nat.reduceBNe,Nat.reduceMul,nn,hd,hp]
theorem Iq{p:Pw}(hP:P<n)(hp:PwR P m p)(ho:p.off=false)(hdue:¬p.due):Rt (df PG EL Y 105 [.pointer (some ⟨P,0,none⟩)] m n) fun r m' n' w=>Nat.testBit w P=true/\(r=.bool true/\n'=n/\(∀b,b≠P->m' b=m b/\Nat.testBit w b=false)/\∃z,PwR P m' ⟨false,p.armed,z,p.fl⟩):=by
 obtain⟨o,a,l,f⟩:=p
 simp only at ho
 subst ho
 simp only[PwR,pwC]at hp
 refine dY (R:=fun r m' n' w=>(r=.bool true/\n'=n/\(∀b,b≠P->m' b=m b/\Nat.testBit w b=false)/\∃z,PwR P m' ⟨false,a,z,f⟩)) e105 rfl hP fun Q hQ=>?_
 simp only[E']
 cases a
 ·simp -implicitDefEqProofs (disch:=omega)only[W2,dd,Nat.testBit,Nat.reduceAdd,Nat.reduceShiftRight,Nat.reduceAnd,Nat.reduceBNe,Nat.reduceMul,hp]
  exact hQ _ _ _ _ _ (by rw[dn];simp) ⟨rfl,rfl,fun b hb=>⟨dc _ _ _ _ hb,dh hb⟩,_,de _ _ _⟩
 ·have hl:l≠0:=fun h=>hdue ⟨rfl,h⟩
  simp -implicitDefEqProofs (disch:=omega)only[W2,dd,Nat.testBit,Nat.reduceAdd,Nat.reduceShiftRight,Nat.reduceAnd,Nat.reduceBNe,Nat.reduceMul,hp]
  exact hQ _ _ _ _ _ (by rw[dn];simp) ⟨rfl,rfl,fun b hb=>⟨dc _ _ _ _ hb,dh hb⟩,_,de _ _ _⟩
theorem F9{p:Pw}(hP:P<n)(hp:PwR P m p)(hdue:p.due)(hf:p.fl<=10):Rt (df PG EL Y 105 [.pointer (some ⟨P,0,none⟩)] m n) fun r m' n' w=>Nat.testBit w P=true/\(r=.bool false/\n'=n/\(∀b,b≠P->m' b=m b/\Nat.testBit w b=false)/\∃z,PwR P m' ⟨true,false,z,p.fl+1⟩):=by
 obtain⟨o,a,l,f⟩:=p
 obtain⟨h1,h2⟩:=hdue
 simp only at h1 h2 hf
 subst h1;subst h2
 simp only[PwR,pwC]at hp
 refine dY (R:=fun r m' n' w=>(r=.bool false/\n'=n/\(∀b,b≠P->m' b=m b/\Nat.testBit w b=false)/\∃z,PwR P m' ⟨true,false,z,f+1⟩)) e105 rfl hP fun Q hQ=>?_
 simp only[E']
 simp -implicitDefEqProofs (disch:=omega)only[W2,dd,Nat.testBit,Nat.reduceAdd,Nat.reduceShiftRight,Nat.reduceAnd,Nat.reduceBNe,Nat.reduceMul,hp]
 refine hQ _ _ _ _ _ (by simp only[c9,dn];simp) ⟨rfl,rfl,fun b hb=>⟨dc _ _ _ _ hb,by simp only[c9,dh hb];rfl⟩,0-1,de _ _ _⟩
def fV:Value:=.agg #[.int .i64 0,.int .i64 0,.int .i64 0]
theorem CL(m:FM)(n:Nat)(op:Int):Rt (df PG EL Y 106 [.slice none 0 0,.int .i64 op] m n) fun r m' n' w=>n<=n'/\(∀b,b<n->m' b=m b)/\(∀j,j<=n->Nat.mod w (bit j)=0)/\r=.tuple #[fV,.bool false]:=by
 refine ez (R:=fun r m' n'=>r=.tuple #[fV,.bool false]) e106 rfl fun Q hQ=>?_
 simp only[Kb]
 simp -implicitDefEqProofs (disch:=omega)only[W2,dd,Nat.testBit,Nat.reduceAdd,Nat.reduceShiftRight,Nat.reduceAnd,Nat.reduceBNe,Nat.reduceMul]
 refine dS (dm (L:=E9) (b:=vH) rfl ?_)
 simp only[vH]
 simp -implicitDefEqProofs (disch:=omega)only[W2,dd,Nat.testBit,Nat.reduceAdd,Nat.reduceShiftRight,Nat.reduceAnd,Nat.reduceBNe,Nat.reduceMul]
 intro rr
 simp -implicitDefEqProofs (disch:=omega)only[W2,dd,Nat.testBit,Nat.reduceAdd,Nat.reduceShiftRight,Nat.reduceAnd,Nat.reduceBNe,Nat.reduceMul]
 refine hQ _ _ _ _ _ (by omega) (fun b hb=>dc _ _ _ _ (by omega)) ?_ rfl rfl
 rw[eL];exact⟨dE (Nat.le_refl _),dE (Nat.le_refl _)⟩
theorem rP{p:Pw}(hD:D<n)(hP:P<n)(hd:DkR D C P seen m)(hp:PwR P m p)(ho:p.off=true){o:Value}(hoo:Am.one o=true):Pure (df PG EL Y 58 [.pointer (some ⟨D,0,none⟩),.int .u64 0,o] m n) m n (.int .i64 13):=by
 refine dz e58 rfl rfl ?_
 simp only[I8]
 simp -implicitDefEqProofs (disch:=omega)only[W2,dd,Nat.testBit,Nat.reduceAdd,Nat.reduceShiftRight,Nat.reduceAnd,Nat.reduceBNe,Nat.reduceMul]
 refine di (CM hD hP hd hp ho) fun r1=>?_
 simp -implicitDefEqProofs (disch:=omega)only[W2,dd,Nat.testBit,Nat.reduceAdd,Nat.reduceShiftRight,Nat.reduceAnd,Nat.reduceBNe,Nat.reduceMul]
theorem rQ{p:Pw}(hD:D<n)(hP:P<n)(hd:DkR D C P seen m)(hp:PwR P m p)(ho:p.off=false)(hs:seen=p.fl)(hdue:p.due)(hf:p.fl<=10){o:Value}(hoo:Am.one o=true):Rt (df PG EL Y 58 [.pointer (some ⟨D,0,none⟩),.int .u64 0,o] m n) fun r m' n' w=>Nat.testBit w P=true/\(r=.int .i64 13/\n'=n/\(∀b,b≠P->m' b=m b/\Nat.testBit w b=false)/\∃z,PwR P m' ⟨true,false,z,p.fl+1⟩):=by
 refine dY (R:=fun r m' n' w=>(r=.int .i64 13/\n'=n/\(∀b,b≠P->m' b=m b/\Nat.testBit w b=false)/\∃z,PwR P m' ⟨true,false,z,p.fl+1⟩)) e58 rfl hP fun Q hQ=>?_
 have h1:=xr (Y:=Y) hD hP hd hp ho hs
 obtain⟨s0,s1,s2,s3,op,hd⟩:=hd
 simp only[dkC]at hd
 simp only[I8]
 simp -implicitDefEqProofs (disch:=omega)only[W2,dd,Nat.testBit,Nat.reduceAdd,Nat.reduceShiftRight,Nat.reduceAnd,Nat.reduceBNe,Nat.reduceMul]
 refine di h1 fun r1=>?_
 simp -implicitDefEqProofs (disch:=omega)only[W2,dd,Nat.testBit,Nat.reduceAdd,Nat.reduceShiftRight,Nat.reduceAnd,Nat.reduceBNe,Nat.reduceMul,hd]
 refine dw (F9 hP hp hdue hf) fun r2 m2 n2 r3 w2 hh=>?_
 obtain⟨ht,rfl,rfl,hf2,z,hp2⟩:=hh
 simp -implicitDefEqProofs (disch:=omega)only[W2,dd,Nat.testBit,Nat.reduceAdd,Nat.reduceShiftRight,Nat.reduceAnd,Nat.reduceBNe,Nat.reduceMul]
 exact hQ _ _ _ _ _ ht ⟨rfl,rfl,hf2,z,hp2⟩
theorem uf(hU:YUp Y){p:Pw}(hD:D<n)(hP:P<n)(hDP:D≠P)(hd:DkR D C P seen m)(hp:PwR P m p)(ho:p.off=false)(hs:seen=p.fl)(hdue:¬p.due){f:Nat}{cs:List Value}{R:Value->FM->Nat->Nat->Prop}(hone:∀v m n w,R v m n w->Am.one v=true)
  (hcall:∀m2 n2 z,n<=n2->(∀b,b<n->b≠P->b≠D->m2 b=m b)->DkR D C P seen m2->PwR P m2 ⟨false,p.armed,z,p.fl⟩->Rt (df PG EL Y f (fV::cs) m2 n2) R):
  Rt (df PG EL Y 58 [.pointer (some ⟨D,0,none⟩),.int .u64 0,.func (.func f) #[] cs.toArray] m n) fun r m' n' w=>Nat.testBit w P=true/\∃w0 w1,w=Nat.lor w0 w1/\(∀b,b<n->b≠P->b≠D->Nat.testBit w0 b=false)/\R r m' n' w1:=by
 refine dY (R:=fun r m' n' w=>∃w0 w1,w=Nat.lor w0 w1/\(∀b,b<n->b≠P->b≠D->Nat.testBit w0 b=false)/\R r m' n' w1) e58 rfl hP fun Q hQ=>?_
 have h1:=xr (Y:=Y) hD hP hd hp ho hs
 obtain⟨s0,s1,s2,s3,op,hd⟩:=hd
 simp only[dkC]at hd
 simp only[I8]
 simp -implicitDefEqProofs (disch:=omega)only[W2,dd,Nat.testBit,Nat.reduceAdd,Nat.reduceShiftRight,Nat.reduceAnd,Nat.reduceBNe,Nat.reduceMul]
 refine di h1 fun r1=>?_
 simp -implicitDefEqProofs (disch:=omega)only[W2,dd,Nat.testBit,Nat.reduceAdd,Nat.reduceShiftRight,Nat.reduceAnd,Nat.reduceBNe,Nat.reduceMul,hd]
 refine dw (Iq hP hp ho hdue) fun r2 m2 n2 r3 w2 hh=>?_
 obtain⟨ht,rfl,rfl,hf2,z,hp2⟩:=hh
 have hd2:=(hf2 D hDP).1.trans hd
 simp -implicitDefEqProofs (disch:=omega)only[W2,dd,Nat.testBit,Nat.reduceAdd,Nat.reduceShiftRight,Nat.reduceAnd,Nat.reduceBNe,Nat.reduceMul,hd2,show ji PG .neq 40 (.int .u64 0) (.int .u64 0)=some (.bool false)from rfl]
 refine tA hU (CL _ _ _) fun r4 m4 n4 r5 w4 hh hu=>?_
 obtain⟨hn4,hf4,hw4,rfl⟩:=hh
 have hd4:=(hf4 D (by omega)).trans hd2
 obtain⟨l1,l2⟩:=gF (hw4 n2 (Nat.le_refl _)) (show D<n2 by omega)
 simp only[fV]
 obtain⟨l3,l4⟩:=hu n4 (Nat.le_refl _)
 simp -implicitDefEqProofs (disch:=omega)only[W2,dd,Nat.testBit,Nat.reduceAdd,Nat.reduceShiftRight,Nat.reduceAnd,Nat.reduceBNe,Nat.reduceMul,hd4,l1,l2,l3,l4,dH,show∀k,et k (.tuple #[.agg #[.int .i64 0,.int .i64 0,.int .i64 0],.bool false])=true from fun _=>rfl,jw,ml,List.cons_append,List.nil_append]
 generalize hM5:(AMem.put m4 n4 (some (Blk.cells [Value.int IntKind.i64 0,Value.int IntKind.i64 0,Value.int IntKind.i64 0] 0 false true)):FM)=M5
 have l5:∀b,b<n4->M5 b=m4 b:=fun b hb=>by rw[<-hM5,dc _ _ _ _ (by omega)]
 generalize hM6:(AMem.put M5 D _:FM)=M6
 have l6:∀b,b≠D->M6 b=M5 b:=fun b hb=>by rw[<-hM6,dc _ _ _ _ hb]
 have l7:∀b,b<n2->b≠P->b≠D->M6 b=m b:=fun b hb k1 k2=>by rw[l6 b k2,l5 b (by omega),hf4 b hb,(hf2 b k1).1]
 refine dw (hcall M6 (n4+1) z (by omega) l7 ⟨s0,s1,s2,s3,_,by rw[<-hM6];exact de _ _ _⟩ (by rw[PwR,l6 _ (by omega),l5 _ (by omega),hf4 _ (by omega)];exact hp2)) fun r7 m7 n7 r8 w7 hh=>?_
 have ho7:=hone _ _ _ _ hh
 simp -implicitDefEqProofs (disch:=omega)only[W2,dd,Nat.testBit,Nat.reduceAdd,Nat.reduceShiftRight,Nat.reduceAnd,Nat.reduceBNe,Nat.reduceMul,ho7]
 refine hQ _ _ _ _ _ ?_ ⟨_,w7,rfl,fun b hb k1 k2=>?_,hh⟩
 ·simp only[c9,ht];simp
 ·simp only[c9,(hf2 b k1).2,dK (hw4 n2 (Nat.le_refl _)) b hb,dh (show b≠n4 by omega),dh k2];rfl
theorem _root_.Go.Am.Rt.lU{x:OR FM}{v:Value}{R:Value->FM->Nat->Nat->Prop}(h:Pure x m n v)(hr:R v m n 0):Rt x R:=by
 obtain⟨r,rfl⟩:=h
 exact hr
structure Dsk(i:Ids)(pb:Nat)(M:FM)(N:Nat)(dur:List Sec)(ps:List Op):Prop where
 cc:Cch i pb M N dur ps
 dk:DkR i.D i.C i.P 0 M
theorem Dsk.jT{dur:List Sec}(h:Dsk i pb M N dur ps)(hN:N<=N')(hf:∀b,b<N->b≠i.P->b≠i.D->b≠i.R->b≠i.EN->M' b=M b)(hd:DkR i.D i.C i.P 0 M'):Dsk i pb M' N' dur ps:=⟨h.cc.jT hN hf,hd⟩
theorem Dsk.qa{dur:List Sec}(h:Dsk i pb M N dur ps)(hN:N<=N')(hf:∀b,b<N->b≠i.P->b≠i.R->b≠i.EN->M' b=M b):Dsk i pb M' N' dur ps:=by
 obtain⟨h1,h2,h3,h4,h5,h6,h7,h8,h9⟩:=h.cc.ok
 have hK:=h.cc.KN
 obtain⟨s0,s1,s2,s3,op,hd⟩:=h.dk
 exact h.jT hN (fun b hb k1 _ k2 k3=>hf b hb k1 k2 k3) ⟨s0,s1,s2,s3,op,(hf _ (by omega) (by omega) (by omega) (by omega)).trans hd⟩
theorem Dsk.dF{M':FM}{N':Nat}{dur:List Sec}(h:Dsk i pb M N dur ps)(hN:N<=N')(hf:∀b,b<N->M' b=M b):Dsk i pb M' N' dur ps:=h.qa hN fun b hb _ _ _=>hf b hb
theorem xt(hD:D<n)(hd:DkR D C P seen m)(ha:a<90):Pure (df PG EL Y 124 [.pointer (some ⟨D,0,none⟩),.int .i64 (a:Int)] m n) m n (.bool true):=by
 obtain⟨s0,s1,s2,s3,op,hd⟩:=hd
 simp only[dkC]at hd
 refine dz e124 rfl rfl ?_
 simp only[JU]
 simp -implicitDefEqProofs (disch:=omega)only[W2,dd,Nat.testBit,Nat.reduceAdd,Nat.reduceShiftRight,Nat.reduceAnd,Nat.reduceBNe,Nat.reduceMul,hd]
 refine di (jE _ _) fun r1=>?_
 simp -implicitDefEqProofs (disch:=omega)only[W2,dd,Nat.testBit,Nat.reduceAdd,Nat.reduceShiftRight,Nat.reduceAnd,Nat.reduceBNe,Nat.reduceMul]
def Dh(i:Ids)(pb:Nat)(m:FM)(n:Nat)(dur:List Sec)(ps:List Op)(r:Value)(m':FM)(n' w:Nat):Prop:=n<=n'/\Fr i.sd i.sd i.D pb n m m' w/\r=.int .i64 0/\∃pb',(pb'=pb\/n<=pb')/\Dsk i pb' m' n' dur ps
theorem Lq{dur:List Sec}(h:Dsk i pb m n dur ps)(hc:ps.length<=100000){bd ba bb bf:Nat}(kd:i.K<=bd/\bd≠pb/\bd<n/\m bd=some (.cells [.pointer (some ⟨i.D,0,none⟩)] 0 false true))(ka:ba<n/\m ba=some (.cells [.int .i64 (a:Int)] 0 false true))(kb:bb<n/\m bb=some (.cells [v] 0 false true))(kf:i.K<=bf/\bf≠pb/\bf<n/\m bf=some (.cells [.bool false] 0 false true))(ha:a<90)(hr:rc.Ok)(hv:Sh 1 m n v 37 (n8s rc.enc)):
  Rt (df PG EL Y 152 [fV,.pointer (some ⟨bd,0,none⟩),.pointer (some ⟨ba,0,none⟩),.pointer (some ⟨bb,0,none⟩),.pointer (some ⟨bf,0,none⟩)] m n) fun r m' n' w=>Nat.testBit w i.sc=true/\Dh i pb m n dur (ps++[Op.wr a rc]) r m' n' w:=by
 obtain⟨h1,h2,h3,h4,h5,h6,h7,h8,h9⟩:=h.cc.ok
 have hKN:=h.cc.KN
 have hpbN:=h.cc.pbN
 have hpbk:=h.cc.pbk
 have hvo:=hv.one
 obtain⟨s0,s1,s2,s3,op,hd⟩:=h.dk
 simp only[dkC]at hd
 obtain⟨kd1,kd2,kd3,kd4⟩:=kd
 obtain⟨ka3,ka4⟩:=ka
 obtain⟨kb3,kb4⟩:=kb
 obtain⟨kf1,kf2,kf3,kf4⟩:=kf
 refine dY (R:=fun r m' n' w=>Dh i pb m n dur (ps++[Op.wr a rc]) r m' n' w) e152 rfl (show i.sc<n by omega) fun Q hQ=>?_
 simp only[JB,fV]
 generalize hM1:(AMem.put m n (some (Blk.cells [Value.int IntKind.i64 0,Value.int IntKind.i64 0,Value.int IntKind.i64 0] 0 false true)):FM)=M1
 have l1:∀b,b<n->M1 b=m b:=fun b hb=>by rw[<-hM1,dc _ _ _ _ (by omega)]
 have lf:M1 n=some (Blk.cells [Value.int IntKind.i64 0,Value.int IntKind.i64 0,Value.int IntKind.i64 0] 0 false true):=by rw[<-hM1];exact de _ _ _
 have hD1:=h.dF (show n<=n+1 by omega) l1
 have kd5:=(l1 bd kd3).trans kd4
 have ka5:=(l1 ba ka3).trans ka4
 have kb5:=(l1 bb kb3).trans kb4
 have kf5:=(l1 bf kf3).trans kf4
 have hd1:=(l1 i.D (by omega)).trans hd
 simp -implicitDefEqProofs (disch:=omega)only[W2,dd,Nat.testBit,Nat.reduceAdd,Nat.reduceShiftRight,Nat.reduceAnd,Nat.reduceBNe,Nat.reduceMul,hM1,kd5,ka5]
 refine di (xt (by omega) hD1.dk ha) fun r1=>?_
 simp -implicitDefEqProofs (disch:=omega)only[W2,dd,Nat.testBit,Nat.reduceAdd,Nat.reduceShiftRight,Nat.reduceAnd,Nat.reduceBNe,Nat.reduceMul,kb5,hvo,hv.len,ka5,lf,hv.bel,kd5,hd1]
 refine dw (Br hD1.cc hc ha hr (hv.frame (by omega) l1)) fun r2 m2 n2 r3 w2 hh=>?_
 obtain⟨ht,pb',hn2,hF2,hp2,rfl,hC2⟩:=hh
 have kf6:=(hF2 bf (by omega) (by omega) (by omega) kf2).1.trans kf5
 have kd6:=(hF2 bd (by omega) (by omega) (by omega) kd2).1.trans kd5
 have hd2:=(hF2 i.D (by omega) (by omega) (by omega) (by omega)).1.trans hd1
 simp -implicitDefEqProofs (disch:=omega)only[W2,dd,Nat.testBit,Nat.reduceAdd,Nat.reduceShiftRight,Nat.reduceAnd,Nat.reduceBNe,Nat.reduceMul,kf6,kd6,hd2]
 generalize hM3:(AMem.put m2 i.D _:FM)=M3
 have l3:∀b,b≠i.D->M3 b=m2 b:=fun b hb=>by rw[<-hM3,dc _ _ _ _ hb]
 refine hQ _ _ _ _ _ ?_ ⟨by omega,fun b hb h0 hk hne=>⟨?_,?_⟩,rfl,pb',.inr (by omega),hC2.jT (Nat.le_refl _) fun b _ _ k _ _=>l3 b k,s0,_,s2,s3,op,by rw[<-hM3];exact de _ _ _⟩
 ·simp only[c9,ht];simp
 ·rw[l3 b (by omega),(hF2 b (by omega) h0 (by omega) hne).1,l1 b hb]
 ·simp only[c9,(hF2 b (by omega) h0 (by omega) hne).2,dh (show b≠n by omega),dh (show b≠i.D by omega)];rfl
theorem Lt{dur:List Sec}(h:Dsk i pb m n dur ps)(hc:ps.length<=100000){bd:Nat}(kd:i.K<=bd/\bd≠pb/\bd<n/\m bd=some (.cells [.pointer (some ⟨i.D,0,none⟩)] 0 false true)):
  Rt (df PG EL Y 61 [fV,.pointer (some ⟨bd,0,none⟩)] m n) fun r m' n' w=>Nat.testBit w i.C=true/\Dh i pb m n (dR dur ps) [] r m' n' w:=by
 obtain⟨h1,h2,h3,h4,h5,h6,h7,h8,h9⟩:=h.cc.ok
 have hKN:=h.cc.KN
 have hpbN:=h.cc.pbN
 have hpbk:=h.cc.pbk
 obtain⟨s0,s1,s2,s3,op,hd⟩:=h.dk
 simp only[dkC]at hd
 obtain⟨kd1,kd2,kd3,kd4⟩:=kd
 refine dY (R:=fun r m' n' w=>Dh i pb m n (dR dur ps) [] r m' n' w) e61 rfl (show i.C<n by omega) fun Q hQ=>?_
 simp only[Pf,fV]
 simp -implicitDefEqProofs (disch:=omega)only[W2,dd,Nat.testBit,Nat.reduceAdd,Nat.reduceShiftRight,Nat.reduceAnd,Nat.reduceBNe,Nat.reduceMul,kd4,hd]
 generalize hM1:(AMem.put m n (some (Blk.cells [Value.int IntKind.i64 0,Value.int IntKind.i64 0,Value.int IntKind.i64 0] 0 false true)):FM)=M1
 have l1:∀b,b<n->M1 b=m b:=fun b hb=>by rw[<-hM1,dc _ _ _ _ (by omega)]
 have hD1:=h.dF (show n<=n+1 by omega) l1
 refine dw (Bt hD1.cc hc) fun r2 m2 n2 r3 w2 hh=>?_
 obtain⟨ht,hn2,hF2,hC2⟩:=hh
 have kd6:=(hF2 bd (by omega) (by omega) (by omega) kd2).1.trans ((l1 bd kd3).trans kd4)
 have hd2:=(hF2 i.D (by omega) (by omega) (by omega) (by omega)).1.trans ((l1 i.D (by omega)).trans hd)
 simp -implicitDefEqProofs (disch:=omega)only[W2,dd,Nat.testBit,Nat.reduceAdd,Nat.reduceShiftRight,Nat.reduceAnd,Nat.reduceBNe,Nat.reduceMul,kd6,hd2]
 generalize hM3:(AMem.put m2 i.D _:FM)=M3
 have l3:∀b,b≠i.D->M3 b=m2 b:=fun b hb=>by rw[<-hM3,dc _ _ _ _ hb]
 refine hQ _ _ _ _ _ ?_ ⟨by omega,fun b hb h0 hk hne=>⟨?_,?_⟩,rfl,pb,.inl rfl,hC2.jT (Nat.le_refl _) fun b _ _ k _ _=>l3 b k,s0,s1,s2,_,op,by rw[<-hM3];exact de _ _ _⟩
 ·simp only[c9,ht];simp
 ·rw[l3 b (by omega),(hF2 b (by omega) h0 (by omega) hne).1,l1 b hb]
 ·simp only[c9,(hF2 b (by omega) h0 (by omega) hne).2,dh (show b≠n by omega),dh (show b≠i.D by omega)];rfl
theorem Lu{dur:List Sec}(h:Dsk i pb m n dur ps)(hc:ps.length<=100000){bd ba:Nat}(kd:i.K<=bd/\bd≠pb/\bd<n/\m bd=some (.cells [.pointer (some ⟨i.D,0,none⟩)] 0 false true))(ka:ba<n/\m ba=some (.cells [.int .i64 (a:Int)] 0 false true))(ha:a<5):
  Rt (df PG EL Y 59 [fV,.pointer (some ⟨bd,0,none⟩),.pointer (some ⟨ba,0,none⟩)] m n) fun r m' n' w=>Nat.testBit w i.sc=true/\Dh i pb m n dur (ps++[Op.er a]) r m' n' w:=by
 obtain⟨h1,h2,h3,h4,h5,h6,h7,h8,h9⟩:=h.cc.ok
 have hKN:=h.cc.KN
 have hpbN:=h.cc.pbN
 have hpbk:=h.cc.pbk
 obtain⟨s0,s1,s2,s3,op,hd⟩:=h.dk
 simp only[dkC]at hd
 obtain⟨kd1,kd2,kd3,kd4⟩:=kd
 obtain⟨ka3,ka4⟩:=ka
 refine dY (R:=fun r m' n' w=>Dh i pb m n dur (ps++[Op.er a]) r m' n' w) e59 rfl (show i.sc<n by omega) fun Q hQ=>?_
 simp only[Ph,fV]
 simp -implicitDefEqProofs (disch:=omega)only[W2,dd,Nat.testBit,Nat.reduceAdd,Nat.reduceShiftRight,Nat.reduceAnd,Nat.reduceBNe,Nat.reduceMul,kd4,hd,ka4]
 generalize hM1:(AMem.put m n (some (Blk.cells [Value.int IntKind.i64 0,Value.int IntKind.i64 0,Value.int IntKind.i64 0] 0 false true)):FM)=M1
 have l1:∀b,b<n->M1 b=m b:=fun b hb=>by rw[<-hM1,dc _ _ _ _ (by omega)]
 have hD1:=h.dF (show n<=n+1 by omega) l1
 refine fx (Bu hD1.cc hc ha) fun r2 m2 n2 r3 w2 hh=>?_
 obtain⟨ht,pb',hn2,hF2,hp2,rfl,hC2⟩:=hh
 have kd6:=(hF2 bd (by omega) (by omega) (by omega) kd2).1.trans ((l1 bd kd3).trans kd4)
 have hd2:=(hF2 i.D (by omega) (by omega) (by omega) (by omega)).1.trans ((l1 i.D (by omega)).trans hd)
 simp -implicitDefEqProofs (disch:=omega)only[W2,dd,Nat.testBit,Nat.reduceAdd,Nat.reduceShiftRight,Nat.reduceAnd,Nat.reduceBNe,Nat.reduceMul,kd6,hd2]
 generalize hM3:(AMem.put m2 i.D _:FM)=M3
 have l3:∀b,b≠i.D->M3 b=m2 b:=fun b hb=>by rw[<-hM3,dc _ _ _ _ hb]
 refine hQ _ _ _ _ _ ?_ ⟨by omega,fun b hb h0 hk hne=>⟨?_,?_⟩,rfl,pb',.inr (by omega),hC2.jT (Nat.le_refl _) fun b _ _ k _ _=>l3 b k,s0,s1,_,s3,op,by rw[<-hM3];exact de _ _ _⟩
 ·simp only[c9,ht];simp
 ·rw[l3 b (by omega),(hF2 b (by omega) h0 (by omega) hne).1,l1 b hb]
 ·simp only[c9,(hF2 b (by omega) h0 (by omega) hne).2,dh (show b≠n by omega),dh (show b≠i.D by omega)];rfl
def PwI(p:Pw):Prop:=(p.off=false/\p.fl=0)\/(p.off=true/\p.fl<=1/\p.armed=false)
theorem PwI.o{p:Pw}(h:PwI p)(ho:p.off=true):p.off=true/\p.fl<=1/\p.armed=false:=by
 rcases h with⟨h,_⟩|h
 ·rw[ho]at h;cases h
 ·exact h
def OpR(i:Ids)(pb:Nat)(m:FM)(n:Nat)(p:Pw)(dur:List Sec)(ps:List Op)(dur':List Sec)(ps':List Op)(r:Value)(m':FM)(n' w:Nat):Prop:=
 (Nat.testBit w i.P=true\/p.off=true)/\n<=n'/\Fr i.P i.sd i.D pb n m m' w/\∃p',PwR i.P m' p'/\PwI p'/\
  ((r=.int .i64 0/\p.off=false/\¬p.due/\p'.off=false/\p'.armed=p.armed/\∃pb',(pb'=pb\/n<=pb')/\Dsk i pb' m' n' dur' ps')\/(r=.int .i64 13/\p'.off=true/\(p.off=true\/p.due)/\Dsk i pb m' n' dur ps))
theorem OpR.free{p:Pw}{dur:List Sec}(h:Dsk i pb m n dur ps)(hp:PwR i.P m p)(hI:PwI p)(hP:i.P<n)(hr:OpR i pb m n p dur ps dur' ps' r m' n' w)(hw:Nat.mod w (bit n)=0):OpR i pb m n p dur ps dur' ps' r m n 0:=by
 obtain⟨ht,_,_,p',_,_,hc⟩:=hr
 have ho:p.off=true:=by
  rcases ht with ht|ht
  ·rw[dK hw _ hP]at ht;cases ht
  ·exact ht
 refine⟨.inr ho,Nat.le_refl _,fun b _ _ _ _=>⟨rfl,Nat.zero_testBit _⟩,p,hp,hI,.inr ?_⟩
 rcases hc with⟨_,h0,_⟩|⟨h0,_⟩
 ·rw[ho]at h0;cases h0
 ·exact⟨h0,ho,.inl ho,h⟩
theorem mR(hU:YUp Y){dur:List Sec}(h:Dsk i pb m n dur ps){p:Pw}(hp:PwR i.P m p)(hI:PwI p){f:Nat}{cs:List Value}{dur':List Sec}{ps':List Op}
  (hcall:∀m2 n2,n<=n2->Dsk i pb m2 n2 dur ps->(∀b,b<n->b≠i.P->b≠i.D->m2 b=m b)->Rt (df PG EL Y f (fV::cs) m2 n2) fun r m' n' w=>Dh i pb m2 n2 dur' ps' r m' n' w):
  Rt (df PG EL Y 58 [.pointer (some ⟨i.D,0,none⟩),.int .u64 0,.func (.func f) #[] cs.toArray] m n) fun r m' n' w=>OpR i pb m n p dur ps dur' ps' r m' n' w:=by
 obtain⟨h1,h2,h3,h4,h5,h6,h7,h8,h9⟩:=h.cc.ok
 have hKN:=h.cc.KN
 by_cases ho:p.off=true
 ·refine Rt.lU (rP (by omega) (by omega) h.dk hp ho rfl) ?_
  exact⟨.inr ho,Nat.le_refl _,fun b _ _ _ _=>⟨rfl,Nat.zero_testBit _⟩,p,hp,hI,.inr ⟨rfl,ho,.inl ho,h⟩⟩
 ·have hoff:p.off=false:=by cases hh:p.off with|false=>rfl|true=>exact absurd hh ho
  have hfl:p.fl=0:=by rcases hI with⟨_,h⟩|h;· exact h
                      ·exact absurd h.1 ho
  by_cases hdue:p.due
  ·refine(rQ (by omega) (by omega) h.dk hp hoff hfl.symm hdue (by omega) rfl).mono fun r m' n' w hh=>?_
   obtain⟨k1,rfl,rfl,k2,z,k3⟩:=hh
   exact⟨.inl k1,Nat.le_refl _,fun b hb h0 _ _=>k2 b h0,_,k3,.inr ⟨rfl,by simp[hfl],rfl⟩,.inr ⟨rfl,rfl,.inr hdue,h.qa (Nat.le_refl _) fun b _ h0 _ _=>(k2 b h0).1⟩⟩
  ·refine(uf hU (by omega) (by omega) (by omega) h.dk hp hoff hfl.symm hdue (R:=fun r m' n' w=>n<=n'/\(∀b,b<n->b≠i.P->¬(i.sd<=b/\b<=i.D)->b≠pb->m' b=m b/\Nat.testBit w b=false)/\r=.int .i64 0/\(∃z,PwR i.P m' ⟨false,p.armed,z,p.fl⟩)/\∃pb',(pb'=pb\/n<=pb')/\Dsk i pb' m' n' dur' ps') (fun v m n w k=>by rw[k.2.2.1];rfl) fun m2 n2 z k1 k2 k3 k4=>?_).mono fun r m' n' w hh=>?_
   ·refine(hcall m2 n2 k1 (h.jT k1 (fun b hb e1 e2 _ _=>k2 b hb e1 e2) k3) k2).mono fun r m' n' w hh=>?_
    obtain⟨q1,q2,q3,pb',q4,q5⟩:=hh
    have hpbk:=h.cc.pbk
    exact⟨by omega,fun b hb e1 e2 e3=>⟨by rw[(q2 b (by omega) (by omega) e2 e3).1,k2 b hb e1 (by omega)],(q2 b (by omega) (by omega) e2 e3).2⟩,q3,⟨z,by rw[PwR,(q2 i.P (by omega) (by omega) (by omega) (by omega)).1];exact k4⟩,pb',by omega,q5⟩
   ·obtain⟨q1,w0,w1,rfl,q2,q3,q4,q5,⟨z,q6⟩,q7⟩:=hh
    exact⟨.inl q1,q3,fun b hb e0 e1 e2=>⟨(q4 b hb e0 e1 e2).1,by rw[c9,q2 b hb e0 (by omega),(q4 b hb e0 e1 e2).2];rfl⟩,_,q6,.inl ⟨rfl,hfl⟩,.inl ⟨q5,hoff,hdue,rfl,rfl,q7⟩⟩
theorem OpR.up{p:Pw}{dur:List Sec}(h:OpR i pb m1 n1 p dur ps dur' ps' r m' n' w)(hn:n<=n1)(hf:∀b,b<n->m1 b=m b)(hw:∀b,b<n->Nat.testBit w1 b=false):OpR i pb m n p dur ps dur' ps' r m' n' (Nat.lor w1 w):=by
 obtain⟨k1,k2,k3,p',k4,k5,k6⟩:=h
 refine⟨?_,by omega,fun b hb h0 hk hne=>⟨by rw[(k3 b (by omega) h0 hk hne).1,hf b hb],by rw[c9,hw b hb,(k3 b (by omega) h0 hk hne).2];rfl⟩,p',k4,k5,?_⟩
 ·rcases k1 with k1|k1
  ·exact .inl (by rw[c9,k1];simp)
  ·exact .inr k1
 ·rcases k6 with⟨q1,q2,q3,q4,q5,pb',q6,q7⟩|q
  ·exact .inl ⟨q1,q2,q3,q4,q5,pb',by omega,q7⟩
  ·exact .inr q
theorem OpR.one{p:Pw}{dur:List Sec}(h:OpR i pb m n p dur ps dur' ps' r m' n' w):∃e:Int,r=.int .i64 e/\(e=0\/e=13):=by
 obtain⟨_,_,_,_,_,_,⟨h,_⟩|⟨h,_⟩⟩:=h
 ·exact⟨0,h,.inl rfl⟩
 ·exact⟨13,h,.inr rfl⟩
theorem CP(hU:YUp Y){dur:List Sec}(h:Dsk i pb m n dur ps){p:Pw}(hp:PwR i.P m p)(hI:PwI p)(hc:ps.length<=100000)(ha:a<90)(hr:rc.Ok)(hv:By i pb m n v 37 (n8s rc.enc)):
  Rt (df PG EL Y 113 [.pointer (some ⟨i.D,0,none⟩),.int .u64 0,.int .i64 (a:Int),v,.bool false] m n) fun r m' n' w=>OpR i pb m n p dur ps dur (ps++[Op.wr a rc]) r m' n' w:=by
 obtain⟨h1,h2,h3,h4,h5,h6,h7,h8,h9⟩:=h.cc.ok
 have hKN:=h.cc.KN
 have hpbN:=h.cc.pbN
 have hvo:=hv.sh.one
 refine eZ (R:=fun r m' n' w=>OpR i pb m n p dur ps dur (ps++[Op.wr a rc]) r m' n' w) e113 rfl (fun r m' n' w hh _ hw=>hh.free h hp hI (by omega) hw) fun Q hQ=>?_
 simp only[J5]
 simp -implicitDefEqProofs (disch:=omega)only[W2,dd,Nat.testBit,Nat.reduceAdd,Nat.reduceShiftRight,Nat.reduceAnd,Nat.reduceBNe,Nat.reduceMul,gj,hvo,dW hvo]
 generalize hM1:(AMem.put (AMem.put (AMem.put (AMem.put m n _) (n+1) _) (n+2) _) (n+3) _:FM)=M1
 have l1:∀b,b<n->M1 b=m b:=fun b hb=>by rw[<-hM1,dc _ _ _ _ (by omega),dc _ _ _ _ (by omega),dc _ _ _ _ (by omega),dc _ _ _ _ (by omega)]
 have p0:M1 n=some (.cells [.pointer (some ⟨i.D,0,none⟩)] 0 false true):=by rw[<-hM1,dc _ _ _ _ (by omega),dc _ _ _ _ (by omega),dc _ _ _ _ (by omega)];exact de _ _ _
 have p1:M1 (n+1)=some (.cells [.int .i64 (a:Int)] 0 false true):=by rw[<-hM1,dc _ _ _ _ (by omega),dc _ _ _ _ (by omega)];exact de _ _ _
 have p2:M1 (n+2)=some (.cells [v] 0 false true):=by rw[<-hM1,dc _ _ _ _ (by omega)];exact de _ _ _
 have p3:M1 (n+3)=some (.cells [.bool false] 0 false true):=by rw[<-hM1];exact de _ _ _
 have hv1:By i pb M1 (n+4) v 37 (n8s rc.enc):=hv.fr (P:=0) (lo:=0) (hi:=0) (Fr.dF l1) (by omega) (by omega) (by omega) (.inl rfl)
 refine dw (mR hU (h.dF (show n<=n+4 by omega) l1) (p:=p) ((l1 _ (by omega)).trans hp) hI (f:=152) (cs:=[.pointer (some ⟨n,0,none⟩),.pointer (some ⟨n+1,0,none⟩),.pointer (some ⟨n+2,0,none⟩),.pointer (some ⟨n+3,0,none⟩)]) (dur':=dur) (ps':=ps++[Op.wr a rc]) fun m2 n2 k1 k2 k3=>?_) fun r3 m3 n3 r4 w3 hh=>?_
 ·have hv2:By i pb m2 n2 v 37 (n8s rc.enc):=hv1.fr (P:=i.P) (lo:=i.D) (hi:=i.D) (w:=0) (fun b hb h0 hk _=>⟨k3 b hb h0 (by omega),Nat.zero_testBit _⟩) (by omega) (by omega) k1 (.inl rfl)
  exact(Lq k2 hc (bd:=n) (ba:=n+1) (bb:=n+2) (bf:=n+3) ⟨by omega,by omega,by omega,by rw[k3 n (by omega) (by omega) (by omega)];exact p0⟩ ⟨by omega,by rw[k3 _ (by omega) (by omega) (by omega)];exact p1⟩ ⟨by omega,by rw[k3 _ (by omega) (by omega) (by omega)];exact p2⟩ ⟨by omega,by omega,by omega,by rw[k3 _ (by omega) (by omega) (by omega)];exact p3⟩ ha hr hv2.sh).mono fun _ _ _ _ hh=>hh.2
 ·obtain⟨e,rfl,_⟩:=hh.one
  simp -implicitDefEqProofs (disch:=omega)only[W2,dd,Nat.testBit,Nat.reduceAdd,Nat.reduceShiftRight,Nat.reduceAnd,Nat.reduceBNe,Nat.reduceMul]
  refine hQ _ _ _ _ _ (hh.up (by omega) l1 fun b hb=>?_)
  simp only[c9,dh (show b≠n by omega),dh (show b≠n+1 by omega),dh (show b≠n+2 by omega),dh (show b≠n+3 by omega)];rfl
theorem uO(hU:YUp Y){dur:List Sec}(h:Dsk i pb m n dur ps){p:Pw}(hp:PwR i.P m p)(hI:PwI p)(hc:ps.length<=100000)(ha:a<5):
  Rt (df PG EL Y 27 [.pointer (some ⟨i.D,0,none⟩),.int .u64 0,.int .i64 (a:Int)] m n) fun r m' n' w=>OpR i pb m n p dur ps dur (ps++[Op.er a]) r m' n' w:=by
 obtain⟨h1,h2,h3,h4,h5,h6,h7,h8,h9⟩:=h.cc.ok
 have hKN:=h.cc.KN
 have hpbN:=h.cc.pbN
 refine eZ (R:=fun r m' n' w=>OpR i pb m n p dur ps dur (ps++[Op.er a]) r m' n' w) e27 rfl (fun r m' n' w hh _ hw=>hh.free h hp hI (by omega) hw) fun Q hQ=>?_
 simp only[PK]
 simp -implicitDefEqProofs (disch:=omega)only[W2,dd,Nat.testBit,Nat.reduceAdd,Nat.reduceShiftRight,Nat.reduceAnd,Nat.reduceBNe,Nat.reduceMul,gj]
 generalize hM1:(AMem.put (AMem.put m n _) (n+1) _:FM)=M1
 have l1:∀b,b<n->M1 b=m b:=fun b hb=>by rw[<-hM1,dc _ _ _ _ (by omega),dc _ _ _ _ (by omega)]
 have p0:M1 n=some (.cells [.pointer (some ⟨i.D,0,none⟩)] 0 false true):=by rw[<-hM1,dc _ _ _ _ (by omega)];exact de _ _ _
 have p1:M1 (n+1)=some (.cells [.int .i64 (a:Int)] 0 false true):=by rw[<-hM1];exact de _ _ _
 refine dw (mR hU (h.dF (show n<=n+2 by omega) l1) (p:=p) ((l1 _ (by omega)).trans hp) hI (f:=59) (cs:=[.pointer (some ⟨n,0,none⟩),.pointer (some ⟨n+1,0,none⟩)]) (dur':=dur) (ps':=ps++[Op.er a]) fun m2 n2 k1 k2 k3=>?_) fun r3 m3 n3 r4 w3 hh=>?_
 ·exact(Lu k2 hc (bd:=n) (ba:=n+1) ⟨by omega,by omega,by omega,by rw[k3 n (by omega) (by omega) (by omega)];exact p0⟩ ⟨by omega,by rw[k3 _ (by omega) (by omega) (by omega)];exact p1⟩ ha).mono fun _ _ _ _ hh=>hh.2
 ·obtain⟨e,rfl,_⟩:=hh.one
  simp -implicitDefEqProofs (disch:=omega)only[W2,dd,Nat.testBit,Nat.reduceAdd,Nat.reduceShiftRight,Nat.reduceAnd,Nat.reduceBNe,Nat.reduceMul]
  refine hQ _ _ _ _ _ (hh.up (by omega) l1 fun b hb=>?_)
  simp only[c9,dh (show b≠n by omega),dh (show b≠n+1 by omega)];rfl
theorem oV(hU:YUp Y){dur:List Sec}(h:Dsk i pb m n dur ps){p:Pw}(hp:PwR i.P m p)(hI:PwI p)(hc:ps.length<=100000):
  Rt (df PG EL Y 29 [.pointer (some ⟨i.D,0,none⟩),.int .u64 0] m n) fun r m' n' w=>OpR i pb m n p dur ps (dR dur ps) [] r m' n' w:=by
 obtain⟨h1,h2,h3,h4,h5,h6,h7,h8,h9⟩:=h.cc.ok
 have hKN:=h.cc.KN
 have hpbN:=h.cc.pbN
 refine eZ (R:=fun r m' n' w=>OpR i pb m n p dur ps (dR dur ps) [] r m' n' w) e29 rfl (fun r m' n' w hh _ hw=>hh.free h hp hI (by omega) hw) fun Q hQ=>?_
 simp only[PI]
 simp -implicitDefEqProofs (disch:=omega)only[W2,dd,Nat.testBit,Nat.reduceAdd,Nat.reduceShiftRight,Nat.reduceAnd,Nat.reduceBNe,Nat.reduceMul,gj]
 generalize hM1:(AMem.put m n _:FM)=M1
 have l1:∀b,b<n->M1 b=m b:=fun b hb=>by rw[<-hM1,dc _ _ _ _ (by omega)]
 have p0:M1 n=some (.cells [.pointer (some ⟨i.D,0,none⟩)] 0 false true):=by rw[<-hM1];exact de _ _ _
 refine dw (mR hU (h.dF (show n<=n+1 by omega) l1) (p:=p) ((l1 _ (by omega)).trans hp) hI (f:=61) (cs:=[.pointer (some ⟨n,0,none⟩)]) (dur':=dR dur ps) (ps':=[]) fun m2 n2 k1 k2 k3=>?_) fun r3 m3 n3 r4 w3 hh=>?_
 ·exact(Lt k2 hc (bd:=n) ⟨by omega,by omega,by omega,by rw[k3 n (by omega) (by omega) (by omega)];exact p0⟩).mono fun _ _ _ _ hh=>hh.2
 ·obtain⟨e,rfl,_⟩:=hh.one
  simp -implicitDefEqProofs (disch:=omega)only[W2,dd,Nat.testBit,Nat.reduceAdd,Nat.reduceShiftRight,Nat.reduceAnd,Nat.reduceBNe,Nat.reduceMul]
  refine hQ _ _ _ _ _ (hh.up (by omega) l1 fun b hb=>?_)
  simp only[dh (show b≠n by omega)]
structure Rd(i:Ids)(pb:Nat)(M:FM)(N seen:Nat)(xs:List Sec):Prop where
 ok:i.Ok
 KN:i.K<=N
 st:∃md mc sc pv,M i.C=some (.cells [.pointer (some ⟨md,0,none⟩),.pointer (some ⟨mc,0,none⟩),pv] 0 false true)/\jB i pb M N mc sc xs/\((i.sd<=mc/\mc<=i.C)\/(i.K<=mc/\mc≠i.Q))/\((i.sd<=sc/\sc<=i.C)\/(i.K<=sc/\sc≠i.Q))
 dk:DkR i.D i.C i.P seen M
theorem Dsk.rd{dur:List Sec}(h:Dsk i pb M N dur ps):Rd i pb M N 0 (dR dur ps):=by
 obtain⟨h1,h2,h3,h4,h5,h6,h7,h8,h9⟩:=h.cc.ok
 obtain⟨pv,hst,_⟩:=h.cc.st
 exact⟨h.cc.ok,h.cc.KN,⟨i.md,i.mc,i.sc,pv,hst,h.cc.con,by omega,by omega⟩,h.dk⟩
theorem Rd.jT(h:Rd i pb M N seen xs)(hN:N<=N')(hf:∀b,b<N->b≠i.P->b≠i.D->M' b=M b)(hd:DkR i.D i.C i.P seen M'):Rd i pb M' N' seen xs:=by
 obtain⟨h1,h2,h3,h4,h5,h6,h7,h8,h9⟩:=h.ok
 have hK:=h.KN
 obtain⟨md,mc,sc,pv,h10,h11,h12,h13⟩:=h.st
 obtain⟨x1,x2,x3⟩:=h11.ids
 exact⟨h.ok,by omega,⟨md,mc,sc,pv,(hf _ (by omega) (by omega) (by omega)).trans h10,h11.fr (P:=i.P) (lo:=i.D) (hi:=i.D) (w:=0) (fun b hb h0 hk _=>⟨hf b hb h0 (by omega),Nat.zero_testBit _⟩) (by omega) (by omega) hN (.inl rfl) (hf _ x1 (by omega) (by omega)) (hf _ x2 (by omega) (by omega)),h12,h13⟩,hd⟩
theorem Rd.dF{M':FM}{N':Nat}(h:Rd i pb M N seen xs)(hN:N<=N')(hf:∀b,b<N->M' b=M b):Rd i pb M' N' seen xs:=by
 obtain⟨h1,h2,h3,h4,h5,h6,h7,h8,h9⟩:=h.ok
 have hK:=h.KN
 obtain⟨s0,s1,s2,s3,op,hd⟩:=h.dk
 exact h.jT hN (fun b hb _ _=>hf b hb) ⟨s0,s1,s2,s3,op,(hf _ (by omega)).trans hd⟩
theorem Rd.len(h:Rd i pb M N seen xs):xs.length=90:=by
 obtain⟨md,mc,sc,pv,h10,h11,_⟩:=h.st
 exact h11.len
def nO(x:Sec)(bo:Nat)(oc:Value)(m':FM)(n n':Nat)(r:Value):Prop:=match x with
 | .ent rc=>r=.int .i64 0/\∃v',m' bo=some (.cells [v'] 0 false true)/\SlZ 1 m' n n' v' 37 (n8s rc.enc)
 |_=>r=.int .i64 15/\m' bo=some (.cells [oc] 0 false true)
theorem Ow(h:Rd i pb m n seen xs){bd ba bo:Nat}{oc:Value}(kd:i.K<=bd/\bd≠bo/\bd<n/\m bd=some (.cells [.pointer (some ⟨i.D,0,none⟩)] 0 false true))(ka:ba<n/\m ba=some (.cells [.int .i64 (a:Int)] 0 false true))(ko:i.K<=bo/\bo<n/\m bo=some (.cells [oc] 0 false true))(ha:a<xs.length):
  Rt (df PG EL Y 123 [fV,.pointer (some ⟨bd,0,none⟩),.pointer (some ⟨ba,0,none⟩),.pointer (some ⟨bo,0,none⟩)] m n) fun r m' n' w=>n<=n'/\(∀b,b<n->b≠bo->b≠i.D->m' b=m b/\Nat.testBit w b=false)/\DkR i.D i.C i.P seen m'/\nO xs[a] bo oc m' n n' r:=by
 obtain⟨h1,h2,h3,h4,h5,h6,h7,h8,h9⟩:=h.ok
 have hKN:=h.KN
 have hxl:=h.len
 obtain⟨md,mc,sc,pv,hst,hmed,_⟩:=h.st
 obtain⟨s0,s1,s2,s3,op,hd⟩:=h.dk
 simp only[dkC]at hd
 obtain⟨kd1,kd2,kd3,kd4⟩:=kd
 obtain⟨ka3,ka4⟩:=ka
 obtain⟨ko1,ko3,ko4⟩:=ko
 refine eZ (R:=fun r m' n' w=>n<=n'/\(∀b,b<n->b≠bo->b≠i.D->m' b=m b/\Nat.testBit w b=false)/\DkR i.D i.C i.P seen m'/\nO xs[a] bo oc m' n n' r/\(Nat.testBit w bo=true\/∀rc,xs[a]≠.ent rc)) e123 rfl (fun r m' n' w hh _ hw=>?_) (fun Q hQ=>?_) |>.mono fun r m' n' w hh=>⟨hh.1,hh.2.1,hh.2.2.1,hh.2.2.2.1⟩
 ·obtain⟨_,_,_,q4,q5⟩:=hh
  refine⟨Nat.le_refl _,fun b _ _ _=>⟨rfl,Nat.zero_testBit _⟩,⟨s0,s1,s2,s3,op,hd⟩,?_,?_⟩
  all_goals rcases q5 with q5|q5
  ·rw[dK hw _ ko3]at q5;cases q5
  ·cases hx:xs[a]with
   |ent rc=>exact absurd hx (q5 rc)
   |blank=>rw[hx]at q4;exact⟨q4.1,ko4⟩
   |dead=>rw[hx]at q4;exact⟨q4.1,ko4⟩
  ·rw[dK hw _ ko3]at q5;cases q5
  ·exact .inr q5
 ·simp only[JV,fV]
  generalize hM1:(AMem.put m n (some (Blk.cells [Value.int IntKind.i64 0,Value.int IntKind.i64 0,Value.int IntKind.i64 0] 0 false true)):FM)=M1
  have l1:∀b,b<n->M1 b=m b:=fun b hb=>by rw[<-hM1,dc _ _ _ _ (by omega)]
  have lf:M1 n=some (Blk.cells [Value.int IntKind.i64 0,Value.int IntKind.i64 0,Value.int IntKind.i64 0] 0 false true):=by rw[<-hM1];exact de _ _ _
  have hD1:=h.dF (show n<=n+1 by omega) l1
  have kd5:=(l1 bd kd3).trans kd4
  have ka5:=(l1 ba ka3).trans ka4
  have ko5:=(l1 bo ko3).trans ko4
  have hd1:=(l1 i.D (by omega)).trans hd
  have hst1:=(l1 i.C (by omega)).trans hst
  have hmed1:jB i pb M1 (n+1) mc sc xs:=hmed.fr (P:=0) (lo:=0) (hi:=0) (Fr.dF l1) (by omega) (by omega) (by omega) (.inl rfl) (l1 _ hmed.ids.1) (l1 _ hmed.ids.2.1)
  simp -implicitDefEqProofs (disch:=omega)only[W2,dd,Nat.testBit,Nat.reduceAdd,Nat.reduceShiftRight,Nat.reduceAnd,Nat.reduceBNe,Nat.reduceMul,hM1,kd5,ka5]
  refine di (xt (by omega) hD1.dk (by omega)) fun r1=>?_
  simp -implicitDefEqProofs (disch:=omega)only[W2,dd,Nat.testBit,Nat.reduceAdd,Nat.reduceShiftRight,Nat.reduceAnd,Nat.reduceBNe,Nat.reduceMul,ka5,lf,kd5,hd1]
  refine dw (CZ (by omega) hst1 hmed1 ha) fun r2 m2 n2 r3 w2 hh=>?_
  obtain⟨hn2,hf2,hw2,hR2⟩:=hh
  have ko6:=(hf2 bo (by omega)).trans ko5
  have kd6:=(hf2 bd (by omega)).trans kd5
  have hd2:=(hf2 i.D (by omega)).trans hd1
  have fr0:∀b,b<n->b≠bo->b≠i.D->m2 b=m b/\Nat.testBit (Nat.lor (bit n) w2) b=false:=fun b hb _ _=>⟨by rw[hf2 b (by omega),l1 b hb],by rw[c9,dh (show b≠n by omega),dK (hw2 (n+1) (Nat.le_refl _)) b (by omega)];rfl⟩
  generalize xs[a]=x at *
  cases x with
  |blank=>
   subst hR2
   simp -implicitDefEqProofs (disch:=omega)only[W2,dd,Nat.testBit,Nat.reduceAdd,Nat.reduceShiftRight,Nat.reduceAnd,Nat.reduceBNe,Nat.reduceMul,dH]
   exact hQ _ _ _ _ _ ⟨by omega,fr0,⟨s0,s1,s2,s3,op,hd2⟩,⟨rfl,ko6⟩,.inr fun _ h=>by cases h⟩
  |dead=>
   subst hR2
   simp -implicitDefEqProofs (disch:=omega)only[W2,dd,Nat.testBit,Nat.reduceAdd,Nat.reduceShiftRight,Nat.reduceAnd,Nat.reduceBNe,Nat.reduceMul,dH]
   exact hQ _ _ _ _ _ ⟨by omega,fr0,⟨s0,s1,s2,s3,op,hd2⟩,⟨rfl,ko6⟩,.inr fun _ h=>by cases h⟩
  |ent rc=>
   obtain⟨v',rfl,hS2⟩:=hR2
   have hvo:=hS2.one
   simp -implicitDefEqProofs (disch:=omega)only[W2,dd,Nat.testBit,Nat.reduceAdd,Nat.reduceShiftRight,Nat.reduceAnd,Nat.reduceBNe,Nat.reduceMul,dH,ko6,hvo,dW hvo,kd6,hd2]
   refine hQ _ _ _ _ _ ⟨by omega,fun b hb k1 k2=>⟨by rw[dc _ _ _ _ k2,dc _ _ _ _ k1,hf2 b (by omega),l1 b hb],?_⟩,⟨_,s1,s2,s3,op,de _ _ _⟩,⟨rfl,v',by rw[dc _ _ _ _ (by omega)];exact de _ _ _,(hS2.low (by omega)).frame (Nat.le_refl _) ?_⟩,.inl (by simp only[c9,dn];simp)⟩
   ·simp only[c9,dK (hw2 (n+1) (Nat.le_refl _)) b (by omega),dh (show b≠n by omega),dh k1,dh k2];rfl
   ·intro b q1 q2
    rw[dc _ _ _ _ (by omega),dc _ _ _ _ (by omega)]
def PwS(seen:Nat)(p:Pw):Prop:=(p.off=false/\p.fl=seen/\seen<=1)\/(p.off=true/\p.fl<=seen+1/\p.armed=false)
def RdR(i:Ids)(m:FM)(n seen:Nat)(p:Pw)(ok bad:FM->Nat->Value->Prop)(v:Value)(m':FM)(n' w:Nat):Prop:=
 (Nat.testBit w i.P=true\/p.off=true)/\n<=n'/\(∀b,b<n->b≠i.P->b≠i.D->m' b=m b/\Nat.testBit w b=false)/\DkR i.D i.C i.P seen m'/\∃p',PwR i.P m' p'/\PwS seen p'/\
  ((p.off=false/\¬p.due/\p'.off=false/\p'.armed=p.armed/\ok m' n' v)\/(bad m' n' v/\p'.off=true/\(p.off=true\/p.due)))
theorem RdR.free{p:Pw}{ok bad:FM->Nat->Value->Prop}(hb:bad m' n' v->bad m n v)(hd:DkR i.D i.C i.P seen m)(hp:PwR i.P m p)(hI:PwS seen p)(hP:i.P<n)(hr:RdR i m n seen p ok bad v m' n' w)(hw:Nat.mod w (bit n)=0):RdR i m n seen p ok bad v m n 0:=by
 obtain⟨ht,_,_,_,p',_,_,hc⟩:=hr
 have ho:p.off=true:=by
  rcases ht with ht|ht
  ·rw[dK hw _ hP]at ht;cases ht
  ·exact ht
 refine⟨.inr ho,Nat.le_refl _,fun b _ _ _=>⟨rfl,Nat.zero_testBit _⟩,hd,p,hp,hI,.inr ?_⟩
 rcases hc with⟨h0,_⟩|⟨h0,_⟩
 ·rw[ho]at h0;cases h0
 ·exact⟨hb h0,ho,.inl ho⟩
theorem RdR.up{p:Pw}{ok ok' bad bad':FM->Nat->Value->Prop}{v':Value}{m'':FM}{n'' w2:Nat}(h:RdR i m1 n1 seen p ok bad v m' n' w)(hn:n<=n1)(hf:∀b,b<n->m1 b=m b)(hw:∀b,b<n->Nat.testBit w1 b=false)(hn2:n'<=n'')(hD:m'' i.D=m' i.D)(hP:m'' i.P=m' i.P)(hPn:i.P<n)(hf2:∀b,b<n->b≠i.P->b≠i.D->m'' b=m' b)(hw2:∀b,b<n->b≠i.P->b≠i.D->Nat.testBit w2 b=false)(hok:ok m' n' v->ok' m'' n'' v')(hbad:bad m' n' v->bad' m'' n'' v'):RdR i m n seen p ok' bad' v' m'' n'' (Nat.lor (Nat.lor w1 w) w2):=by
 obtain⟨k1,k2,k3,⟨s0,s1,s2,s3,op,hd⟩,p',k4,k5,k6⟩:=h
 refine⟨?_,by omega,fun b hb h0 h1=>⟨by rw[hf2 b hb h0 h1,(k3 b (by omega) h0 h1).1,hf b hb],by rw[c9,c9,hw b hb,(k3 b (by omega) h0 h1).2,hw2 b hb h0 h1];rfl⟩,⟨s0,s1,s2,s3,op,hD.trans hd⟩,p',hP.trans k4,k5,?_⟩
 ·rcases k1 with k1|k1
  ·exact .inl (by rw[c9,c9,k1];simp)
  ·exact .inr k1
 ·rcases k6 with⟨q1,q2,q3,q4,q5⟩|⟨q1,q2⟩
  ·exact .inl ⟨q1,q2,q3,q4,hok q5⟩
  ·exact .inr ⟨hbad q1,q2⟩
theorem F6(hU:YUp Y)(h:Rd i pb m n seen xs){p:Pw}(hp:PwR i.P m p)(hI:PwS seen p)(ha:a<xs.length):
  Rt (df PG EL Y 77 [.pointer (some ⟨i.D,0,none⟩),.int .u64 0,.int .i64 (a:Int)] m n) fun v m' n' w=>RdR i m n seen p (fun m' n' v=>nN xs[a] m' n n' v) (fun _ _ v=>v=.tuple #[.slice none 0 0,.int .i64 13]) v m' n' w:=by
 obtain⟨h1,h2,h3,h4,h5,h6,h7,h8,h9⟩:=h.ok
 have hKN:=h.KN
 refine eZ (R:=fun v m' n' w=>RdR i m n seen p (fun m' n' v=>nN xs[a] m' n n' v) (fun _ _ v=>v=.tuple #[.slice none 0 0,.int .i64 13]) v m' n' w) e77 rfl (fun r m' n' w hh _ hw=>hh.free id h.dk hp hI (by omega) hw) fun Q hQ=>?_
 simp only[OW]
 simp -implicitDefEqProofs (disch:=omega)only[W2,dd,Nat.testBit,Nat.reduceAdd,Nat.reduceShiftRight,Nat.reduceAnd,Nat.reduceBNe,Nat.reduceMul,gj]
 generalize hM1:(AMem.put (AMem.put (AMem.put m n _) (n+1) _) (n+2) _:FM)=M1
 have l1:∀b,b<n->M1 b=m b:=fun b hb=>by rw[<-hM1,dc _ _ _ _ (by omega),dc _ _ _ _ (by omega),dc _ _ _ _ (by omega)]
 have p0:M1 n=some (.cells [.pointer (some ⟨i.D,0,none⟩)] 0 false true):=by rw[<-hM1,dc _ _ _ _ (by omega),dc _ _ _ _ (by omega)];exact de _ _ _
 have p1:M1 (n+1)=some (.cells [.int .i64 (a:Int)] 0 false true):=by rw[<-hM1,dc _ _ _ _ (by omega)];exact de _ _ _
 have p2:M1 (n+2)=some (.cells [.slice none 0 0] 0 false true):=by rw[<-hM1];exact de _ _ _
 have hD1:=h.dF (show n<=n+3 by omega) l1
 have hp1:PwR i.P M1 p:=(l1 _ (by omega)).trans hp
 have lw:∀b,b<n->Nat.testBit (Nat.lor (Nat.lor (bit n) (bit (n+1))) (bit (n+2))) b=false:=fun b hb=>by simp only[c9,dh (show b≠n by omega),dh (show b≠n+1 by omega),dh (show b≠n+2 by omega)];rfl
 refine dw (R:=fun v m' n' w=>RdR i M1 (n+2) seen p (fun m' n' v=>n+3<=n'/\nO xs[a] (n+2) (.slice none 0 0) m' n n' v) (fun m' n' v=>v=.int .i64 13/\n+3<=n'/\m' (n+2)=M1 (n+2)) v m' n' w) ?_ fun r3 m3 n3 r4 w3 hh=>?_
 ·by_cases ho:p.off=true
  ·exact Rt.lU (rP (by omega) (by omega) hD1.dk hp1 ho rfl) ⟨.inr ho,by omega,fun b _ _ _=>⟨rfl,Nat.zero_testBit _⟩,hD1.dk,p,hp1,hI,.inr ⟨⟨rfl,Nat.le_refl _,rfl⟩,ho,.inl ho⟩⟩
  ·have hoff:p.off=false:=by cases hh:p.off with|false=>rfl|true=>exact absurd hh ho
   have hfl:p.fl=seen/\seen<=1:=by rcases hI with⟨_,h⟩|h;· exact h
                                   ·exact absurd h.1 ho
   by_cases hdue:p.due
   ·refine(rQ (by omega) (by omega) hD1.dk hp1 hoff hfl.1.symm hdue (by omega) rfl).mono fun r m' n' w hh=>?_
    obtain⟨k1,rfl,rfl,k2,z,k3⟩:=hh
    obtain⟨s0,s1,s2,s3,op,hd⟩:=hD1.dk
    exact⟨.inl k1,by omega,fun b hb h0 _=>k2 b h0,⟨s0,s1,s2,s3,op,(k2 _ (by omega)).1.trans hd⟩,_,k3,.inr ⟨rfl,by simp[hfl.1],rfl⟩,.inr ⟨⟨rfl,Nat.le_refl _,(k2 _ (by omega)).1⟩,rfl,.inr hdue⟩⟩
   ·refine(uf hU (by omega) (by omega) (by omega) hD1.dk hp1 hoff hfl.1.symm hdue (f:=123) (cs:=[.pointer (some ⟨n,0,none⟩),.pointer (some ⟨n+1,0,none⟩),.pointer (some ⟨n+2,0,none⟩)]) (R:=fun r m' n' w=>n+3<=n'/\(∀b,b<n+2->b≠i.P->b≠i.D->m' b=M1 b/\Nat.testBit w b=false)/\DkR i.D i.C i.P seen m'/\nO xs[a] (n+2) (.slice none 0 0) m' n n' r/\∃z,PwR i.P m' ⟨false,p.armed,z,p.fl⟩) (fun v m n w k=>?_) fun m2 n2 z k1 k2 k3 k4=>?_).mono fun r m' n' w hh=>?_
    ·have:=k.2.2.2.1
     cases hx:xs[a]with
     |ent rc=>rw[hx]at this;rw[this.1];rfl
     |blank=>rw[hx]at this;rw[this.1];rfl
     |dead=>rw[hx]at this;rw[this.1];rfl
    ·refine(Ow (hD1.jT k1 k2 k3) (bd:=n) (ba:=n+1) (bo:=n+2) (oc:=.slice none 0 0) ⟨by omega,by omega,by omega,by rw[k2 n (by omega) (by omega) (by omega)];exact p0⟩ ⟨by omega,by rw[k2 _ (by omega) (by omega) (by omega)];exact p1⟩ ⟨by omega,by omega,by rw[k2 _ (by omega) (by omega) (by omega)];exact p2⟩ ha).mono fun r m' n' w hh=>?_
     obtain⟨q1,q2,q3,q4⟩:=hh
     refine⟨by omega,fun b hb e1 e2=>⟨by rw[(q2 b (by omega) (by omega) e2).1,k2 b (by omega) e1 e2],(q2 b (by omega) (by omega) e2).2⟩,q3,?_,z,by rw[PwR,(q2 i.P (by omega) (by omega) (by omega)).1];exact k4⟩
     cases hx:xs[a]with
     |ent rc=>
      rw[hx]at q4
      obtain⟨e1,v',e2,e3⟩:=q4
      exact⟨e1,v',e2,e3.low (by omega)⟩
     |blank=>rw[hx]at q4;exact q4
     |dead=>rw[hx]at q4;exact q4
    ·obtain⟨q1,w0,w1,rfl,q2,q3,q4,q5,q6,z,q7⟩:=hh
     exact⟨.inl q1,by omega,fun b hb e1 e2=>⟨(q4 b hb e1 e2).1,by rw[c9,q2 b (by omega) e1 e2,(q4 b hb e1 e2).2];rfl⟩,q5,_,q7,.inl ⟨rfl,hfl⟩,.inl ⟨hoff,hdue,rfl,rfl,q3,q6⟩⟩
 ·have l1':∀b,b<n->M1 b=m b:=l1
  have fin:∀v',(nO xs[a] (n+2) (.slice none 0 0) m3 n n3 r3->nN xs[a] m3 n n3 v')->(r3=.int .i64 13->v'=.tuple #[.slice none 0 0,.int .i64 13])->RdR i m n seen p (fun m' n' v=>nN xs[a] m' n n' v) (fun _ _ v=>v=.tuple #[.slice none 0 0,.int .i64 13]) v' m3 n3 (Nat.lor (Nat.lor (Nat.lor (Nat.lor (bit n) (bit (n+1))) (bit (n+2))) w3) 0):=fun v' h1 h2=>hh.up (by omega) l1 lw (Nat.le_refl _) rfl rfl (by omega) (fun _ _ _ _=>rfl) (fun b _ _ _=>Nat.zero_testBit b) (fun h=>h1 h.2) (fun h=>h2 h.1)
  obtain⟨_,_,_,_,p',_,_,hc⟩:=hh
  rcases hc with⟨_,_,_,_,hn3,hc⟩|⟨⟨rfl,hn3,h2⟩,_⟩
  ·generalize xs[a]=x at *
   cases x with
   |blank=>
    obtain⟨rfl,hc2⟩:=hc
    simp -implicitDefEqProofs (disch:=omega)only[W2,dd,Nat.testBit,Nat.reduceAdd,Nat.reduceShiftRight,Nat.reduceAnd,Nat.reduceBNe,Nat.reduceMul,hc2]
    rw[<-dZ (Nat.lor (Nat.lor (Nat.lor (bit n) (bit (n+1))) (bit (n+2))) w3)]
    exact hQ _ _ _ _ _ (fin _ (fun _=>rfl) (fun h=>by cases h))
   |dead=>
    obtain⟨rfl,hc2⟩:=hc
    simp -implicitDefEqProofs (disch:=omega)only[W2,dd,Nat.testBit,Nat.reduceAdd,Nat.reduceShiftRight,Nat.reduceAnd,Nat.reduceBNe,Nat.reduceMul,hc2]
    rw[<-dZ (Nat.lor (Nat.lor (Nat.lor (bit n) (bit (n+1))) (bit (n+2))) w3)]
    exact hQ _ _ _ _ _ (fin _ (fun _=>rfl) (fun h=>by cases h))
   |ent rc=>
    obtain⟨rfl,v',hc2,hc3⟩:=hc
    have hvo:=hc3.one
    simp -implicitDefEqProofs (disch:=omega)only[W2,dd,Nat.testBit,Nat.reduceAdd,Nat.reduceShiftRight,Nat.reduceAnd,Nat.reduceBNe,Nat.reduceMul,hc2,hvo]
    rw[<-dZ (Nat.lor (Nat.lor (Nat.lor (bit n) (bit (n+1))) (bit (n+2))) w3)]
    exact hQ _ _ _ _ _ (fin _ (fun _=>⟨v',rfl,hc3⟩) (fun h=>by cases h))
  ·rw[p2]at h2
   simp -implicitDefEqProofs (disch:=omega)only[W2,dd,Nat.testBit,Nat.reduceAdd,Nat.reduceShiftRight,Nat.reduceAnd,Nat.reduceBNe,Nat.reduceMul,h2]
   rw[<-dZ (Nat.lor (Nat.lor (Nat.lor (bit n) (bit (n+1))) (bit (n+2))) w3)]
   refine hQ _ _ _ _ _ (fin _ (fun h=>?_) (fun _=>rfl))
   cases hx:xs[a]with
   |ent rc=>rw[hx]at h;cases h.1
   |blank=>rw[hx]at h;cases h.1
   |dead=>rw[hx]at h;cases h.1
end Go.Am.CD
