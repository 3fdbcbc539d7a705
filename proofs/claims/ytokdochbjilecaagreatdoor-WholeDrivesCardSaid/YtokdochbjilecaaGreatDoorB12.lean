/- The machine and its runs, part 12: AyNa AyNb AyNc AyNd AyNe AyNf AyNg AyNh. -/
import Derived.Test.YtokdochbjilecaaGreatDoorB11
set_option linter.unusedVariables false
set_option linter.unusedSimpArgs false
set_option linter.unusedSectionVars false
namespace Go.Am.CD
set_option maxRecDepth 100000
open Go Go.Am
variable{E:Nat->Option AFn}{Y:Nat->List Value->FM->Nat->OR FM}
variable{n t pb Rb D seen EN vb cf N S q b C P n0 bd N' f j len ba w:Nat}{m M M' M0:FM}{i:Ids}{bv ev tv v fv:Value}{bs l:List Bnd}{fe z:Int}{ps ps':List Op}{dur xs dur':List Sec}{p:Pw}{ccs cs:List Value}{l0:List Nat}{rc:Rec}{Q:AX->List Value->FM->Nat->Nat->Prop}
theorem tX{f:Nat}{cs:List Value}{R:Value->FM->Nat->Nat->Prop}(hone:∀v m' n' w,R v m' n' w->∃e:Int,v=.int .i64 e/\e≠16)(hfree:∀v m' n' w,R v m' n' w->Nat.mod w (bit n)=0->R v m n 0)(hcall:Rt (df PG EL Y f cs m n) R):
  Rt (df PG EL Y 25 [.func (.func f) #[] cs.toArray] m n) R:=by
 refine eZ (R:=R) e25 rfl (fun v m' n' w h _ hw=>hfree v m' n' w h hw) fun Q hQ=>?_
 simp only[PM]
 simp -implicitDefEqProofs (disch:=omega)only[W2,dd,Nat.testBit,Nat.reduceAdd,Nat.reduceShiftRight,Nat.reduceAnd,Nat.reduceBNe,Nat.reduceMul,jw,ml,List.nil_append]
 refine dw hcall fun r1 m1 n1 r2 w1 hh=>?_
 obtain⟨e,rfl,he⟩:=hone _ _ _ _ hh
 simp -implicitDefEqProofs (disch:=omega)only[W2,dd,Nat.testBit,Nat.reduceAdd,Nat.reduceShiftRight,Nat.reduceAnd,Nat.reduceBNe,Nat.reduceMul]
 refine dS (dm (L:=I9) (b:=zc) rfl ?_)
 simp only[zc]
 simp -implicitDefEqProofs (disch:=omega)only[W2,dd,Nat.testBit,Nat.reduceAdd,Nat.reduceShiftRight,Nat.reduceAnd,Nat.reduceBNe,Nat.reduceMul]
 intro rr
 simp -implicitDefEqProofs (disch:=omega)only[W2,dd,Nat.testBit,Nat.reduceAdd,Nat.reduceShiftRight,Nat.reduceAnd,Nat.reduceBNe,Nat.reduceMul]
 exact hQ _ _ _ _ _ hh
structure Ent where
 kd:Nat
 ver:Nat
 adr:Nat
def Ent.k(x:Ent):Int:=if x.ver=0 then 0 else(x.kd:Int)
def Ent.a(x:Ent):Int:=if x.ver=0 then -1 else(x.adr:Int)
def ee:List Ent->List Value
 |[]=>[]
 |x::xs=>.int .i64 x.k::.int .u64 (x.ver:Int)::.int .i64 x.a::ee xs
theorem mj:∀l:List Ent,(ee l).length=l.length*3
 |[]=>rfl
 |x::xs=>by simp only[ee,List.length_cons,mj xs];omega
theorem uL:∀a b:List Ent,ee (a++b)=ee a++ee b
 |[],b=>rfl
 |x::xs,b=>by simp only[ee,List.cons_append,uL xs b]
theorem A6(l:List Ent):∀j,(ee l).drop (j*3)=ee (l.drop j):=by
 induction l with
 |nil=>intro j;simp[ee]
 |cons x xs ih=>
  intro j
  cases j with
  |zero=>simp
  |succ j=>rw[show(j+1)*3=j*3+1+1+1 by omega,ee,List.drop_succ_cons,List.drop_succ_cons,List.drop_succ_cons,ih j,List.drop_succ_cons]
theorem iY{l:List Ent}(h:j<l.length):lE (ee l) (j*3)=.int .i64 l[j].k::.int .u64 (l[j].ver:Int)::.int .i64 l[j].a::ee (l.drop (j+1))/\fh (ee l) (j*3)=some (.int .i64 l[j].k)/\fh (ee l) (j*3+1)=some (.int .u64 (l[j].ver:Int))/\fh (ee l) (j*3+2)=some (.int .i64 l[j].a):=by
 have e:(ee l).drop (j*3)=.int .i64 l[j].k::.int .u64 (l[j].ver:Int)::.int .i64 l[j].a::ee (l.drop (j+1)):=by
  rw[A6,List.drop_eq_getElem_cons h,ee]
 have g:∀k,fh (ee l) (j*3+k)=((ee l).drop (j*3))[k]?:=fun k=>by rw[eV,List.getElem?_drop]
 refine⟨?_,by have:=g 0;rw[e]at this;exact this,by have:=g 1;rw[e]at this;exact this,by have:=g 2;rw[e]at this;exact this⟩
 rw[jd,e]
theorem oU(l:List Ent):∀(k:Nat) (h:k<l.length) (x:Ent),setCells (ee l) (k*3) [.int .i64 x.k,.int .u64 (x.ver:Int),.int .i64 x.a]=some (ee (l.set k x)):=by
 induction l with
 |nil=>intro k h;cases h
 |cons y ys ih=>
  intro k h x
  cases k with
  |zero=>
   rw[eh,if_pos (by rw[mj];simp;omega)]
   rfl
  |succ k=>
   have hl:k<ys.length:=by rw[List.length_cons]at h;omega
   have:=ih k hl x
   rw[eh]at this ⊢
   rw[if_pos (by rw[mj];simp;omega)]at this
   rw[if_pos (by rw[mj,List.length_cons];simp;omega)]
   injection this with this
   rw[List.set_cons_succ,ee,ee,<-this,show(k+1)*3=k*3+1+1+1 by omega]
   simp only[List.take_succ_cons,List.drop_succ_cons,List.cons_append,List.length_cons,List.length_nil]
structure Dr(D Rb EN:Nat)(M:FM)(es:List Ent)(bv:Value)(t:Nat)(fe:Int):Prop where
 r:M Rb=some (.cells [.pointer (some ⟨D,0,none⟩),.int .u64 0,.slice (some ⟨EN,0,none⟩) es.length UNK,bv,.int .u64 (t:Int),.int .i64 fe] 0 false true)
 en:M EN=some (.cells (ee es) 3 true true)
 el:es.length=6
theorem Dr.dF{Rb:Nat}{M':FM}{es:List Ent}(h:Dr D Rb EN M es bv t fe)(h1:M' Rb=M Rb)(h2:M' EN=M EN):Dr D Rb EN M' es bv t fe:=⟨h1.trans h.r,h2.trans h.en,h.el⟩
theorem jy{b k c:Nat}(h:k<len):fU 3 k (.slice (some ⟨b,0,none⟩) len c)=some (.pointer (some ⟨b,k*3,none⟩)):=by rw[eY h,Nat.zero_add]
theorem Ie(a:Addr):ji PG .eql 31 (.pointer (some a)) (.pointer none)=some (.bool false):=by
 rw[jY (by kernel_rfl)];rfl
theorem lF(hD:D<n)(hd:DkR D C P seen m):Pure (df PG EL Y 37 [.pointer (some ⟨D,0,none⟩)] m n) m n gV:=by
 obtain⟨s0,s1,s2,s3,op,hd⟩:=hd
 simp only[dkC]at hd
 refine dz e37 rfl rfl ?_
 simp only[Pz,gV]
 simp -implicitDefEqProofs (disch:=omega)only[W2,dd,Nat.testBit,Nat.reduceAdd,Nat.reduceShiftRight,Nat.reduceAnd,Nat.reduceBNe,Nat.reduceMul,nn,hd]
theorem gH{es:List Ent}(hD:D<n)(hR:Rb<n)(hd:DkR D C P seen m)(h:Dr D Rb EN m es bv t fe):Pure (df PG EL Y 66 [.pointer (some ⟨Rb,0,none⟩)] m n) m n (.int .i64 6):=by
 have hr:=h.r
 refine dz e66 rfl rfl ?_
 simp only[Pa]
 simp -implicitDefEqProofs (disch:=omega)only[W2,dd,Nat.testBit,Nat.reduceAdd,Nat.reduceShiftRight,Nat.reduceAnd,Nat.reduceBNe,Nat.reduceMul,hr]
 refine di (lF hD hd) fun r1=>?_
 simp -implicitDefEqProofs (disch:=omega)only[W2,dd,Nat.testBit,Nat.reduceAdd,Nat.reduceShiftRight,Nat.reduceAnd,Nat.reduceBNe,Nat.reduceMul]
 refine di (hH _ _) fun r2=>?_
 simp -implicitDefEqProofs (disch:=omega)only[W2,dd,Nat.testBit,Nat.reduceAdd,Nat.reduceShiftRight,Nat.reduceAnd,Nat.reduceBNe,Nat.reduceMul]
theorem uQ{es:List Ent}(hD:D<n)(hR:Rb<n)(hd:DkR D C P seen m)(h:Dr D Rb EN m es bv t fe)(a:Nat)(ha:60<=a)(hz:a<90):Pure (df PG EL Y 69 [.pointer (some ⟨Rb,0,none⟩),.int .i64 (a:Int)] m n) m n (.int .i64 (((a-60) / 6:Nat):Int)):=by
 have hr:=h.r
 refine dz e69 rfl rfl ?_
 simp only[O8]
 simp -implicitDefEqProofs (disch:=omega)only[W2,dd,Nat.testBit,Nat.reduceAdd,Nat.reduceShiftRight,Nat.reduceAnd,Nat.reduceBNe,Nat.reduceMul,hr]
 refine di (lF hD hd) fun r1=>?_
 simp only[gV]
 simp -implicitDefEqProofs (disch:=omega)only[W2,dd,Nat.testBit,Nat.reduceAdd,Nat.reduceShiftRight,Nat.reduceAnd,Nat.reduceBNe,Nat.reduceMul,G4,Ia]
 refine di (gH hD hR hd h) fun r2=>?_
 simp -implicitDefEqProofs (disch:=omega)only[W2,dd,Nat.testBit,Nat.reduceAdd,Nat.reduceShiftRight,Nat.reduceAnd,Nat.reduceBNe,Nat.reduceMul]
theorem uP{es:List Ent}(hR:Rb<n)(h:Dr D Rb EN m es bv t fe){k:Nat}(hk:k<es.length):Pure (df PG EL Y 41 [.pointer (some ⟨Rb,0,none⟩),.int .i64 (k:Int)] m n) m n (.bool true):=by
 have hel:=h.el
 have hr:=h.r
 refine dz e41 rfl rfl ?_
 simp only[Pv]
 simp -implicitDefEqProofs (disch:=omega)only[W2,dd,Nat.testBit,Nat.reduceAdd,Nat.reduceShiftRight,Nat.reduceAnd,Nat.reduceBNe,Nat.reduceMul,hr]
theorem gy(hR:Rb<n)(hr:m Rb=some (.cells [.pointer (some ⟨D,0,none⟩),.int .u64 0,ev,bv,tv,.int .i64 fe] 0 false true)):Pure (df PG EL Y 31 [.pointer (some ⟨Rb,0,none⟩)] m n) m n (.int .i64 fe):=by
 refine dz e31 rfl rfl ?_
 simp only[PF]
 simp -implicitDefEqProofs (disch:=omega)only[W2,dd,Nat.testBit,Nat.reduceAdd,Nat.reduceShiftRight,Nat.reduceAnd,Nat.reduceBNe,Nat.reduceMul,Ie,hr]
theorem xk(hR:Rb<n)(hr:m Rb=some (.cells [.pointer (some ⟨D,0,none⟩),.int .u64 0,ev,bv,tv,.int .i64 fe] 0 false true)):Rt (df PG EL Y 32 [.pointer (some ⟨Rb,0,none⟩),.int .i64 13] m n) fun r m' n' w=>Nat.testBit w Rb=true/\(r=.int .i64 13/\n'=n/\(∀b,b≠Rb->m' b=m b/\Nat.testBit w b=false)/\m' Rb=some (.cells [.pointer (some ⟨D,0,none⟩),.int .u64 0,ev,bv,tv,.int .i64 13] 0 false true)):=by
 refine dY (R:=fun r m' n' w=>(r=.int .i64 13/\n'=n/\(∀b,b≠Rb->m' b=m b/\Nat.testBit w b=false)/\m' Rb=some (.cells [.pointer (some ⟨D,0,none⟩),.int .u64 0,ev,bv,tv,.int .i64 13] 0 false true))) e32 rfl hR fun Q hQ=>?_
 simp only[L4]
 simp -implicitDefEqProofs (disch:=omega)only[W2,dd,Nat.testBit,Nat.reduceAdd,Nat.reduceShiftRight,Nat.reduceAnd,Nat.reduceBNe,Nat.reduceMul,hr]
 exact hQ _ _ _ _ _ (by rw[dn];simp) ⟨rfl,rfl,fun b hb=>⟨dc _ _ _ _ hb,dh hb⟩,de _ _ _⟩
theorem Ln:Pure (df PG EL Y 32 [.pointer (some ⟨Rb,0,none⟩),.int .i64 0] m n) m n (.int .i64 0):=by
 refine dz e32 rfl rfl ?_
 simp only[L4]
 simp -implicitDefEqProofs (disch:=omega)only[W2,dd,Nat.testBit,Nat.reduceAdd,Nat.reduceShiftRight,Nat.reduceAnd,Nat.reduceBNe,Nat.reduceMul]
theorem tI{sz:Nat}{e:Int}(h:SlZ sz M n0 N v len cs)(k:Nat)(hk:N<=k):et k (.tuple #[v,.int .i64 e])=true:=by
 rcases h with⟨_,_,rfl⟩|⟨_,_,b,rfl,_,hb,_⟩
 ·rfl
 ·show(Nat.blt b k&&(true&&true))=true
  rw[dC (by omega)];rfl
theorem Cn(k:Nat)(e:Int):et k (.tuple #[.slice none 0 0,.int .i64 e])=true:=rfl
theorem IK(hU:YUp Y)(h:Rd i pb m n seen xs)(hp:PwR i.P m p)(hI:PwS seen p){n0 bd ba bo a:Nat}(hn0:i.K<=n0)(hR:Rb<n/\Rb≠bo/\m Rb=some (.cells [.pointer (some ⟨i.D,0,none⟩),.int .u64 0,ev,bv,tv,fv] 0 false true))(kd:bd≠bo/\bd<n/\m bd=some (.cells [.pointer (some ⟨Rb,0,none⟩)] 0 false true))(ka:ba≠bo/\ba<n/\m ba=some (.cells [.int .i64 (a:Int)] 0 false true))(ko:n0<=bo/\bo<n/\m bo=some (.cells [.slice none 0 0] 0 false true))(ha:a<xs.length):
  Rt (df PG EL Y 76 [.pointer (some ⟨bd,0,none⟩),.pointer (some ⟨ba,0,none⟩),.pointer (some ⟨bo,0,none⟩)] m n) fun r m' n' w=>Nat.testBit w bo=true/\(n<=n'/\RdR i m n0 seen p (fun m' n' r=>nO xs[a] bo (.slice none 0 0) m' n n' r) (fun m' n' r=>r=.int .i64 13/\m' bo=some (.cells [.slice none 0 0] 0 false true)) r m' n' w):=by
 obtain⟨h1,h2,h3,h4,h5,h6,h7,h8,h9⟩:=h.ok
 have hKN:=h.KN
 obtain⟨R1,R2,hr⟩:=hR
 obtain⟨kd2,kd3,kd4⟩:=kd
 obtain⟨ka2,ka3,ka4⟩:=ka
 obtain⟨ko1,ko2,ko3⟩:=ko
 refine dY (R:=fun r m' n' w=>n<=n'/\RdR i m n0 seen p (fun m' n' r=>nO xs[a] bo (.slice none 0 0) m' n n' r) (fun m' n' r=>r=.int .i64 13/\m' bo=some (.cells [.slice none 0 0] 0 false true)) r m' n' w) e76 rfl ko2 fun Q hQ=>?_
 simp only[OX]
 simp -implicitDefEqProofs (disch:=omega)only[W2,dd,Nat.testBit,Nat.reduceAdd,Nat.reduceShiftRight,Nat.reduceAnd,Nat.reduceBNe,Nat.reduceMul,kd4,hr,ka4]
 refine fx (F6 hU h hp hI ha) fun r1 m1 n1 r2 w1 hh=>?_
 have hh':=hh
 obtain⟨ht,hn1,hf1,⟨s0,s1,s2,s3,op,hd⟩,p',hp',hI',hc⟩:=hh'
 have ko4:=(hf1 bo ko2 (by omega) (by omega)).1.trans ko3
 have l2:∀x b,b≠bo->(AMem.put m1 bo x:FM) b=m1 b:=fun x b hb=>dc _ _ _ _ hb
 have fin:∀(v:Value) (e:Int),(((p.off=false/\¬p.due/\p'.off=false/\p'.armed=p.armed/\nO xs[a] bo (.slice none 0 0) (AMem.put m1 bo (some (.cells [v] 0 false true)):FM) n n1 (.int .i64 e)))\/((e=13/\v=.slice none 0 0)/\p'.off=true/\(p.off=true\/p.due)))->RdR i m n0 seen p (fun m' n' r=>nO xs[a] bo (.slice none 0 0) m' n n' r) (fun m' n' r=>r=.int .i64 13/\m' bo=some (.cells [.slice none 0 0] 0 false true)) (.int .i64 e) (AMem.put m1 bo (some (.cells [v] 0 false true))) n1 (Nat.lor w1 (bit bo)):=fun v e hc=>by
  refine⟨?_,by omega,fun b hb e1 e2=>⟨by rw[l2 _ b (by omega),(hf1 b (by omega) e1 e2).1],by simp only[c9,(hf1 b (by omega) e1 e2).2,dh (show b≠bo by omega)];rfl⟩,⟨s0,s1,s2,s3,op,by rw[l2 _ _ (by omega)];exact hd⟩,p',by rw[PwR,l2 _ _ (by omega)];exact hp',hI',?_⟩
  ·rcases ht with ht|ht
   ·exact .inl (by simp only[c9,ht];simp)
   ·exact .inr ht
  ·rcases hc with hc|⟨⟨rfl,rfl⟩,hc⟩
   ·exact .inl hc
   ·exact .inr ⟨⟨rfl,de _ _ _⟩,hc⟩
 rcases hc with⟨q1,q2,q3,q4,q5⟩|⟨rfl,q2⟩
 ·generalize xs[a]=x at *
  cases x with
  |ent rc=>
   obtain⟨v',rfl,hS1⟩:=q5
   have hvo:=hS1.one
   simp -implicitDefEqProofs (disch:=omega)only[W2,dd,Nat.testBit,Nat.reduceAdd,Nat.reduceShiftRight,Nat.reduceAnd,Nat.reduceBNe,Nat.reduceMul,dH,tI hS1,hvo,dW hvo,hS1.bel,hS1.yQ,ko4]
   exact hQ _ _ _ _ _ (by simp only[c9,dn];simp) ⟨hn1,fin v' 0 (.inl ⟨q1,q2,q3,q4,rfl,v',de _ _ _,hS1.frame (Nat.le_refl _) fun b e1 e2=>l2 _ b (by omega)⟩)⟩
  |blank=>
   have q5:r1=.tuple #[.slice none 0 0,.int .i64 15]:=q5
   subst q5
   simp -implicitDefEqProofs (disch:=omega)only[W2,dd,Nat.testBit,Nat.reduceAdd,Nat.reduceShiftRight,Nat.reduceAnd,Nat.reduceBNe,Nat.reduceMul,dH,ko4,Cn]
   exact hQ _ _ _ _ _ (by simp only[c9,dn];simp) ⟨hn1,fin (.slice none 0 0) 15 (.inl ⟨q1,q2,q3,q4,rfl,de _ _ _⟩)⟩
  |dead=>
   have q5:r1=.tuple #[.slice none 0 0,.int .i64 15]:=q5
   subst q5
   simp -implicitDefEqProofs (disch:=omega)only[W2,dd,Nat.testBit,Nat.reduceAdd,Nat.reduceShiftRight,Nat.reduceAnd,Nat.reduceBNe,Nat.reduceMul,dH,ko4,Cn]
   exact hQ _ _ _ _ _ (by simp only[c9,dn];simp) ⟨hn1,fin (.slice none 0 0) 15 (.inl ⟨q1,q2,q3,q4,rfl,de _ _ _⟩)⟩
 ·simp -implicitDefEqProofs (disch:=omega)only[W2,dd,Nat.testBit,Nat.reduceAdd,Nat.reduceShiftRight,Nat.reduceAnd,Nat.reduceBNe,Nat.reduceMul,dH,ko4,Cn]
  exact hQ _ _ _ _ _ (by simp only[c9,dn];simp) ⟨hn1,fin (.slice none 0 0) 13 (.inr ⟨⟨rfl,rfl⟩,q2⟩)⟩
theorem Ez(hU:YUp Y)(h:Rd i pb m n seen xs)(hp:PwR i.P m p)(hI:PwS seen p){Rb a:Nat}(hR:Rb<n)(hr:m Rb=some (.cells [.pointer (some ⟨i.D,0,none⟩),.int .u64 0,ev,bv,tv,fv] 0 false true))(ha:a<xs.length):
  Rt (df PG EL Y 39 [.pointer (some ⟨Rb,0,none⟩),.int .i64 (a:Int)] m n) fun v m' n' w=>RdR i m n seen p (fun m' n' v=>nN xs[a] m' n n' v) (fun _ _ v=>v=.tuple #[.slice none 0 0,.int .i64 13]) v m' n' w:=by
 obtain⟨h1,h2,h3,h4,h5,h6,h7,h8,h9⟩:=h.ok
 have hKN:=h.KN
 refine eZ (R:=fun v m' n' w=>RdR i m n seen p (fun m' n' v=>nN xs[a] m' n n' v) (fun _ _ v=>v=.tuple #[.slice none 0 0,.int .i64 13]) v m' n' w) e39 rfl (fun r m' n' w hh _ hw=>hh.free id h.dk hp hI (by omega) hw) fun Q hQ=>?_
 simp only[Px]
 simp -implicitDefEqProofs (disch:=omega)only[W2,dd,Nat.testBit,Nat.reduceAdd,Nat.reduceShiftRight,Nat.reduceAnd,Nat.reduceBNe,Nat.reduceMul,gj]
 generalize hM1:(AMem.put (AMem.put (AMem.put m n _) (n+1) _) (n+2) _:FM)=M1
 have l1:∀b,b<n->M1 b=m b:=fun b hb=>by rw[<-hM1,dc _ _ _ _ (by omega),dc _ _ _ _ (by omega),dc _ _ _ _ (by omega)]
 have p0:M1 n=some (.cells [.pointer (some ⟨Rb,0,none⟩)] 0 false true):=by rw[<-hM1,dc _ _ _ _ (by omega),dc _ _ _ _ (by omega)];exact de _ _ _
 have p1:M1 (n+1)=some (.cells [.int .i64 (a:Int)] 0 false true):=by rw[<-hM1,dc _ _ _ _ (by omega)];exact de _ _ _
 have p2:M1 (n+2)=some (.cells [.slice none 0 0] 0 false true):=by rw[<-hM1];exact de _ _ _
 have hD1:=h.dF (show n<=n+3 by omega) l1
 have hp1:PwR i.P M1 p:=(l1 _ (by omega)).trans hp
 have lw:∀b,b<n->Nat.testBit (Nat.lor (Nat.lor (bit n) (bit (n+1))) (bit (n+2))) b=false:=fun b hb=>by simp only[c9,dh (show b≠n by omega),dh (show b≠n+1 by omega),dh (show b≠n+2 by omega)];rfl
 refine dw (tX (f:=76) (cs:=[.pointer (some ⟨n,0,none⟩),.pointer (some ⟨n+1,0,none⟩),.pointer (some ⟨n+2,0,none⟩)]) (R:=fun r m' n' w=>Nat.testBit w (n+2)=true/\(n+3<=n'/\RdR i M1 n seen p (fun m' n' r=>nO xs[a] (n+2) (.slice none 0 0) m' (n+3) n' r) (fun m' n' r=>r=.int .i64 13/\m' (n+2)=some (.cells [.slice none 0 0] 0 false true)) r m' n' w)) (fun v m' n' w k=>?_) (fun v m' n' w k hw=>?_) (IK hU hD1 hp1 hI (n0:=n) (bd:=n) (ba:=n+1) (bo:=n+2) (by omega) ⟨by omega,by omega,(l1 _ hR).trans hr⟩ ⟨by omega,by omega,p0⟩ ⟨by omega,by omega,p1⟩ ⟨by omega,by omega,p2⟩ ha)) fun r3 m3 n3 r4 w3 hh=>?_
 ·obtain⟨_,_,_,_,_,_,p',_,_,⟨_,_,_,_,hc⟩|⟨⟨rfl,_⟩,_⟩⟩:=k
  ·cases hx:xs[a]with
   |ent rc=>rw[hx]at hc;exact⟨0,hc.1,by decide⟩
   |blank=>rw[hx]at hc;exact⟨15,hc.1,by decide⟩
   |dead=>rw[hx]at hc;exact⟨15,hc.1,by decide⟩
  ·exact⟨13,rfl,by decide⟩
 ·rw[dK hw _ (by omega)]at k;cases k.1
 ·obtain⟨_,hn3,hh⟩:=hh
  have fin:∀v',(nO xs[a] (n+2) (.slice none 0 0) m3 (n+3) n3 r3->nN xs[a] m3 n n3 v')->(r3=.int .i64 13->v'=.tuple #[.slice none 0 0,.int .i64 13])->RdR i m n seen p (fun m' n' v=>nN xs[a] m' n n' v) (fun _ _ v=>v=.tuple #[.slice none 0 0,.int .i64 13]) v' m3 n3 (Nat.lor (Nat.lor (Nat.lor (Nat.lor (bit n) (bit (n+1))) (bit (n+2))) w3) 0):=fun v' h1 h2=>hh.up (Nat.le_refl _) l1 lw (Nat.le_refl _) rfl rfl (by omega) (fun _ _ _ _=>rfl) (fun b _ _ _=>Nat.zero_testBit b) h1 (fun h=>h2 h.1)
  have hw:∀z,Nat.lor (Nat.lor (Nat.lor (bit n) (bit (n+1))) (bit (n+2))) z=Nat.lor (Nat.lor (Nat.lor (Nat.lor (bit n) (bit (n+1))) (bit (n+2))) z) 0:=fun z=>(dZ _).symm
  obtain⟨_,_,_,_,p',_,_,hc⟩:=hh
  rcases hc with⟨_,_,_,_,hc⟩|⟨⟨rfl,h2⟩,_⟩
  ·generalize xs[a]=x at *
   cases x with
   |blank=>
    obtain⟨rfl,hc2⟩:=hc
    simp -implicitDefEqProofs (disch:=omega)only[W2,dd,Nat.testBit,Nat.reduceAdd,Nat.reduceShiftRight,Nat.reduceAnd,Nat.reduceBNe,Nat.reduceMul,hc2]
    rw[hw]
    exact hQ _ _ _ _ _ (fin _ (fun _=>rfl) (fun h=>by cases h))
   |dead=>
    obtain⟨rfl,hc2⟩:=hc
    simp -implicitDefEqProofs (disch:=omega)only[W2,dd,Nat.testBit,Nat.reduceAdd,Nat.reduceShiftRight,Nat.reduceAnd,Nat.reduceBNe,Nat.reduceMul,hc2]
    rw[hw]
    exact hQ _ _ _ _ _ (fin _ (fun _=>rfl) (fun h=>by cases h))
   |ent rc=>
    obtain⟨rfl,v',hc2,hc3⟩:=hc
    have hvo:=hc3.one
    simp -implicitDefEqProofs (disch:=omega)only[W2,dd,Nat.testBit,Nat.reduceAdd,Nat.reduceShiftRight,Nat.reduceAnd,Nat.reduceBNe,Nat.reduceMul,hc2,hvo]
    rw[hw]
    exact hQ _ _ _ _ _ (fin _ (fun _=>⟨v',rfl,hc3.low (by omega)⟩) (fun h=>by cases h))
  ·simp -implicitDefEqProofs (disch:=omega)only[W2,dd,Nat.testBit,Nat.reduceAdd,Nat.reduceShiftRight,Nat.reduceAnd,Nat.reduceBNe,Nat.reduceMul,h2]
   rw[hw]
   refine hQ _ _ _ _ _ (fin _ (fun h=>?_) (fun _=>rfl))
   cases hx:xs[a]with
   |ent rc=>rw[hx]at h;cases h.1
   |blank=>rw[hx]at h;cases h.1
   |dead=>rw[hx]at h;cases h.1
theorem RdR.to{i:Ids}{m1:FM}{n1:Nat}{ok ok' bad bad':FM->Nat->Value->Prop}{v':Value}{m' m'':FM}{n' n'' w2:Nat}(h:RdR i m1 n1 seen p ok bad v m' n' w)(hn:n<=n1)(hf:∀b,b<n->m1 b=m b)(hn2:n'<=n'')(hD:m'' i.D=m' i.D)(hP:m'' i.P=m' i.P)(hf2:∀b,b<n->b≠i.P->b≠i.D->m'' b=m' b)(hwP:Nat.testBit w i.P=true->Nat.testBit w2 i.P=true)(hw2:∀b,b<n->Nat.testBit w b=false->Nat.testBit w2 b=false)(hok:ok m' n' v->ok' m'' n'' v')(hbad:bad m' n' v->bad' m'' n'' v'):RdR i m n seen p ok' bad' v' m'' n'' w2:=by
 obtain⟨k1,k2,k3,⟨s0,s1,s2,s3,op,hd⟩,p',k4,k5,k6⟩:=h
 refine⟨k1.imp hwP id,by omega,fun b hb h0 h1=>⟨by rw[hf2 b hb h0 h1,(k3 b (by omega) h0 h1).1,hf b hb],hw2 b hb (k3 b (by omega) h0 h1).2⟩,⟨s0,s1,s2,s3,op,hD.trans hd⟩,p',hP.trans k4,k5,?_⟩
 rcases k6 with⟨q1,q2,q3,q4,q5⟩|⟨q1,q2⟩
 ·exact .inl ⟨q1,q2,q3,q4,hok q5⟩
 ·exact .inr ⟨hbad q1,q2⟩
def NZ:Value:=.agg #[.int .i64 0,.int .i64 0,.int .u64 0,.int .u8 0,.int .u8 0,.int .u8 0,.int .u8 0,.int .u8 0,.int .u8 0,.int .u8 0,.int .u8 0]
theorem Im(hU:YUp Y)(h:Rd i pb m n seen xs)(hp:PwR i.P m p)(hI:PwS seen p){Rb EN:Nat}{es:List Ent}(hd:Dr i.D Rb EN m es bv t fe)(hb1:Am.one bv=true)(hR:Rb<n/\Rb≠i.P/\Rb≠i.D)(hE:EN<n/\EN≠i.P/\EN≠i.D){k:Nat}(hk:k<es.length)(hok:rc.Ok)(hx:xs[es[k].adr]?=some (.ent rc))(hm:rc.blk=k/\rc.ver=es[k].ver/\rc.kd=es[k].kd):
  Rt (df PG EL Y 42 [.pointer (some ⟨Rb,0,none⟩),.int .i64 (k:Int)] m n) fun v m' n' w=>RdR i m n seen p (fun m' n' v=>v=.tuple #[rc.val,.int .i64 0]) (fun _ _ v=>v=.tuple #[NZ,.int .i64 13]) v m' n' w:=by
 obtain⟨h1,h2,h3,h4,h5,h6,h7,h8,h9⟩:=h.ok
 have hKN:=h.KN
 have hel:=hd.el
 have hr:=hd.r
 have hen:=hd.en
 obtain⟨R1,R2,R3⟩:=hR
 obtain⟨E1,E2,E3⟩:=hE
 have hv1:=hok.v1
 obtain⟨hmb,hmv,hmk⟩:=hm
 have hx1:es[k].k=(es[k].kd:Int):=if_neg (by omega)
 have hx2:es[k].a=(es[k].adr:Int):=if_neg (by omega)
 obtain⟨a1,a2,a3,a4⟩:=iY hk
 rw[hx1,hx2]at a1
 have hix:=jy (b:=EN) (c:=UNK) hk
 obtain⟨hal,hxa⟩:=List.getElem?_eq_some_iff.1 hx
 refine eZ (R:=fun v m' n' w=>RdR i m n seen p (fun m' n' v=>v=.tuple #[rc.val,.int .i64 0]) (fun _ _ v=>v=.tuple #[NZ,.int .i64 13]) v m' n' w) e42 rfl (fun r m' n' w hh _ hw=>hh.free id h.dk hp hI (by omega) hw) fun Q hQ=>?_
 simp only[Pu]
 simp -implicitDefEqProofs (disch:=omega)only[W2,dd,Nat.testBit,Nat.reduceAdd,Nat.reduceShiftRight,Nat.reduceAnd,Nat.reduceBNe,Nat.reduceMul,hr,hix,hen,a1]
 generalize hM1:(AMem.put (AMem.put m n _) (n+1) _:FM)=M1
 have l1:∀b,b<n->M1 b=m b:=fun b hb=>by rw[<-hM1,dc _ _ _ _ (by omega),dc _ _ _ _ (by omega)]
 have p0:M1 n=some (.cells [.int .i64 0,.int .i64 0,.int .u64 0,.int .u8 0,.int .u8 0,.int .u8 0,.int .u8 0,.int .u8 0,.int .u8 0,.int .u8 0,.int .u8 0] 0 false true):=by rw[<-hM1,dc _ _ _ _ (by omega)];exact de _ _ _
 have p1:M1 (n+1)=some (.cells [.int .i64 (es[k].kd:Int),.int .u64 (es[k].ver:Int),.int .i64 (es[k].adr:Int)] 0 false true):=by rw[<-hM1];exact de _ _ _
 have hD1:=h.dF (show n<=n+2 by omega) l1
 have hp1:PwR i.P M1 p:=(l1 _ (by omega)).trans hp
 refine dw (Ez hU hD1 hp1 hI (Rb:=Rb) (by omega) ((l1 _ R1).trans hr) hal) fun r2 m2 n2 r3 w2 hh=>?_
 have hh':=hh
 obtain⟨ht,hn2,hf2,hd2,p',hp',hI',hc⟩:=hh'
 have p0':=(hf2 n (by omega) (by omega) (by omega)).1.trans p0
 have p1':=(hf2 (n+1) (by omega) (by omega) (by omega)).1.trans p1
 have lw:∀b,b<n->Nat.testBit (Nat.lor (bit n) (bit (n+1))) b=false:=fun b hb=>by simp only[c9,dh (show b≠n by omega),dh (show b≠n+1 by omega)];rfl
 rcases hc with⟨q1,q2,q3,q4,q5⟩|⟨rfl,q2⟩
 ·rw[hxa]at q5 hh
  obtain⟨v',rfl,hS⟩:=q5
  rcases hS with⟨q,_⟩|⟨_,hcl,b2,rfl,f1,f2,f3⟩
  ·omega
  simp -implicitDefEqProofs (disch:=omega)only[W2,dd,Nat.testBit,Nat.reduceAdd,Nat.reduceShiftRight,Nat.reduceAnd,Nat.reduceBNe,Nat.reduceMul,dH]
  refine dw (sr hok f2 f3) fun r5 m5 n5 r6 w5 hh5=>?_
  obtain⟨z1,z2,z3,rfl⟩:=hh5
  have p0'':=(z2 n (by omega)).trans p0'
  have p1'':=(z2 (n+1) (by omega)).trans p1'
  obtain⟨kd,blk,ver,ds,tm⟩:=rc
  obtain⟨d0,d1,d2,d3,d4,d5,d6,d7,hds⟩:=eight hok.dl
  simp only at hmb hmv hmk hds
  subst hds;subst hmb
  rw[<-hmv,<-hmk]at p1''
  simp only[Rec.val,Rec.cs,n8s,List.map_cons,List.map_nil]at hQ ⊢
  simp -implicitDefEqProofs (disch:=omega)only[W2,dd,Nat.testBit,Nat.reduceAdd,Nat.reduceShiftRight,Nat.reduceAnd,Nat.reduceBNe,Nat.reduceMul,dH,p1'',p0'']
  generalize hM6:(AMem.put (AMem.put m5 n5 _) n _:FM)=M6
  have l6:∀b,b≠n->b<n2->M6 b=m2 b:=fun b f1 f2=>by rw[<-hM6,dc _ _ _ _ f1,dc _ _ _ _ (by omega),z2 b f2]
  refine hQ _ _ _ _ _ (hh.to (by omega) l1 (by omega) (l6 _ (by omega) (by omega)) (l6 _ (by omega) (by omega)) (fun b hb _ _=>l6 b (by omega) (by omega)) (fun hw=>by simp only[c9,hw];simp) (fun b hb hw=>?_) (fun _=>rfl) (fun h=>by cases h))
  simp only[c9,hw,dh (show b≠n by omega),dh (show b≠n+1 by omega),dh (show b≠n5 by omega),dK (z3 n2 (Nat.le_refl _)) b (by omega)];rfl
 ·simp -implicitDefEqProofs (disch:=omega)only[W2,dd,Nat.testBit,Nat.reduceAdd,Nat.reduceShiftRight,Nat.reduceAnd,Nat.reduceBNe,Nat.reduceMul,dH,p0']
  refine hQ _ _ _ _ _ (hh.to (by omega) l1 (by omega) (dc _ _ _ _ (by omega)) (dc _ _ _ _ (by omega)) (fun b hb _ _=>dc _ _ _ _ (by omega)) (fun hw=>by simp only[c9,hw];simp) (fun b hb hw=>?_) (fun h=>?_) (fun _=>rfl))
  ·simp only[c9,hw,dh (show b≠n by omega),dh (show b≠n+1 by omega)];rfl
  ·rw[hxa]at h;obtain⟨_,h,_⟩:=h;cases h
structure Drv(i:Ids)(pb:Nat)(M:FM)(N:Nat)(dur:List Sec)(ps:List Op)(es:List Ent)(bs:List Bnd)(t:Nat):Prop where
 dsk:Dsk i pb M N dur ps
 r:∃bv,Dr i.D i.R i.EN M es bv t 0/\BsW i pb M N bv bs
 bl:bs.length=5
structure DrvF(i:Ids)(pb:Nat)(M:FM)(N:Nat)(dur:List Sec)(ps:List Op):Prop where
 dsk:Dsk i pb M N dur ps
 r:∃ev bv tv,M i.R=some (.cells [.pointer (some ⟨i.D,0,none⟩),.int .u64 0,ev,bv,tv,.int .i64 13] 0 false true)
theorem Drv.dF{M':FM}{N':Nat}{es:List Ent}(h:Drv i pb M N dur ps es bs t)(hN:N<=N')(hf:∀b,b<N->M' b=M b):Drv i pb M' N' dur ps es bs t:=by
 obtain⟨h1,h2,h3,h4,h5,h6,h7,h8,h9⟩:=h.dsk.cc.ok
 have hK:=h.dsk.cc.KN
 obtain⟨bv,hr,hb⟩:=h.r
 exact⟨h.dsk.dF hN hf,⟨bv,hr.dF (hf _ (by omega)) (hf _ (by omega)),hb.dF hN hf⟩,h.bl⟩
theorem Drv.F7{pb':Nat}{w:Nat}{es:List Ent}(h:Drv i pb M N dur ps es bs t)(hN:N<=N')(hf:Fr i.P i.sd i.D pb N M M' w)(hp:pb'=pb\/N<=pb')(hd:Dsk i pb' M' N' dur' ps'):Drv i pb' M' N' dur' ps' es bs t:=by
 obtain⟨h1,h2,h3,h4,h5,h6,h7,h8,h9⟩:=h.dsk.cc.ok
 have hK:=h.dsk.cc.KN
 have hpk:=h.dsk.cc.pbk
 obtain⟨bv,hr,hb⟩:=h.r
 exact⟨hd,⟨bv,hr.dF (hf _ (by omega) (by omega) (by omega) (by omega)).1 (hf _ (by omega) (by omega) (by omega) (by omega)).1,hb.fr hf (by omega) (Nat.le_refl _) (by omega) (by omega) hN hp⟩,h.bl⟩
theorem sW(h:SlZ 4 M n0 N v l.length (dD l))(hf:∀b,n0<=b->b<N->M' b=M b)(hN:N<=N')(hl5:l.length=5)(hk:i.K<=n0)(hQ:i.Q<n0)(hp:pb<n0\/N<=pb):BsW i pb M' N' v l:=NT h hf hN (by omega) (by omega) hk hQ hp
def fp(S:Nat)(x:Ent)(bs:List Bnd):List Bnd:=if x.ver=0 then bs else match bs[(x.adr-60) / S]? with
 |some y=>bs.set ((x.adr-60) / S) {y with live:=y.live-1}
 |none=>bs
theorem gT(S:Nat)(x:Ent)(bs:List Bnd):(fp S x bs).length=bs.length:=by
 unfold fp
 split
 ·rfl
 ·split<;>simp
theorem xW{x:Ent}(hv:¬x.ver=0)(h:(x.adr-60) / S<bs.length):fp S x bs=bs.set ((x.adr-60) / S) {bs[(x.adr-60) / S]with live:=bs[(x.adr-60) / S].live-1}:=by
 rw[fp,if_neg hv,List.getElem?_eq_getElem h]
theorem Lr{es:List Ent}(h:Drv i pb m n dur ps es bs t){k:Nat}(hk:k<es.length)(hx:¬es[k].ver=0->60<=es[k].adr/\es[k].adr<90/\∀hb:(es[k].adr-60) / 6<bs.length,1<=bs[(es[k].adr-60) / 6].live/\bs[(es[k].adr-60) / 6].live<=100):
  Rt (df PG EL Y 72 [.pointer (some ⟨i.R,0,none⟩),.int .i64 (k:Int)] m n) fun r m' n' w=>Nat.testBit w i.EN=true/\(n<=n'/\Fr i.R i.EN i.EN pb n m m' w/\Drv i pb m' n' dur ps (es.set k ⟨0,0,0⟩) (fp 6 es[k] bs) t):=by
 obtain⟨h1,h2,h3,h4,h5,h6,h7,h8,h9⟩:=h.dsk.cc.ok
 have hKN:=h.dsk.cc.KN
 have hpk:=h.dsk.cc.pbk
 have hpN:=h.dsk.cc.pbN
 have hQN:=h.dsk.cc.QN
 have hbl:=h.bl
 obtain⟨bv,hd,hb⟩:=h.r
 have hel:=hd.el
 have hr:=hd.r
 have hen:=hd.en
 obtain⟨a1,a2,a3,a4⟩:=iY hk
 have hix:=jy (b:=i.EN) (c:=UNK) hk
 have hset:setCells (ee es) (k*3) [.int .i64 0,.int .u64 0,.int .i64 (-1)]=some (ee (es.set k ⟨0,0,0⟩)):=oU es k hk ⟨0,0,0⟩
 refine lh (R:=fun m' n' w=>n<=n'/\Fr i.R i.EN i.EN pb n m m' w/\Drv i pb m' n' dur ps (es.set k ⟨0,0,0⟩) (fp 6 es[k] bs) t) e72 rfl rfl (show i.EN<n by omega) fun Q hQ=>?_
 simp only[O6]
 by_cases hv:es[k].ver=0
 ·have ea:es[k].a=-1:=if_pos hv
  rw[ea]at a4
  simp -implicitDefEqProofs (disch:=omega)only[W2,dd,Nat.testBit,Nat.reduceAdd,Nat.reduceShiftRight,Nat.reduceAnd,Nat.reduceBNe,Nat.reduceMul,hr,hix,hen,a4,hset]
  refine hQ _ _ _ _ (by rw[dn];simp) ⟨Nat.le_refl _,fun b hb h0 hk hne=>⟨dc _ _ _ _ (by omega),dh (by omega)⟩,?_⟩
  have l1:∀b,b≠i.EN->(AMem.put m i.EN (some (.cells (ee (es.set k ⟨0,0,0⟩)) 3 true true)):FM) b=m b:=fun b hb=>dc _ _ _ _ hb
  refine⟨h.dsk.qa (Nat.le_refl _) fun b _ _ _ hne=>l1 b hne,⟨bv,⟨?_,de _ _ _,by rw[List.length_set];exact hel⟩,?_⟩,by rw[gT];exact hbl⟩
  ·rw[List.length_set,l1 _ (by omega)];exact hr
  ·rw[fp,if_pos hv]
   exact hb.fr2 (by omega) h9 fun b _ _ e2=>l1 b e2
 ·have ea:es[k].a=(es[k].adr:Int):=if_neg hv
  rw[ea]at a4
  obtain⟨x1,x2,x3⟩:=hx hv
  have hdb:(es[k].adr-60) / 6<bs.length:=by omega
  obtain⟨x4,x5⟩:=x3 hdb
  obtain⟨p1,p2,p3,p4⟩:=hb.p
  simp -implicitDefEqProofs (disch:=omega)only[W2,dd,Nat.testBit,Nat.reduceAdd,Nat.reduceShiftRight,Nat.reduceAnd,Nat.reduceBNe,Nat.reduceMul,hr,hix,hen,a4,p2,p3]
  refine dV (uQ (by omega) (by omega) h.dsk.dk hd _ x1 x2) fun r1=>?_
  simp -implicitDefEqProofs (disch:=omega)only[W2,dd,Nat.testBit,Nat.reduceAdd,Nat.reduceShiftRight,Nat.reduceAnd,Nat.reduceBNe,Nat.reduceMul,p2,p3]
  refine fx (zy hb hdb x4 x5) fun r2 m2 n2 r3 w2 hh=>?_
  obtain⟨hn2,hf2,hw2,v',rfl,hs2⟩:=hh
  have hvo:=hs2.one
  have hr2:=(hf2 i.R (by omega)).trans hr
  have hen2:=(hf2 i.EN (by omega)).trans hen
  obtain⟨k1,k2⟩:=gF (hw2 n (Nat.le_refl _)) (show i.R<n by omega)
  simp -implicitDefEqProofs (disch:=omega)only[W2,dd,Nat.testBit,Nat.reduceAdd,Nat.reduceShiftRight,Nat.reduceAnd,Nat.reduceBNe,Nat.reduceMul,dH,hvo,dW hvo,hr2,hen2,tI hs2,k1,k2,hs2.bel,hs2.yQ,hix,hset]
  generalize hM3:(AMem.put (AMem.put m2 i.R _) i.EN _:FM)=M3
  have l3:∀b,b≠i.R->b≠i.EN->M3 b=m2 b:=fun b e1 e2=>by rw[<-hM3,dc _ _ _ _ e2,dc _ _ _ _ e1]
  have q2:M3 i.EN=some (.cells (ee (es.set k ⟨0,0,0⟩)) 3 true true):=by rw[<-hM3];exact de _ _ _
  rw[<-xW hv hdb]at hs2
  refine hQ _ _ _ _ (by simp only[c9,dn];simp) ⟨by omega,fun b hb h0 hk hne=>⟨by rw[l3 b (by omega) (by omega),hf2 b hb],?_⟩,?_⟩
  ·simp only[c9,dK (hw2 n (Nat.le_refl _)) b hb,dh (show b≠i.R by omega),dh (show b≠i.EN by omega)];rfl
  ·refine⟨h.dsk.qa (by omega) fun b hb _ e1 e2=>by rw[l3 b e1 e2,hf2 b hb],⟨v',⟨?_,q2,by rw[List.length_set];exact hel⟩,?_⟩,by rw[gT];exact hbl⟩
   ·rw[List.length_set,<-hM3,dc _ _ _ _ (by omega)];exact de _ _ _
   ·exact sW hs2 (fun b e1 e2=>l3 b (by omega) (by omega)) (Nat.le_refl _) (by rw[gT];exact hbl) (by omega) (by omega) (.inl (by omega))
theorem yw(S:Nat)(l:List Bnd):∀j,j<=l.length->(opF S l j=-1/\∀q,(h:q<l.length)->q<j->gW S l[q]=false)\/(∃(k:Nat) (h:k<l.length),opF S l j=(k:Int)/\gW S l[k]=true)
 |0,_=>.inl ⟨rfl,fun q _ h=>by omega⟩
 |j+1,hj=>by
  have ih:=yw S l j (by omega)
  rw[pS S l j (by omega)]
  cases hp:gW S l[j]
  ·rw[Bool.false_and,cond_false]
   rcases ih with⟨h1,h2⟩|h
   ·refine .inl ⟨h1,fun q hq hqj=>?_⟩
    by_cases e:q=j
    ·subst e;exact hp
    ·exact h2 q hq (by omega)
   ·exact .inr h
  ·rw[Bool.true_and]
   cases hn:jR l (opF S l j) j
   ·rw[cond_false]
    rcases ih with⟨h1,h2⟩|h
    ·rw[h1]at hn
     rw[jR,decide_eq_false_iff_not]at hn
     exact absurd (.inl (by omega)) hn
    ·exact .inr h
   ·rw[cond_true]
    exact .inr ⟨j,by omega,rfl,hp⟩
theorem Ct(l:List Bnd):∀j,j<=l.length->(lsF l j=-1/\∀q,(h:q<l.length)->q<j->¬l[q].used=0)\/(∃(k:Nat) (h:k<l.length),lsF l j=(k:Int)/\l[k].used=0)
 |0,_=>.inl ⟨rfl,fun q _ h=>by omega⟩
 |j+1,hj=>by
  have ih:=Ct l j (by omega)
  rw[Av l j (by omega)]
  by_cases hu:l[j].used=0
  ·rw[show(l[j].used==0)=true by simp[hu],Bool.true_and]
   cases hn:pZ l (lsF l j) j
   ·rw[cond_false]
    rcases ih with⟨h1,h2⟩|h
    ·rw[h1]at hn
     rw[pZ,decide_eq_false_iff_not]at hn
     exact absurd (.inl (by omega)) hn
    ·exact .inr h
   ·rw[cond_true]
    exact .inr ⟨j,by omega,rfl,hu⟩
  ·rw[show(l[j].used==0)=false by simp[hu],Bool.false_and,cond_false]
   rcases ih with⟨h1,h2⟩|h
   ·refine .inl ⟨h1,fun q hq hqj=>?_⟩
    by_cases e:q=j
    ·subst e;exact hu
    ·exact h2 q hq (by omega)
   ·exact .inr h
def vI(S:Nat)(l:List Bnd)(k:Nat):Prop:=∃h:k<l.length,l[k].used<S/\(0<l[k].used\/∀q,(h:q<l.length)->¬(0<l[q].used/\l[q].used<S))
theorem dopen{es:List Ent}(h:Drv i pb m n dur ps es bs t)(ho:BOk 6 bs)(hz:z<0\/∃(e:Nat) (he:e<bs.length),z=(e:Int)/\bs[e].used=6)(hroom:∃(q:Nat) (hq:q<bs.length),bs[q].used<6):
  ∃k:Nat,vI 6 bs k/\Pure (df PG EL Y 110 [.pointer (some ⟨i.R,0,none⟩),.int .i64 z] m n) m n (.tuple #[.int .i64 (k:Int),.int .i64 0]):=by
 obtain⟨h1,h2,h3,h4,h5,h6,h7,h8,h9⟩:=h.dsk.cc.ok
 have hKN:=h.dsk.cc.KN
 have hpN:=h.dsk.cc.pbN
 have hQN:=h.dsk.cc.QN
 have hbl:=h.bl
 obtain⟨bv,hd,hb⟩:=h.r
 have hr:=hd.r
 obtain⟨p1,p2,p3,p4⟩:=hb.p
 obtain⟨v,⟨k,rfl,hk⟩,hp⟩:=jL (P:=PG) (Y:=Y) (m:=m) (n:=n) (args:=[.pointer (some ⟨i.R,0,none⟩),.int .i64 z]) (S:=fun v=>∃k:Nat,v=.tuple #[.int .i64 (k:Int),.int .i64 0]/\vI 6 bs k) e110 rfl (fun v hS=>by obtain⟨k,rfl,_⟩:=hS;rfl) (by
  simp only[J8]
  simp -implicitDefEqProofs (disch:=omega)only[W2,dd,Nat.testBit,Nat.reduceAdd,Nat.reduceShiftRight,Nat.reduceAnd,Nat.reduceBNe,Nat.reduceMul,hr]
  refine dw (Bi hb) fun v1 m1 n1 r1 w1 hh=>?_
  obtain⟨hn1,hf1,hw1,hS1⟩:=hh
  have hvo:=hS1.one
  have hD1:=h.dF hn1 hf1
  obtain⟨bv1,hd1,_⟩:=hD1.r
  have hB1:BsW i pb m1 n1 v1 bs:=sW hS1 (fun _ _ _=>rfl) (Nat.le_refl _) hbl (by omega) (by omega) (.inl hpN)
  rcases hz with hz|⟨e,he,rfl,hu⟩
  ·simp -implicitDefEqProofs (disch:=omega)only[W2,dd,Nat.testBit,Nat.reduceAdd,Nat.reduceShiftRight,Nat.reduceAnd,Nat.reduceBNe,Nat.reduceMul,hvo]
   refine di (gH (by omega) (by omega) hD1.dsk.dk hd1) fun r2=>?_
   simp -implicitDefEqProofs (disch:=omega)only[W2,dd,Nat.testBit,Nat.reduceAdd,Nat.reduceShiftRight,Nat.reduceAnd,Nat.reduceBNe,Nat.reduceMul,hvo]
   refine di (oW hB1 (S:=6) (by omega) (by omega) ho) fun r3=>?_
   rcases yw 6 bs bs.length (Nat.le_refl _)with⟨o1,o2⟩|⟨k,hk,o1,o2⟩
   ·rw[o1]
    simp -implicitDefEqProofs (disch:=omega)only[W2,dd,Nat.testBit,Nat.reduceAdd,Nat.reduceShiftRight,Nat.reduceAnd,Nat.reduceBNe,Nat.reduceMul,hvo]
    have hl:∃(k:Nat) (h:k<bs.length),lsF bs bs.length=(k:Int)/\bs[k].used=0:=by
     rcases Ct bs bs.length (Nat.le_refl _)with⟨o3,o4⟩|hq
     ·obtain⟨q,hq,hu⟩:=hroom
      have:=o2 q hq hq
      rw[gW,decide_eq_false_iff_not]at this
      exact absurd ⟨by have:=o4 q hq hq;omega,hu⟩ this
     ·exact hq
    obtain⟨k,hk,o3,o4⟩:=hl
    refine di (uA hB1 (by rw[o3];omega)) fun r4=>?_
    rw[o3]
    simp -implicitDefEqProofs (disch:=omega)only[W2,dd,Nat.testBit,Nat.reduceAdd,Nat.reduceShiftRight,Nat.reduceAnd,Nat.reduceBNe,Nat.reduceMul,dH]
    refine⟨⟨_,rfl,k,rfl,hk,by rw[o4];omega,.inr fun q hq hpq=>?_⟩,hw1 n (Nat.le_refl _)⟩
    have:=o2 q hq hq
    rw[gW,decide_eq_false_iff_not]at this
    exact this hpq
   ·rw[o1]
    simp -implicitDefEqProofs (disch:=omega)only[W2,dd,Nat.testBit,Nat.reduceAdd,Nat.reduceShiftRight,Nat.reduceAnd,Nat.reduceBNe,Nat.reduceMul,hvo]
    rw[gW,decide_eq_true_eq]at o2
    exact⟨⟨_,rfl,k,rfl,hk,o2.2,.inl o2.1⟩,hw1 n (Nat.le_refl _)⟩
  ·rcases hS1 with⟨q,_⟩|⟨_,hcl,cb,rfl,hb1,hb2,hm1⟩
   ·omega
   have hix:fU 4 e (.slice (some ⟨cb,0,none⟩) bs.length UNK)=some (.pointer (some ⟨cb,e*4,none⟩)):=by rw[eY he,Nat.zero_add]
   have hset:=(jc he).1 6
   rw[<-hu,show({bs[e]with used:=bs[e].used}:Bnd)=bs[e]from rfl,List.set_getElem_self,hu]at hset
   have hset:setCells (dD bs) (e*4) [.int .i64 6]=some (dD bs):=hset
   simp -implicitDefEqProofs (disch:=omega)only[W2,dd,Nat.testBit,Nat.reduceAdd,Nat.reduceShiftRight,Nat.reduceAnd,Nat.reduceBNe,Nat.reduceMul,hvo]
   refine di (gH (by omega) (by omega) hD1.dsk.dk hd1) fun r2=>?_
   simp -implicitDefEqProofs (disch:=omega)only[W2,dd,Nat.testBit,Nat.reduceAdd,Nat.reduceShiftRight,Nat.reduceAnd,Nat.reduceBNe,Nat.reduceMul,hvo,hix,hm1,hset]
   generalize hM2:(AMem.put m1 cb _:FM)=M2
   have l2:∀b,b≠cb->M2 b=m1 b:=fun b hb=>by rw[<-hM2,dc _ _ _ _ hb]
   have hD2:=h.dF hn1 (M':=M2) fun b hb=>by rw[l2 b (by omega),hf1 b hb]
   have hB2:BsW i pb M2 n1 (.slice (some ⟨cb,0,none⟩) bs.length UNK) bs:=⟨cb,UNK,true,true,rfl,by omega,by omega,hb2,by rw[<-hM2];exact de _ _ _,by omega,by omega⟩
   obtain⟨bv2,hd2,_⟩:=hD2.r
   refine di (gH (by omega) (by omega) hD2.dsk.dk hd2) fun r2=>?_
   simp -implicitDefEqProofs (disch:=omega)only[W2,dd,Nat.testBit,Nat.reduceAdd,Nat.reduceShiftRight,Nat.reduceAnd,Nat.reduceBNe,Nat.reduceMul,hvo]
   refine di (oW hB2 (S:=6) (by omega) (by omega) ho) fun r3=>?_
   rcases yw 6 bs bs.length (Nat.le_refl _)with⟨o1,o2⟩|⟨k,hk,o1,o2⟩
   ·rw[o1]
    simp -implicitDefEqProofs (disch:=omega)only[W2,dd,Nat.testBit,Nat.reduceAdd,Nat.reduceShiftRight,Nat.reduceAnd,Nat.reduceBNe,Nat.reduceMul,hvo]
    have hl:∃(k:Nat) (h:k<bs.length),lsF bs bs.length=(k:Int)/\bs[k].used=0:=by
     rcases Ct bs bs.length (Nat.le_refl _)with⟨o3,o4⟩|hq
     ·obtain⟨q,hq,hu⟩:=hroom
      have:=o2 q hq hq
      rw[gW,decide_eq_false_iff_not]at this
      exact absurd ⟨by have:=o4 q hq hq;omega,hu⟩ this
     ·exact hq
    obtain⟨k,hk,o3,o4⟩:=hl
    refine di (uA hB2 (by rw[o3];omega)) fun r4=>?_
    rw[o3]
    simp -implicitDefEqProofs (disch:=omega)only[W2,dd,Nat.testBit,Nat.reduceAdd,Nat.reduceShiftRight,Nat.reduceAnd,Nat.reduceBNe,Nat.reduceMul,dH]
    refine⟨⟨_,rfl,k,rfl,hk,by rw[o4];omega,.inr fun q hq hpq=>?_⟩,hw1 n (Nat.le_refl _)⟩
    have:=o2 q hq hq
    rw[gW,decide_eq_false_iff_not]at this
    exact this hpq
   ·rw[o1]
    simp -implicitDefEqProofs (disch:=omega)only[W2,dd,Nat.testBit,Nat.reduceAdd,Nat.reduceShiftRight,Nat.reduceAnd,Nat.reduceBNe,Nat.reduceMul,hvo]
    rw[gW,decide_eq_true_eq]at o2
    exact⟨⟨_,rfl,k,rfl,hk,o2.2,.inl o2.1⟩,hw1 n (Nat.le_refl _)⟩)
 exact⟨k,hk,hp⟩
def jA(t:Nat)(q:Nat)(l:List Bnd):List Bnd:=match l[q]? with
 |some y=>l.set q ⟨y.used+1,y.live+1,(t:Int),y.wear⟩
 |none=>l
theorem lL(t q:Nat)(l:List Bnd):(jA t q l).length=l.length:=by
 unfold jA;split<;>simp
theorem ET{t q:Nat}{l:List Bnd}(h:q<l.length):jA t q l=l.set q ⟨l[q].used+1,l[q].live+1,(t:Int),l[q].wear⟩:=by
 rw[jA,List.getElem?_eq_getElem h]
theorem Ku(S:Nat)(x:Ent)(l:List Bnd)(q:Nat)(hq:q<l.length)(h:q<(fp S x l).length):(fp S x l)[q].used=l[q].used/\(fp S x l)[q].live<=l[q].live:=by
 by_cases hv:x.ver=0
 ·have e:fp S x l=l:=by rw[fp,if_pos hv]
  simp only[e];exact⟨trivial,Nat.le_refl _⟩
 ·by_cases hb:(x.adr-60) / S<l.length
  ·have e:=xW hv hb
   simp only[e,List.getElem_set]
   split
   ·rename_i hh;subst hh;exact⟨rfl,Nat.sub_le _ _⟩
   ·exact⟨rfl,Nat.le_refl _⟩
  ·have e:fp S x l=l:=by rw[fp,if_neg hv,List.getElem?_eq_none (by omega)]
   simp only[e];exact⟨trivial,Nat.le_refl _⟩
def DvR(i:Ids)(pb:Nat)(m:FM)(n:Nat)(p:Pw)(ok:Nat->FM->Nat->Value->Prop)(bd:Value->Prop)(CIp:List Sec->List Op->Prop)(r:Value)(m':FM)(n' w:Nat):Prop:=
 n<=n'/\Fr i.P i.sd i.EN pb n m m' w/\∃p',PwR i.P m' p'/\PwI p'/\∃pb',(pb'=pb\/n<=pb')/\
  ((p.off=false/\p'.off=false/\p'.armed=p.armed/\ok pb' m' n' r)\/(bd r/\p'.off=true/\∃dur ps,DrvF i pb' m' n' dur ps/\CIp dur ps/\ps.length<=100000))
theorem Gh(hU:YUp Y)(h:Dsk i pb m n dur ps)(hp:PwR i.P m p)(hI:PwI p)(hc:ps.length<=100000)(hr:m i.R=some (.cells [.pointer (some ⟨i.D,0,none⟩),.int .u64 0,ev,bv,tv,fv] 0 false true)){bb a:Nat}(kd:bd<n/\m bd=some (.cells [.pointer (some ⟨i.R,0,none⟩)] 0 false true))(ka:ba<n/\m ba=some (.cells [.int .i64 (a:Int)] 0 false true))(kb:bb<n/\m bb=some (.cells [v] 0 false true))(ha:a<90)(hok:rc.Ok)(hv:By i pb m n v 37 (n8s rc.enc)):
  Rt (df PG EL Y 112 [.pointer (some ⟨bd,0,none⟩),.pointer (some ⟨ba,0,none⟩),.pointer (some ⟨bb,0,none⟩)] m n) fun r m' n' w=>OpR i pb m n p dur ps dur (ps++[Op.wr a rc]) r m' n' w:=by
 obtain⟨h1,h2,h3,h4,h5,h6,h7,h8,h9⟩:=h.cc.ok
 have hKN:=h.cc.KN
 obtain⟨kd1,kd2⟩:=kd
 obtain⟨ka1,ka2⟩:=ka
 obtain⟨kb1,kb2⟩:=kb
 have hvo:=hv.sh.one
 refine eZ (R:=fun r m' n' w=>OpR i pb m n p dur ps dur (ps++[Op.wr a rc]) r m' n' w) e112 rfl (fun r m' n' w hh _ hw=>hh.free h hp hI (by omega) hw) fun Q hQ=>?_
 simp only[J6]
 simp -implicitDefEqProofs (disch:=omega)only[W2,dd,Nat.testBit,Nat.reduceAdd,Nat.reduceShiftRight,Nat.reduceAnd,Nat.reduceBNe,Nat.reduceMul,kd2,hr,ka2,kb2,hvo,hv.sh.bel]
 refine fx (CP hU h hp hI hc ha hok hv) fun r1 m1 n1 r2 w1 hh=>?_
 obtain⟨e,rfl,_⟩:=hh.one
 simp -implicitDefEqProofs (disch:=omega)only[W2,dd,Nat.testBit,Nat.reduceAdd,Nat.reduceShiftRight,Nat.reduceAnd,Nat.reduceBNe,Nat.reduceMul]
 exact hQ _ _ _ _ _ hh
theorem lp{f:Nat}{cs:List Value}(h:Dsk i pb m n dur ps)(hp:PwR i.P m p)(hI:PwI p)(hP:i.P<n)(hcall:Rt (df PG EL Y f cs m n) fun r m' n' w=>OpR i pb m n p dur ps dur' ps' r m' n' w):
  Rt (df PG EL Y 25 [.func (.func f) #[] cs.toArray] m n) fun r m' n' w=>OpR i pb m n p dur ps dur' ps' r m' n' w:=
 tX (R:=fun r m' n' w=>OpR i pb m n p dur ps dur' ps' r m' n' w) (fun v m' n' w k=>by obtain⟨e,rfl,he⟩:=k.one;exact⟨e,rfl,by omega⟩) (fun v m' n' w k hw=>k.free h hp hI hP hw) hcall
theorem EB(hU:YUp Y){es:List Ent}(h:Drv i pb m n dur ps es bs t)(hp:PwR i.P m p)(hI:PwI p){CIp:List Sec->List Op->Prop}(hci:CIp dur ps)(hc:ps.length<=100000)(ho:BOk 6 bs){z:Int}(hz:z<0\/∃(e:Nat) (he:e<bs.length),z=(e:Int)/\bs[e].used=6)(hroom:∃(q:Nat) (hq:q<bs.length),bs[q].used<6){rc:Rec}(hok:rc.Ok){k:Nat}(hkb:rc.blk=k)(hk:k<es.length)(hx:¬es[k].ver=0->60<=es[k].adr/\es[k].adr<90/\∀hb:(es[k].adr-60) / 6<bs.length,1<=bs[(es[k].adr-60) / 6].live/\bs[(es[k].adr-60) / 6].live<=100)(ht:t+1<2 ^ 64):
  Rt (df PG EL Y 64 [.pointer (some ⟨i.R,0,none⟩),rc.val,.int .i64 z] m n) fun r m' n' w=>Nat.testBit w i.R=true/\DvR i pb m n p (fun pb' m' n' r=>r=.int .i64 0/\∃q,∃hq:q<bs.length,vI 6 bs q/\Drv i pb' m' n' dur (ps++[Op.wr (60+(q*6+bs[q].used)) {rc with tm:=t+1}]) (es.set k ⟨rc.kd,rc.ver,60+(q*6+bs[q].used)⟩) (jA (t+1) q (fp 6 es[k] bs)) (t+1)) (fun r=>r=.int .i64 13) CIp r m' n' w:=by
 obtain⟨h1,h2,h3,h4,h5,h6,h7,h8,h9⟩:=h.dsk.cc.ok
 have hKN:=h.dsk.cc.KN
 have hpN:=h.dsk.cc.pbN
 have hpk:=h.dsk.cc.pbk
 have hQN:=h.dsk.cc.QN
 have hbl:=h.bl
 obtain⟨bv,hd,hb⟩:=h.r
 have hr:=hd.r
 have hel:=hd.el
 refine dY (R:=fun r m' n' w=>DvR i pb m n p (fun pb' m' n' r=>r=.int .i64 0/\∃q,∃hq:q<bs.length,vI 6 bs q/\Drv i pb' m' n' dur (ps++[Op.wr (60+(q*6+bs[q].used)) {rc with tm:=t+1}]) (es.set k ⟨rc.kd,rc.ver,60+(q*6+bs[q].used)⟩) (jA (t+1) q (fp 6 es[k] bs)) (t+1)) (fun r=>r=.int .i64 13) CIp r m' n' w) e64 rfl (show i.R<n by omega) fun Q hQ=>?_
 have hok':({rc with tm:=t+1}:Rec).Ok:=⟨hok.kd,hok.blk,hok.v1,hok.v2,hok.dl,hok.d8,ht⟩
 have henc:=fun(m:FM) (n:Nat)=>A5 (Y:=Y) m n hok'
 obtain⟨kd,blk,ver,ds,tm⟩:=rc
 simp only at hkb
 subst hkb
 obtain⟨d0,d1,d2,d3,d4,d5,d6,d7,hds⟩:=eight hok.dl
 simp only at hds
 subst hds
 have hv1:1<=ver:=hok.v1
 simp only[Rec.val,Rec.cs,n8s,List.map_cons,List.map_nil]at henc
 simp only[Pc,Rec.val,Rec.cs,n8s,List.map_cons,List.map_nil]
 simp -implicitDefEqProofs (disch:=omega)only[W2,dd,Nat.testBit,Nat.reduceAdd,Nat.reduceShiftRight,Nat.reduceAnd,Nat.reduceBNe,Nat.reduceMul]
 generalize hM1:(AMem.put (AMem.put m n _) (n+1) _:FM)=M1
 have l1:∀b,b<n->M1 b=m b:=fun b hb=>by rw[<-hM1,dc _ _ _ _ (by omega),dc _ _ _ _ (by omega)]
 have p0:M1 n=some (.cells [.pointer (some ⟨i.R,0,none⟩)] 0 false true):=by rw[<-hM1,dc _ _ _ _ (by omega)];exact de _ _ _
 have p1:M1 (n+1)=some (.cells [.int .i64 (kd:Int),.int .i64 (blk:Int),.int .u64 (ver:Int),.int .u8 (d0:Int),.int .u8 (d1:Int),.int .u8 (d2:Int),.int .u8 (d3:Int),.int .u8 (d4:Int),.int .u8 (d5:Int),.int .u8 (d6:Int),.int .u8 (d7:Int)] 0 false true):=by rw[<-hM1];exact de _ _ _
 have hD1:=h.dF (show n<=n+2 by omega) l1
 obtain⟨q,hq,hop⟩:=dopen (Y:=Y) hD1 ho hz hroom
 have hq1:=hq.1
 refine di hop fun r1=>?_
 have hr1:=(l1 i.R (by omega)).trans hr
 simp -implicitDefEqProofs (disch:=omega)only[W2,dd,Nat.testBit,Nat.reduceAdd,Nat.reduceShiftRight,Nat.reduceAnd,Nat.reduceBNe,Nat.reduceMul,dH,p0,p1,hr1,wrap_small ht]
 refine tA hU (henc M1 (n+2)) fun r2 m2 n2 r3 w2 hh hu=>?_
 obtain⟨hn2,hf2,hw2,ev,rfl,hS2⟩:=hh
 have hvo:=hS2.one
 obtain⟨u1,u2⟩:=hu n2 (Nat.le_refl _)
 simp -implicitDefEqProofs (disch:=omega)only[W2,dd,Nat.testBit,Nat.reduceAdd,Nat.reduceShiftRight,Nat.reduceAnd,Nat.reduceBNe,Nat.reduceMul,dH,tI hS2,hvo,dW hvo,hS2.bel,hS2.yQ,u1,u2]
 generalize hM3:(AMem.put m2 n2 _:FM)=M3
 have l3:∀b,b<n2->M3 b=m2 b:=fun b hb=>by rw[<-hM3,dc _ _ _ _ (by omega)]
 have p2:M3 n2=some (.cells [ev] 0 false true):=by rw[<-hM3];exact de _ _ _
 have z0:=(l3 n (by omega)).trans ((hf2 n (by omega)).trans p0)
 have z1:=(l3 (n+1) (by omega)).trans ((hf2 (n+1) (by omega)).trans p1)
 have hD3:=hD1.dF (show n+2<=n2+1 by omega) fun b hb=>(l3 b (by omega)).trans (hf2 b hb)
 have l4:∀b,b<n->M3 b=m b:=fun b hb=>by rw[l3 b (by omega),hf2 b (by omega),l1 b hb]
 have hb':=hb
 obtain⟨bk,bc,bo,bw,rfl,b1,b2,b3,b4,b5,b6⟩:=hb'
 have z2:=(l4 i.R (by omega)).trans hr
 have z3:=(l4 bk b3).trans b4
 have hix:=(show fU 4 q (.slice (some ⟨bk,0,none⟩) bs.length bc)=some (.pointer (some ⟨bk,q*4,none⟩)) by rw[eY hq1,Nat.zero_add])
 obtain⟨c1,c2,c3,c4,c5⟩:=eM hq1
 have hd3:Dr i.D i.R i.EN M3 es (.slice (some ⟨bk,0,none⟩) bs.length bc) t 0:=hd.dF (l4 _ (by omega)) (l4 _ (by omega))
 rw[<-l3 n (by omega)]
 simp -implicitDefEqProofs (disch:=omega)only[W2,dd,Nat.testBit,Nat.reduceAdd,Nat.reduceShiftRight,Nat.reduceAnd,Nat.reduceBNe,Nat.reduceMul,z0,z2]
 refine tB hU (lF (by omega) hD3.dsk.dk) fun r4 hu4=>?_
 simp only[gV]
 simp -implicitDefEqProofs (disch:=omega)only[W2,dd,Nat.testBit,Nat.reduceAdd,Nat.reduceShiftRight,Nat.reduceAnd,Nat.reduceBNe,Nat.reduceMul,G4,Ia,z0]
 refine tB hU (gH (by omega) (by omega) hD3.dsk.dk hd3) fun r5 hu5=>?_
 have hus:=hq.2.1
 simp -implicitDefEqProofs (disch:=omega)only[W2,dd,Nat.testBit,Nat.reduceAdd,Nat.reduceShiftRight,Nat.reduceAnd,Nat.reduceBNe,Nat.reduceMul,z0,z2,z3,hix,c2,hu4 (n2+1) (Nat.le_refl _),hu5 (n2+1) (Nat.le_refl _)]
 generalize hM4:(AMem.put M3 (n2+1) _:FM)=M4
 have l5:∀b,b<n2+1->M4 b=M3 b:=fun b hb=>by rw[<-hM4,dc _ _ _ _ (by omega)]
 have p3:M4 (n2+1)=some (.cells [.int .i64 ((60+(q*6+bs[q].used):Nat):Int)] 0 false true):=by rw[<-hM4,show((60+(q*6+bs[q].used):Nat):Int)=60+q*6+bs[q].used by omega];exact de _ _ _
 have hD4:=hD3.dF (show n2+1<=n2+2 by omega) l5
 have hvE:By i pb M4 (n2+2) ev 37 (n8s (Rec.enc ⟨kd,blk,ver,[d0,d1,d2,d3,d4,d5,d6,d7],t+1⟩)):=BX hS2 (fun b e1 e2=>by rw[l5 b (by omega),l3 b e2]) (by omega) (by omega) (by omega) (by omega) (.inl (by omega)) (Cq _)
 have l6:∀b,b<n->M4 b=m b:=fun b hb=>by rw[l5 b (by omega),l4 b hb]
 have hp4:PwR i.P M4 p:=(l6 _ (by omega)).trans hp
 simp -implicitDefEqProofs (disch:=omega)only[W2,dd,Nat.testBit,Nat.reduceAdd,Nat.reduceShiftRight,Nat.reduceAnd,Nat.reduceBNe,Nat.reduceMul,gj]
 refine dw (lp (f:=112) (cs:=[.pointer (some ⟨n,0,none⟩),.pointer (some ⟨n2+1,0,none⟩),.pointer (some ⟨n2,0,none⟩)]) hD4.dsk hp4 hI (show i.P<n2+2 by omega) (Gh hU hD4.dsk hp4 hI hc ((l6 _ (by omega)).trans hr) ⟨by omega,(l5 n (by omega)).trans z0⟩ ⟨by omega,p3⟩ ⟨by omega,(l5 n2 (by omega)).trans p2⟩ (show 60+(q*6+bs[q].used)<90 by omega) hok' hvE)) fun r6 m6 n6 r7 w6 hh=>?_
 obtain⟨y0,y1,y2,p',hp',hI',hcase⟩:=hh
 have k0:=(y2 n (by omega) (by omega) (by omega) (by omega)).1.trans ((l5 n (by omega)).trans z0)
 have k1:=(y2 (n+1) (by omega) (by omega) (by omega) (by omega)).1.trans ((l5 (n+1) (by omega)).trans z1)
 rcases hcase with⟨rfl,g1,g2,g3,g4,pb',y3,y4⟩|⟨rfl,g1,g2,y4⟩
 ·have hpb':=y4.cc.pbN
  have hD6:=hD4.F7 y1 y2 (by omega) y4
  obtain⟨bv6,hd6,hb6⟩:=hD6.r
  have hr6:=hd6.r
  simp -implicitDefEqProofs (disch:=omega)only[W2,dd,Nat.testBit,Nat.reduceAdd,Nat.reduceShiftRight,Nat.reduceAnd,Nat.reduceBNe,Nat.reduceMul,k0,hr6,wrap_small ht]
  generalize hM7:(AMem.put m6 i.R _:FM)=M7
  have l7:∀b,b≠i.R->M7 b=m6 b:=fun b hb=>by rw[<-hM7,dc _ _ _ _ hb]
  have hd7:Dr i.D i.R i.EN M7 es bv6 (t+1) 0:=⟨by rw[<-hM7];exact de _ _ _,(l7 _ (by omega)).trans hd6.en,hel⟩
  have hD7:Drv i pb' M7 n6 dur (ps++[Op.wr (60+(q*6+bs[q].used)) ⟨kd,blk,ver,[d0,d1,d2,d3,d4,d5,d6,d7],t+1⟩]) es bs (t+1):=⟨hD6.dsk.qa (Nat.le_refl _) fun b _ _ e1 e2=>l7 b e1,⟨bv6,hd7,hb6.fr2 (by omega) h9 fun b _ e1 _=>l7 b e1⟩,hbl⟩
  have k1':=(l7 (n+1) (by omega)).trans k1
  have k0':=(l7 n (by omega)).trans k0
  rw[<-l7 (n+1) (by omega)]
  simp -implicitDefEqProofs (disch:=omega)only[W2,dd,Nat.testBit,Nat.reduceAdd,Nat.reduceShiftRight,Nat.reduceAnd,Nat.reduceBNe,Nat.reduceMul,k1']
  refine dw (Lr hD7 hk hx) fun r8 m8 n8 r9 w8 hh=>?_
  obtain⟨x0,x1,x2,hD8⟩:=hh
  have j0:=(x2 n (by omega) (by omega) (by omega) (by omega)).1.trans k0'
  have j1:=(x2 (n+1) (by omega) (by omega) (by omega) (by omega)).1.trans k1'
  obtain⟨bv8,hd8,hb8⟩:=hD8.r
  have hr8:=hd8.r
  have hlu:(fp 6 es[blk] bs).length=bs.length:=gT _ _ _
  have hus8:∀(h:q<(fp 6 es[blk] bs).length),(fp 6 es[blk] bs)[q].used=bs[q].used/\(fp 6 es[blk] bs)[q].live<=bs[q].live:=fun h=>Ku _ _ _ _ hq1 h
  obtain⟨u8,v8⟩:=hus8 (by omega)
  have hbo:=ho _ (List.getElem_mem hq1)
  obtain⟨pp1,pp2,pp3,pp4⟩:=hb8.p
  simp -implicitDefEqProofs (disch:=omega)only[W2,dd,Nat.testBit,Nat.reduceAdd,Nat.reduceShiftRight,Nat.reduceAnd,Nat.reduceBNe,Nat.reduceMul,j0,hr8,pp2,pp3]
  refine dV (gH (by omega) (by omega) hD8.dsk.dk hd8) fun r10=>?_
  simp -implicitDefEqProofs (disch:=omega)only[W2,dd,Nat.testBit,Nat.reduceAdd,Nat.reduceShiftRight,Nat.reduceAnd,Nat.reduceBNe,Nat.reduceMul,j0,hr8,pp2,pp3]
  refine fx (yR hb8 (k:=q) (S:=6) (by omega) (by omega) (by omega) (by omega) (((t+1:Nat):Int))) fun r11 m9 n9 r12 w9 hh=>?_
  obtain⟨f1,f2,f3,bv9,rfl,hS9⟩:=hh
  have hvo9:=hS9.one
  obtain⟨lw1,lw2⟩:=gF (f3 n8 (Nat.le_refl _)) (show i.R<n8 by omega)
  have hr9:=(f2 i.R (by omega)).trans hr8
  obtain⟨lw3,lw4⟩:=gF (f3 n8 (Nat.le_refl _)) (show n<n8 by omega)
  simp -implicitDefEqProofs (disch:=omega)only[W2,dd,Nat.testBit,Nat.reduceAdd,Nat.reduceShiftRight,Nat.reduceAnd,Nat.reduceBNe,Nat.reduceMul,dH,tI hS9,hvo9,dW hvo9,hS9.bel,hS9.yQ,hr9,lw1,lw2,lw3,lw4]
  generalize hM10:(AMem.put m9 i.R _:FM)=M10
  have l10:∀b,b≠i.R->M10 b=m9 b:=fun b hb=>by rw[<-hM10,dc _ _ _ _ hb]
  have hR10:M10 i.R=some (.cells [.pointer (some ⟨i.D,0,none⟩),.int .u64 0,.slice (some ⟨i.EN,0,none⟩) es.length UNK,bv9,.int .u64 ((t+1:Nat):Int),.int .i64 0] 0 false true):=by rw[<-hM10,show es.length=(es.set blk ⟨0,0,0⟩).length by rw[List.length_set]];exact de _ _ _
  have j0':=(l10 n (by omega)).trans ((f2 n (by omega)).trans j0)
  have j1':=(l10 (n+1) (by omega)).trans ((f2 (n+1) (by omega)).trans j1)
  have he10:=(l10 i.EN (by omega)).trans ((f2 i.EN (by omega)).trans hd8.en)
  have hixE:=jy (b:=i.EN) (c:=UNK) hk
  have hsetE:=oU (es.set blk ⟨0,0,0⟩) blk (by rw[List.length_set];exact hk) ⟨kd,ver,60+(q*6+bs[q].used)⟩
  rw[List.set_set,show Ent.k ⟨kd,ver,60+(q*6+bs[q].used)⟩=(kd:Int)from if_neg (show¬ver=0 by omega),show Ent.a ⟨kd,ver,60+(q*6+bs[q].used)⟩=((60+(q*6+bs[q].used):Nat):Int)from if_neg (show¬ver=0 by omega)]at hsetE
  have p3':M10 (n2+1)=some (.cells [.int .i64 ((60+(q*6+bs[q].used):Nat):Int)] 0 false true):=by
   rw[l10 _ (by omega),f2 _ (by omega),(x2 _ (by omega) (by omega) (by omega) (by omega)).1,l7 _ (by omega),(y2 _ (by omega) (by omega) (by omega) (by omega)).1,p3]
  rw[<-l10 n (by omega)]
  simp -implicitDefEqProofs (disch:=omega)only[W2,dd,Nat.testBit,Nat.reduceAdd,Nat.reduceShiftRight,Nat.reduceAnd,Nat.reduceBNe,Nat.reduceMul,j0',hR10,j1',p3',hixE,he10,hsetE]
  generalize hM11:(AMem.put M10 i.EN _:FM)=M11
  have l11:∀b,b≠i.EN->M11 b=M10 b:=fun b hb=>by rw[<-hM11,dc _ _ _ _ hb]
  have hl9:(jA (t+1) q (fp 6 es[blk] bs)).length=5:=by rw[lL,hlu,hbl]
  rw[<-ET (t:=t+1) (by omega)]at hS9
  refine hQ _ _ _ _ _ ?_ ⟨by omega,fun b hb hb0 hkk hne=>⟨?_,?_⟩,p',?_,hI',pb',by omega,.inl ⟨g1,g3,g4,rfl,q,hq1,hq,?_,⟨bv9,⟨?_,by rw[<-hM11];exact de _ _ _,by rw[List.length_set];exact hel⟩,?_⟩,hl9⟩⟩
  ·simp only[c9,dn];simp
  ·rw[l11 b (by omega),l10 b (by omega),f2 b (by omega),(x2 b (by omega) (by omega) (by omega) (by omega)).1,l7 b (by omega),(y2 b (by omega) hb0 (by omega) hne).1,l5 b (by omega),l4 b hb]
  ·simp only[c9,dh (show b≠n by omega),dh (show b≠n+1 by omega),dh (show b≠n2 by omega),dh (show b≠n2+1 by omega),dK (hw2 (n+2) (Nat.le_refl _)) b (by omega),(y2 b (by omega) hb0 (by omega) hne).2,dh (show b≠i.R by omega),(x2 b (by omega) (by omega) (by omega) (by omega)).2,dK (f3 n8 (Nat.le_refl _)) b (by omega),dh (show b≠i.EN by omega)];rfl
  ·rw[PwR,l11 _ (by omega),l10 _ (by omega),f2 _ (by omega),(x2 _ (by omega) (by omega) (by omega) (by omega)).1,l7 _ (by omega)];exact hp'
  ·exact hD8.dsk.qa (by omega) fun b hb _ e1 e2=>by rw[l11 b e2,l10 b e1,f2 b hb]
  ·rw[List.length_set,l11 _ (by omega)];exact hR10
  ·exact sW hS9 (fun b e1 e2=>by rw[l11 b (by omega),l10 b (by omega)]) (Nat.le_refl _) hl9 (by omega) (by omega) (.inl (by omega))
 ·have hD6:=hD4.F7 y1 y2 (.inl rfl) y4
  obtain⟨bv6,hd6,hb6⟩:=hD6.r
  have hr6:=hd6.r
  simp -implicitDefEqProofs (disch:=omega)only[W2,dd,Nat.testBit,Nat.reduceAdd,Nat.reduceShiftRight,Nat.reduceAnd,Nat.reduceBNe,Nat.reduceMul,k0]
  refine dw (xk (show i.R<n6 by omega) hr6) fun r8 m8 n8 r9 w8 hh=>?_
  obtain⟨x0,rfl,rfl,x1,x2⟩:=hh
  simp -implicitDefEqProofs (disch:=omega)only[W2,dd,Nat.testBit,Nat.reduceAdd,Nat.reduceShiftRight,Nat.reduceAnd,Nat.reduceBNe,Nat.reduceMul]
  refine hQ _ _ _ _ _ ?_ ⟨by omega,fun b hb hb0 hkk hne=>⟨?_,?_⟩,p',?_,hI',pb,.inl rfl,.inr ⟨rfl,g1,dur,ps,⟨?_,_,_,_,x2⟩,hci,by omega⟩⟩
  ·simp only[c9,x0];simp
  ·rw[(x1 b (by omega)).1,(y2 b (by omega) hb0 (by omega) hne).1,l6 b hb]
  ·simp only[c9,dh (show b≠n by omega),dh (show b≠n+1 by omega),dh (show b≠n2 by omega),dh (show b≠n2+1 by omega),dK (hw2 (n+2) (Nat.le_refl _)) b (by omega),(y2 b (by omega) hb0 (by omega) hne).2,(x1 b (by omega)).2];rfl
  ·rw[PwR,(x1 _ (by omega)).1];exact hp'
  ·exact y4.qa (Nat.le_refl _) fun b _ _ e1 _=>(x1 b e1).1
theorem Ent.Fc(x:Ent)(h:x.adr<1000):-1<=x.a/\x.a<1000:=by
 unfold Ent.a
 split<;>omega
theorem IP{es:List Ent}(hR:Rb<n)(hE:EN<n)(h:Dr D Rb EN m es bv t fe)(kd:bd<n/\m bd=some (.cells [.pointer (some ⟨Rb,0,none⟩)] 0 false true)){a:Nat}(ha:a<es.length)(hb:b<es.length)(ha2:es[a].adr<1000)(hb2:es[b].adr<1000):Pure (df PG EL Y 71 [.int .i64 (a:Int),.int .i64 (b:Int),.pointer (some ⟨bd,0,none⟩)] m n) m n (.int .i64 (es[a].a-es[b].a)):=by
 have hel:=h.el
 have hr:=h.r
 have hen:=h.en
 obtain⟨kd1,kd2⟩:=kd
 obtain⟨a1,a2,a3,a4⟩:=iY ha
 obtain⟨b1,b2,b3,b4⟩:=iY hb
 have hix:=jy (b:=EN) (c:=UNK) ha
 have hiy:=jy (b:=EN) (c:=UNK) hb
 have r1:=Ent.Fc es[a] ha2
 have r2:=Ent.Fc es[b] hb2
 refine dz e71 rfl rfl ?_
 simp only[O7]
 simp -implicitDefEqProofs (disch:=omega)only[W2,dd,Nat.testBit,Nat.reduceAdd,Nat.reduceShiftRight,Nat.reduceAnd,Nat.reduceBNe,Nat.reduceMul,kd2,hr,hen,hix,hiy,a4,b4]
theorem rm{l:List Nat}{j:Nat}(h:j<l.length):fh (ef l) j=some (.int .i64 ((l[j]:Nat):Int)):=by
 rw[eV,ef,List.getElem?_map,List.getElem?_eq_getElem h];rfl
theorem yf(l:List Nat)(j x:Nat)(h:j<l.length):setCells (ef l) j [.int .i64 (x:Int)]=some (ef (l.set j x)):=by
 rw[eh,if_pos (by rw[ef,List.length_map];simp;omega)]
 simp only[ef,List.map_set]
 rw[List.set_eq_take_append_cons_drop,if_pos (by rw[List.length_map];exact h)]
 simp
theorem swap_perm:∀(l:List Nat) (j:Nat) (h:j+1<l.length),((l.set (j+1) l[j]).set j l[j+1]).Perm l
 |[],j,h=>absurd h (Nat.not_lt_zero _)
 |[x],j,h=>by rw[List.length_singleton]at h;omega
 |x::y::r,0,h=>by simpa using List.Perm.swap x y r
 |x::y::r,j+1,h=>by
  have:=swap_perm (y::r) j (by rw[List.length_cons]at h;omega)
  simpa using this
def Cmp(Y:Nat->List Value->FM->Nat->OR FM)(n vb:Nat)(l0:List Nat)(cf:Nat)(ccs:List Value)(M0:FM):Prop:=
 ∀M:FM,(∀b,b≠vb->M b=M0 b)->∀a b,a∈l0->b∈l0->∃z:Int,-1000000<z/\z<1000000/\Pure (df PG EL Y cf ([.int .i64 (a:Int),.int .i64 (b:Int)]++ccs) M n) M n (.int .i64 z)
theorem Kz(C:Cmp Y n vb l0 cf ccs M0)(hcb:ccs.all (jn n)=true)(hvb:vb<n)(hlen:l0.length<=12)(i0:Nat)(hi0:i0<l0.length)(x1 x3:Value)
  (hQ:∀j M w l,l.Perm l0->(∀b,b≠vb->M b=M0 b)->M vb=some (.cells (ef l) 1 true true)->(∀b,b≠vb->Nat.testBit w b=false)->Q (.exit 2) [j,x1,.int .i64 (i0:Int),x3,.slice (some ⟨vb,0,none⟩) l0.length UNK,.int .i64 0,.int .i64 (l0.length:Int),.func (.func cf) #[] ccs.toArray] M n w):
  ∀(j:Nat),j<=i0->∀(M:FM) (l:List Nat) (w0:Nat),l.Perm l0->(∀b,b≠vb->M b=M0 b)->M vb=some (.cells (ef l) 1 true true)->(∀b,b≠vb->Nat.testBit w0 b=false)->
  Gv (dt PG EL Y tn [.int .i64 (j:Int),x1,.int .i64 (i0:Int),x3,.slice (some ⟨vb,0,none⟩) l0.length UNK,.int .i64 0,.int .i64 (l0.length:Int),.func (.func cf) #[] ccs.toArray] M n) fun X e m n w=>Q X e m n (Nat.lor w0 w):=by
 intro j
 induction j with
 |zero=>
  intro hj M l w0 hl hM hv hw
  refine dm (L:=tn) (b:=nD) rfl ?_
  simp only[nD]
  simp -implicitDefEqProofs (disch:=omega)only[W2,dd,Nat.testBit,Nat.reduceAdd,Nat.reduceShiftRight,Nat.reduceAnd,Nat.reduceBNe,Nat.reduceMul]
  exact hQ _ _ _ _ hl hM hv hw
 |succ j ih=>
  intro hj M l w0 hl hM hv hw
  have hll:=hl.length_eq
  have hbf:et n (.func (.func cf) #[] ccs.toArray)=true:=by
   have e:=sG n cf [] ccs
   rw[hcb]at e
   exact e
  have hi1:fU 1 (j+1) (.slice (some ⟨vb,0,none⟩) l0.length UNK)=some (.pointer (some ⟨vb,j+1,none⟩)):=by rw[eY (by omega),Nat.zero_add,Nat.mul_one]
  have hi2:fU 1 j (.slice (some ⟨vb,0,none⟩) l0.length UNK)=some (.pointer (some ⟨vb,j,none⟩)):=by rw[eY (by omega),Nat.zero_add,Nat.mul_one]
  have g1:=rm (l:=l) (j:=j+1) (by omega)
  have g2:=rm (l:=l) (j:=j) (by omega)
  obtain⟨z,z1,z2,hz⟩:=C M hM l[j+1] l[j] (hl.subset (List.getElem_mem (by omega))) (hl.subset (List.getElem_mem (by omega)))
  have s1:=yf l (j+1) l[j] (by omega)
  have s2:=yf (l.set (j+1) l[j]) j l[j+1] (by rw[List.length_set];omega)
  refine dm (L:=tn) (b:=nD) rfl ?_
  simp only[nD]
  simp -implicitDefEqProofs (disch:=omega)only[W2,dd,Nat.testBit,Nat.reduceAdd,Nat.reduceShiftRight,Nat.reduceAnd,Nat.reduceBNe,Nat.reduceMul,hbf,hi1,hi2,hv,g1,g2,jw,ml,Nat.add_sub_cancel]
  refine dV hz fun r1=>?_
  by_cases hzz:z<0
  ·simp -implicitDefEqProofs (disch:=omega)only[W2,dd,Nat.testBit,Nat.reduceAdd,Nat.reduceShiftRight,Nat.reduceAnd,Nat.reduceBNe,Nat.reduceMul,hbf,hi1,hi2,hv,g1,g2,s1,s2,Nat.add_sub_cancel]
   refine dM (ih (by omega) _ _ (Nat.lor w0 (Nat.lor (bit vb) (bit vb))) ((swap_perm l j (by omega)).trans hl) (fun b hb=>by rw[dc _ _ _ _ hb,hM b hb]) (de _ _ _) (fun b hb=>by simp only[c9,hw b hb,dh hb];rfl)) fun X e m n w hq=>?_
   rw[show Nat.lor w0 (Nat.lor (Nat.lor (bit vb) (bit vb)) w)=Nat.lor (Nat.lor w0 (Nat.lor (bit vb) (bit vb))) w from(dy _ _ _).symm]
   exact hq
  ·simp -implicitDefEqProofs (disch:=omega)only[W2,dd,Nat.testBit,Nat.reduceAdd,Nat.reduceShiftRight,Nat.reduceAnd,Nat.reduceBNe,Nat.reduceMul,hbf,hi1,hi2,hv,g1,g2]
   exact hQ _ _ _ _ hl hM hv hw
theorem Ky(C:Cmp Y n vb l0 cf ccs M0)(hcb:ccs.all (jn n)=true)(hvb:vb<n)(hlen:l0.length<=12)(x1:Value)
  (hQ:∀M w l,l.Perm l0->(∀b,b≠vb->M b=M0 b)->M vb=some (.cells (ef l) 1 true true)->(∀b,b≠vb->Nat.testBit w b=false)->Q (.exit 0) [x1,.slice (some ⟨vb,0,none⟩) l0.length UNK,.int .i64 0,.int .i64 (l0.length:Int),.func (.func cf) #[] ccs.toArray] M n w):
  ∀(d i0:Nat),i0+d=l0.length+1->1<=i0->∀(M:FM) (l:List Nat) (w0:Nat),l.Perm l0->(∀b,b≠vb->M b=M0 b)->M vb=some (.cells (ef l) 1 true true)->(∀b,b≠vb->Nat.testBit w0 b=false)->
  Gv (dt PG EL Y qI [.int .i64 (i0:Int),x1,.slice (some ⟨vb,0,none⟩) l0.length UNK,.int .i64 0,.int .i64 (l0.length:Int),.func (.func cf) #[] ccs.toArray] M n) fun X e m n w=>Q X e m n (Nat.lor w0 w):=by
 intro d
 induction d with
 |zero=>
  intro i0 hi hi1 M l w0 hl hM hv hw
  refine dm (L:=qI) (b:=kc) rfl ?_
  simp only[kc]
  simp -implicitDefEqProofs (disch:=omega)only[W2,dd,Nat.testBit,Nat.reduceAdd,Nat.reduceShiftRight,Nat.reduceAnd,Nat.reduceBNe,Nat.reduceMul]
  exact hQ _ _ _ hl hM hv hw
 |succ d ih=>
  intro i0 hi hi1 M l w0 hl hM hv hw
  refine dm (L:=qI) (b:=kc) rfl ?_
  simp only[kc]
  by_cases hlt:i0<l0.length
  ·simp -implicitDefEqProofs (disch:=omega)only[W2,dd,Nat.testBit,Nat.reduceAdd,Nat.reduceShiftRight,Nat.reduceAnd,Nat.reduceBNe,Nat.reduceMul]
   refine dS ((Kz C hcb hvb hlen i0 hlt _ _ (fun j M w l hl hM hv hw2=>?_) i0 (Nat.le_refl _) M l 0 hl hM hv (fun b _=>Nat.zero_testBit _)).mono fun X e m' n' w hq=>by simpa only[dx]using hq)
   intro rr
   simp -implicitDefEqProofs (disch:=omega)only[W2,dd,Nat.testBit,Nat.reduceAdd,Nat.reduceShiftRight,Nat.reduceAnd,Nat.reduceBNe,Nat.reduceMul]
   refine dM (ih (i0+1) (by omega) (by omega) _ _ (Nat.lor w0 w) hl hM hv (fun b hb=>by rw[c9,hw b hb,hw2 b hb];rfl)) fun X e m n w2 hq=>?_
   rw[show Nat.lor w0 (Nat.lor w w2)=Nat.lor (Nat.lor w0 w) w2 from(dy _ _ _).symm]
   exact hq
  ·simp -implicitDefEqProofs (disch:=omega)only[W2,dd,Nat.testBit,Nat.reduceAdd,Nat.reduceShiftRight,Nat.reduceAnd,Nat.reduceBNe,Nat.reduceMul]
   exact hQ _ _ _ hl hM hv hw
theorem isort(C:Cmp Y n vb l0 cf ccs m)(hcb:ccs.all (jn n)=true)(hvb:vb<n)(hlen:l0.length<=12)(hm:m vb=some (.cells (ef l0) 1 true true)):
  Rt (df PG EL Y 161 [.slice (some ⟨vb,0,none⟩) l0.length UNK,.int .i64 0,.int .i64 (l0.length:Int),.func (.func cf) #[] ccs.toArray] m n) fun r m' n' w=>n'=n/\(∀b,b≠vb->m' b=m b/\Nat.testBit w b=false)/\∃l,l.Perm l0/\m' vb=some (.cells (ef l) 1 true true):=by
 refine jD (args:=[.slice (some ⟨vb,0,none⟩) l0.length UNK,.int .i64 0,.int .i64 (l0.length:Int),.func (.func cf) #[] ccs.toArray]) (R:=fun m' n' w=>n'=n/\(∀b,b≠vb->m' b=m b/\Nat.testBit w b=false)/\∃l,l.Perm l0/\m' vb=some (.cells (ef l) 1 true true)) e161 (by rfl) (by rfl) ⟨rfl,fun b _=>⟨rfl,Nat.zero_testBit _⟩,l0,List.Perm.refl _,hm⟩ fun Q hQ=>?_
 simp only[E6]
 simp -implicitDefEqProofs (disch:=omega)only[W2,dd,Nat.testBit,Nat.reduceAdd,Nat.reduceShiftRight,Nat.reduceAnd,Nat.reduceBNe,Nat.reduceMul]
 refine dS ((Ky C hcb hvb hlen _ (fun M w l hl hM hv hw=>?_) l0.length 1 (by omega) (by omega) m l0 0 (List.Perm.refl _) (fun _ _=>rfl) hm (fun b _=>Nat.zero_testBit _)).mono fun X e m' n' w hq=>by simpa only[dx]using hq)
 intro rr
 simp -implicitDefEqProofs (disch:=omega)only[W2,dd,Nat.testBit,Nat.reduceAdd,Nat.reduceShiftRight,Nat.reduceAnd,Nat.reduceBNe,Nat.reduceMul]
 exact hQ _ _ _ _ _ (.inl rfl) ⟨rfl,fun b hb=>⟨hM b hb,hw b hb⟩,l,hl,hv⟩
theorem Ho(C:Cmp Y n vb l0 cf ccs m)(hcb:ccs.all (jn n)=true)(hvb:vb<n)(hlen:l0.length<=12)(hm:m vb=some (.cells (ef l0) 1 true true))(z:Int):
  Rt (df PG EL Y 118 [.slice (some ⟨vb,0,none⟩) l0.length UNK,.int .i64 0,.int .i64 (l0.length:Int),.int .i64 z,.func (.func cf) #[] ccs.toArray] m n) fun r m' n' w=>n'=n/\(∀b,b≠vb->m' b=m b/\Nat.testBit w b=false)/\∃l,l.Perm l0/\m' vb=some (.cells (ef l) 1 true true):=by
 refine jD (args:=[.slice (some ⟨vb,0,none⟩) l0.length UNK,.int .i64 0,.int .i64 (l0.length:Int),.int .i64 z,.func (.func cf) #[] ccs.toArray]) (R:=fun m' n' w=>n'=n/\(∀b,b≠vb->m' b=m b/\Nat.testBit w b=false)/\∃l,l.Perm l0/\m' vb=some (.cells (ef l) 1 true true)) e118 rfl rfl ⟨rfl,fun b _=>⟨rfl,Nat.zero_testBit _⟩,l0,List.Perm.refl _,hm⟩ fun Q hQ=>?_
 simp only[E8]
 simp -implicitDefEqProofs (disch:=omega)only[W2,dd,Nat.testBit,Nat.reduceAdd,Nat.reduceShiftRight,Nat.reduceAnd,Nat.reduceBNe,Nat.reduceMul]
 refine dS (dm (L:=zi) (b:=nL) rfl ?_)
 simp only[nL]
 simp -implicitDefEqProofs (disch:=omega)only[W2,dd,Nat.testBit,Nat.reduceAdd,Nat.reduceShiftRight,Nat.reduceAnd,Nat.reduceBNe,Nat.reduceMul]
 refine dw (isort C hcb hvb hlen hm) fun r1 m1 n1 r2 w1 hh=>?_
 simp -implicitDefEqProofs (disch:=omega)only[W2,dd,Nat.testBit,Nat.reduceAdd,Nat.reduceShiftRight,Nat.reduceAnd,Nat.reduceBNe,Nat.reduceMul]
 intro rr
 simp -implicitDefEqProofs (disch:=omega)only[W2,dd,Nat.testBit,Nat.reduceAdd,Nat.reduceShiftRight,Nat.reduceAnd,Nat.reduceBNe,Nat.reduceMul]
 exact hQ _ _ _ _ _ (.inr rfl) hh
theorem chr13(x:Nat)(hx:x<13):∃k:Nat,k<=8/\CW x (.string ⟨#[0,1,2,2,3,3,3,3,4,4,4,4,4,4,4,4,5,5,5,5,5,5,5,5,5,5,5,5,5,5,5,5,6,6,6,6,6,6,6,6,6,6,6,6,6,6,6,6,6,6,6,6,6,6,6,6,6,6,6,6,6,6,6,6,7,7,7,7,7,7,7,7,7,7,7,7,7,7,7,7,7,7,7,7,7,7,7,7,7,7,7,7,7,7,7,7,7,7,7,7,7,7,7,7,7,7,7,7,7,7,7,7,7,7,7,7,7,7,7,7,7,7,7,7,7,7,7,7,8,8,8,8,8,8,8,8,8,8,8,8,8,8,8,8,8,8,8,8,8,8,8,8,8,8,8,8,8,8,8,8,8,8,8,8,8,8,8,8,8,8,8,8,8,8,8,8,8,8,8,8,8,8,8,8,8,8,8,8,8,8,8,8,8,8,8,8,8,8,8,8,8,8,8,8,8,8,8,8,8,8,8,8,8,8,8,8,8,8,8,8,8,8,8,8,8,8,8,8,8,8,8,8,8,8,8,8,8,8,8,8,8,8,8,8,8,8,8,8,8,8,8,8,8,8,8,8]⟩)=some (.int .u8 (k:Int)):=
 match x,hx with
 |0,_=>⟨0,by omega,by kernel_rfl⟩
 |1,_=>⟨1,by omega,by kernel_rfl⟩
 |2,_=>⟨2,by omega,by kernel_rfl⟩
 |3,_=>⟨2,by omega,by kernel_rfl⟩
 |4,_=>⟨3,by omega,by kernel_rfl⟩
 |5,_=>⟨3,by omega,by kernel_rfl⟩
 |6,_=>⟨3,by omega,by kernel_rfl⟩
 |7,_=>⟨3,by omega,by kernel_rfl⟩
 |8,_=>⟨4,by omega,by kernel_rfl⟩
 |9,_=>⟨4,by omega,by kernel_rfl⟩
 |10,_=>⟨4,by omega,by kernel_rfl⟩
 |11,_=>⟨4,by omega,by kernel_rfl⟩
 |12,_=>⟨4,by omega,by kernel_rfl⟩
 |x+13,h=>absurd h (by omega)
theorem Cw(m:FM)(n:Nat)(x:Nat)(hx:x<13):∃z:Nat,Pure (df PG EL Y 170 [.int .u64 (x:Int)] m n) m n (.int .i64 (z:Int)):=by
 obtain⟨k,hk,hc⟩:=chr13 x hx
 refine⟨k,dz e170 rfl rfl ?_⟩
 have c1:iO .u8 (.int .u64 (x:Int))=some (.int .u8 (x:Int)):=by
  show some (Value.int .u8 (gn .u8 (x:Int)))=_
  rw[vY,Nat.mod_eq_of_lt (by omega)]
 have c2:iO .i64 (.int .u8 (k:Int))=some (.int .i64 (k:Int)):=by
  show some (Value.int .i64 (gn .i64 (k:Int)))=_
  rw[eW,wrap_i64 (by omega) (by omega)]
 simp only[Jt]
 simp -implicitDefEqProofs (disch:=omega)only[W2,dd,Nat.testBit,Nat.reduceAdd,Nat.reduceShiftRight,Nat.reduceAnd,Nat.reduceBNe,Nat.reduceMul,c1,show∀(x y:Opd) (e:List Value) (m:FM) (n:Nat),dJ PG (df PG EL Y) e m n (.pur .byte [x,y])=eG m n (rS (fun i=>CW i (ev e x)) (eN (ev e y)))from fun _ _ _ _ _=>rfl]
 generalize hS:CW x _=cv
 have hcv:cv=some (.int .u8 (k:Int)):=hS.symm.trans hc
 subst hcv
 simp -implicitDefEqProofs (disch:=omega)only[W2,dd,Nat.testBit,Nat.reduceAdd,Nat.reduceShiftRight,Nat.reduceAnd,Nat.reduceBNe,Nat.reduceMul,c2,Int.zero_add]
theorem p8(m:FM)(n:Nat)(x:Nat)(hx:x<13):∃z:Nat,Pure (df PG EL Y 119 [.int .u64 (x:Int)] m n) m n (.int .i64 (z:Int)):=by
 obtain⟨k,hk⟩:=Cw (Y:=Y) m n x hx
 refine⟨k,dz e119 rfl rfl ?_⟩
 simp only[J0]
 simp -implicitDefEqProofs (disch:=omega)only[W2,dd,Nat.testBit,Nat.reduceAdd,Nat.reduceShiftRight,Nat.reduceAnd,Nat.reduceBNe,Nat.reduceMul]
 refine di hk fun r1=>?_
 simp -implicitDefEqProofs (disch:=omega)only[W2,dd,Nat.testBit,Nat.reduceAdd,Nat.reduceShiftRight,Nat.reduceAnd,Nat.reduceBNe,Nat.reduceMul]
theorem Ft{vb cf:Nat}{ccs:List Value}(C:Cmp Y n vb l0 cf ccs m)(hcb:ccs.all (jn n)=true)(hvb:vb<n)(hlen:l0.length<=12)(hm:m vb=some (.cells (ef l0) 1 true true)):
  Rt (df PG EL Y 70 [.slice (some ⟨vb,0,none⟩) l0.length UNK,.func (.func cf) #[] ccs.toArray] m n) fun r m' n' w=>n'=n/\(∀b,b≠vb->m' b=m b/\Nat.testBit w b=false)/\∃l,l.Perm l0/\m' vb=some (.cells (ef l) 1 true true):=by
 refine jD (args:=[.slice (some ⟨vb,0,none⟩) l0.length UNK,.func (.func cf) #[] ccs.toArray]) (R:=fun m' n' w=>n'=n/\(∀b,b≠vb->m' b=m b/\Nat.testBit w b=false)/\∃l,l.Perm l0/\m' vb=some (.cells (ef l) 1 true true)) e70 rfl rfl ⟨rfl,fun b _=>⟨rfl,Nat.zero_testBit _⟩,l0,List.Perm.refl _,hm⟩ fun Q hQ=>?_
 obtain⟨z,hz⟩:=p8 (Y:=Y) m n l0.length (by omega)
 simp only[LS]
 simp -implicitDefEqProofs (disch:=omega)only[W2,dd,Nat.testBit,Nat.reduceAdd,Nat.reduceShiftRight,Nat.reduceAnd,Nat.reduceBNe,Nat.reduceMul,kI (x:=l0.length) (by omega)]
 refine di hz fun r1=>?_
 simp -implicitDefEqProofs (disch:=omega)only[W2,dd,Nat.testBit,Nat.reduceAdd,Nat.reduceShiftRight,Nat.reduceAnd,Nat.reduceBNe,Nat.reduceMul]
 refine dw (Ho C hcb hvb hlen hm _) fun r1 m1 n1 r2 w1 hh=>?_
 simp -implicitDefEqProofs (disch:=omega)only[W2,dd,Nat.testBit,Nat.reduceAdd,Nat.reduceShiftRight,Nat.reduceAnd,Nat.reduceBNe,Nat.reduceMul]
 exact hQ _ _ _ _ _ (.inl rfl) hh
theorem Ey{es:List Ent}(h:Drv i pb m n dur ps es bs t)(ho:BOk 6 bs)(hf:1<=gu bs):
  ∃r:Value,((∃k:Nat,r=.tuple #[.int .i64 (k:Int),.int .i64 0]/\mA 6 (opF 6 bs bs.length) bs k)\/(r=.tuple #[.int .i64 0,.int .i64 9]/\∀k,¬mA 6 (opF 6 bs bs.length) bs k))/\Pure (df PG EL Y 34 [.pointer (some ⟨i.R,0,none⟩)] m n) m n r:=by
 obtain⟨h1,h2,h3,h4,h5,h6,h7,h8,h9⟩:=h.dsk.cc.ok
 have hKN:=h.dsk.cc.KN
 obtain⟨bv,hd,hb⟩:=h.r
 have hr:=hd.r
 obtain⟨p1,p2,p3,p4⟩:=hb.p
 obtain⟨r,hk,hp⟩:=choose_spec (Y:=Y) hb (S:=6) (by omega) (by omega) ho (t:Int) (opF 6 bs bs.length)
 have hrf:∃a b:Int,r=.tuple #[.int .i64 a,.int .i64 b]:=by
  rcases hk with⟨k,rfl,_⟩|⟨rfl,_⟩<;>exact⟨_,_,rfl⟩
 obtain⟨ra,rb,rfl⟩:=hrf
 refine⟨_,hk,dz e34 rfl rfl ?_⟩
 simp only[PD]
 simp -implicitDefEqProofs (disch:=omega)only[W2,dd,Nat.testBit,Nat.reduceAdd,Nat.reduceShiftRight,Nat.reduceAnd,Nat.reduceBNe,Nat.reduceMul,hr,p2,p3]
 refine di (free_spec hb) fun r1=>?_
 simp -implicitDefEqProofs (disch:=omega)only[W2,dd,Nat.testBit,Nat.reduceAdd,Nat.reduceShiftRight,Nat.reduceAnd,Nat.reduceBNe,Nat.reduceMul,hr,p2,p3]
 refine dV (gH (by omega) (by omega) h.dsk.dk hd) fun r2=>?_
 simp -implicitDefEqProofs (disch:=omega)only[W2,dd,Nat.testBit,Nat.reduceAdd,Nat.reduceShiftRight,Nat.reduceAnd,Nat.reduceBNe,Nat.reduceMul,hr,p2,p3]
 refine dV (gH (by omega) (by omega) h.dsk.dk hd) fun r3=>?_
 simp -implicitDefEqProofs (disch:=omega)only[W2,dd,Nat.testBit,Nat.reduceAdd,Nat.reduceShiftRight,Nat.reduceAnd,Nat.reduceBNe,Nat.reduceMul,hr,p2,p3]
 refine dV (oW hb (S:=6) (by omega) (by omega) ho) fun r4=>?_
 simp -implicitDefEqProofs (disch:=omega)only[W2,dd,Nat.testBit,Nat.reduceAdd,Nat.reduceShiftRight,Nat.reduceAnd,Nat.reduceBNe,Nat.reduceMul,hr,p2,p3]
 refine dV hp fun r5=>?_
 simp -implicitDefEqProofs (disch:=omega)only[W2,dd,Nat.testBit,Nat.reduceAdd,Nat.reduceShiftRight,Nat.reduceAnd,Nat.reduceBNe,Nat.reduceMul,dH,show∀k a b,et k (.tuple #[.int .i64 a,.int .i64 b])=true from fun _ _ _=>rfl]
def eR(S b:Nat)(x:Ent):Bool:=decide (¬x.ver=0/\(x.adr-60) / S=b)
def iN(S b:Nat)(es:List Ent):Nat:=es.countP (eR S b)
theorem FP{S b:Nat}{es:List Ent}{k:Nat}(hk:k<es.length)(x:Ent):iN S b (es.set k x)+(if eR S b es[k]then 1 else 0)=iN S b es+(if eR S b x then 1 else 0):=by
 unfold iN
 rw[List.countP_set hk]
 have:(if eR S b es[k]=true then 1 else 0)<=es.countP (eR S b):=by
  split
  ·exact List.countP_pos_iff.2 ⟨_,List.getElem_mem hk,by assumption⟩
  ·exact Nat.zero_le _
 omega
structure Pl(es:List Ent)(bs:List Bnd):Prop where
 bl:bs.length=5
 ok:BOk 6 bs
 live:∀b,(h:b<bs.length)->bs[b].live=iN 6 b es
 part:∀p q,(hp:p<bs.length)->(hq:q<bs.length)->0<bs[p].used->bs[p].used<6->0<bs[q].used->bs[q].used<6->p=q
 ent:∀k,(h:k<es.length)->¬es[k].ver=0->60<=es[k].adr/\es[k].adr<90/\∀hb:(es[k].adr-60) / 6<bs.length,(es[k].adr-60) % 6<bs[(es[k].adr-60) / 6].used
theorem Pl.unl{es:List Ent}(h:Pl es bs){k:Nat}(hk:k<es.length):¬es[k].ver=0->60<=es[k].adr/\es[k].adr<90/\∀hb:(es[k].adr-60) / 6<bs.length,1<=bs[(es[k].adr-60) / 6].live/\bs[(es[k].adr-60) / 6].live<=100:=fun hv=>by
 obtain⟨h1,h2,h3⟩:=h.ent k hk hv
 refine⟨h1,h2,fun hb=>⟨?_,?_⟩⟩
 ·rw[h.live _ hb]
  exact List.countP_pos_iff.2 ⟨_,List.getElem_mem hk,by rw[eR,decide_eq_true_eq];exact⟨hv,rfl⟩⟩
 ·have:=h.ok _ (List.getElem_mem hb)
  omega
theorem EQ{q u:Nat}(hu:u<S):(60+(q*S+u)-60) / S=q/\(60+(q*S+u)-60) % S=u:=by
 have e:60+(q*S+u)-60=u+q*S:=by omega
 rw[e]
 refine⟨?_,?_⟩
 ·rw[Nat.add_mul_div_right _ _ (by omega),Nat.div_eq_of_lt hu,Nat.zero_add]
 ·rw[Nat.add_mul_mod_self_right,Nat.mod_eq_of_lt hu]
theorem vq{S t:Nat}{x:Ent}(hq:q<bs.length)(b:Nat)(hb:b<bs.length)(h:b<(jA t q (fp S x bs)).length):(jA t q (fp S x bs))[b].used=bs[b].used+(if b=q then 1 else 0)/\(jA t q (fp S x bs))[b].live=bs[b].live-(if¬x.ver=0/\(x.adr-60) / S=b then 1 else 0)+(if b=q then 1 else 0):=by
 have hul:∀b,(hb:b<bs.length)->(h':b<(fp S x bs).length)->(fp S x bs)[b].used=bs[b].used/\(fp S x bs)[b].live=bs[b].live-(if¬x.ver=0/\(x.adr-60) / S=b then 1 else 0):=fun b hb h'=>by
  by_cases hv:x.ver=0
  ·have e:fp S x bs=bs:=by rw[fp,if_pos hv]
   simp only[e]
   rw[if_neg (fun h=>h.1 hv)]
   exact⟨trivial,rfl⟩
  ·by_cases hc:(x.adr-60) / S<bs.length
   ·have e:=xW hv hc
    simp only[e,List.getElem_set]
    by_cases hbb:(x.adr-60) / S=b
    ·subst hbb
     rw[if_pos rfl,if_pos ⟨hv,rfl⟩];exact⟨rfl,rfl⟩
    ·rw[if_neg hbb,if_neg (fun h=>hbb h.2)]
     exact⟨rfl,rfl⟩
   ·have e:fp S x bs=bs:=by rw[fp,if_neg hv,List.getElem?_eq_none (by omega)]
    simp only[e]
    rw[if_neg (fun h=>hc (by omega))]
    exact⟨trivial,rfl⟩
 have hlu:=gT S x bs
 have e:=ET (t:=t) (q:=q) (l:=fp S x bs) (by omega)
 obtain⟨u1,u2⟩:=hul b hb (by omega)
 obtain⟨u3,u4⟩:=hul q hq (by omega)
 simp only[e,List.getElem_set]
 by_cases hbq:q=b
 ·subst hbq
  rw[if_pos rfl]
  rw[if_pos rfl]
  simp only[u1,u2]
  exact⟨trivial,trivial⟩
 ·rw[if_neg hbq,u1,u2,if_neg (fun h=>hbq h.symm)]
  exact⟨rfl,rfl⟩
theorem Pl.app{es:List Ent}(h:Pl es bs)(hq:vI 6 bs q){k kd ver:Nat}(hk:k<es.length)(hv:1<=ver)(hq1:q<bs.length):Pl (es.set k ⟨kd,ver,60+(q*6+bs[q].used)⟩) (jA t q (fp 6 es[k] bs)):=by
 obtain⟨_,hu,hpart⟩:=hq
 have hbl:=h.bl
 have hlen:(jA t q (fp 6 es[k] bs)).length=bs.length:=by rw[lL,gT]
 have at':∀b,(hb:b<bs.length)->(h':b<(jA t q (fp 6 es[k] bs)).length)->_:=fun b hb h'=>vq (t:=t) (x:=es[k]) (S:=6) hq1 b hb h'
 obtain⟨e1,e2⟩:=EQ (q:=q) hu
 have hlive:∀b,(hb:b<bs.length)->(if¬es[k].ver=0/\(es[k].adr-60) / 6=b then 1 else 0)<=bs[b].live:=fun b hb=>by
  rw[h.live b hb]
  split
  ·rename_i hh
   exact List.countP_pos_iff.2 ⟨_,List.getElem_mem hk,by rw[eR,decide_eq_true_eq];exact hh⟩
  ·exact Nat.zero_le _
 refine⟨by rw[hlen];exact hbl,fun x hx=>?_,fun b hb=>?_,fun p r hp hr=>?_,fun j hj=>?_⟩
 ·obtain⟨b,hb,rfl⟩:=List.getElem_of_mem hx
  obtain⟨a1,a2⟩:=at' b (by omega) hb
  rw[a1,a2]
  have:=h.ok _ (List.getElem_mem (show b<bs.length by omega))
  by_cases hbq:b=q
  ·subst hbq;simp only[if_true];omega
  ·simp only[if_neg hbq];omega
 ·obtain⟨a1,a2⟩:=at' b (by omega) hb
  rw[a2]
  have hs:=FP (S:=6) (b:=b) hk ⟨kd,ver,60+(q*6+bs[q].used)⟩
  have f1:(if eR 6 b es[k]=true then 1 else 0)=(if¬es[k].ver=0/\(es[k].adr-60) / 6=b then 1 else 0):=by
   simp only[eR,decide_eq_true_eq]
  have f2:(if eR 6 b ⟨kd,ver,60+(q*6+bs[q].used)⟩=true then 1 else 0)=(if b=q then 1 else 0):=by
   simp only[eR,decide_eq_true_eq,e1]
   by_cases hbq:b=q
   ·rw[if_pos ⟨by omega,hbq.symm⟩,if_pos hbq]
   ·rw[if_neg (fun h=>hbq h.2.symm),if_neg hbq]
  rw[f1,f2]at hs
  have:=hlive b (by omega)
  have:=h.live b (by omega)
  omega
 ·obtain⟨a1,_⟩:=at' p (by omega) hp
  obtain⟨a2,_⟩:=at' r (by omega) hr
  rw[a1,a2]
  intro k1 k2 k3 k4
  by_cases hpq:p=q
  ·by_cases hrq:r=q
   ·omega
   ·rw[if_neg hrq]at k3 k4
    rcases hpart with h0|h0
    ·have:=h.part q r hq1 (by omega) h0 hu (by omega) (by omega)
     omega
    ·exact absurd ⟨by omega,by omega⟩ (h0 r (by omega))
  ·rw[if_neg hpq]at k1 k2
   by_cases hrq:r=q
   ·rcases hpart with h0|h0
    ·have:=h.part q p hq1 (by omega) h0 hu (by omega) (by omega)
     omega
    ·exact absurd ⟨by omega,by omega⟩ (h0 p (by omega))
   ·rw[if_neg hrq]at k3 k4
    exact h.part p r (by omega) (by omega) (by omega) (by omega) (by omega) (by omega)
 ·rw[List.length_set]at hj
  rw[List.getElem_set]
  by_cases hjk:k=j
  ·rw[if_pos hjk]
   intro _
   have hq4:q*6<=4*6:=Nat.mul_le_mul_right _ (by omega)
   refine⟨by show 60<=60+(q*6+bs[q].used);omega,by show 60+(q*6+bs[q].used)<_;omega,?_⟩
   show∀hb:(60+(q*6+bs[q].used)-60) / 6<_,(60+(q*6+bs[q].used)-60) % 6<_
   intro hb
   have:=(at' _ (by omega) hb).1
   rw[this,e2]
   simp only[e1,if_true]
   omega
  ·rw[if_neg hjk]
   intro hv
   obtain⟨g1,g2,g3⟩:=h.ent j hj hv
   refine⟨g1,g2,fun hb=>?_⟩
   have:=(at' _ (by omega) hb).1
   rw[this]
   have:=g3 (by omega)
   omega
theorem Pl.reset{es:List Ent}(h:Pl es bs){e:Nat}(he:e<bs.length)(hl:iN 6 e es=0)(wr:Int):Pl es (bs.set e ⟨0,0,0,wr⟩):=by
 refine⟨by rw[List.length_set];exact h.bl,fun x hx=>?_,fun b hb=>?_,fun p r hp hr=>?_,fun j hj hv=>?_⟩
 ·rcases List.mem_or_eq_of_mem_set hx with hx|rfl
  ·exact h.ok x hx
  ·exact⟨Nat.le_refl _,Nat.zero_le _⟩
 ·rw[List.length_set]at hb
  rw[List.getElem_set]
  by_cases hbe:e=b
  ·subst hbe;rw[if_pos rfl,hl]
  ·rw[if_neg hbe];exact h.live b hb
 ·rw[List.length_set]at hp hr
  rw[List.getElem_set,List.getElem_set]
  by_cases hpe:e=p
  ·rw[if_pos hpe];intro k1;exact absurd k1 (Nat.lt_irrefl _)
  ·rw[if_neg hpe]
   by_cases hre:e=r
   ·rw[if_pos hre];intro _ _ k1;exact absurd k1 (Nat.lt_irrefl _)
   ·rw[if_neg hre];exact h.part p r hp hr
 ·obtain⟨g1,g2,g3⟩:=h.ent j hj hv
  refine⟨g1,g2,fun hb=>?_⟩
  rw[List.length_set]at hb
  rw[List.getElem_set]
  by_cases hbe:e=(es[j].adr-60) / 6
  ·exact absurd (List.countP_eq_zero.1 hl es[j] (List.getElem_mem hj)) (by rw[eR,decide_eq_true_eq];exact fun k=>k ⟨hv,hbe.symm⟩)
  ·rw[if_neg hbe];exact g3 hb
end Go.Am.CD
