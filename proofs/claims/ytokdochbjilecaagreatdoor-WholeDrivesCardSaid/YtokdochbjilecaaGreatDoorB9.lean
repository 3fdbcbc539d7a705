/- The machine and its runs, part 9: AySe AySf AxUp AySg AySm AySn AySo AySp. -/
import Derived.Test.YtokdochbjilecaaGreatDoorB8
set_option linter.unusedVariables false
set_option linter.unusedSimpArgs false
set_option linter.unusedSectionVars false
namespace Go.Am.CD
set_option maxRecDepth 100000
open Go Go.Am
variable{E:Nat->Option AFn}{Y:Nat->List Value->FM->Nat->OR FM}
variable{n cb mb w N b len a n0:Nat}{m M0 M:FM}{v:Value}{xs xs0:List (Int×Value)}{l:List Nat}{Q:AX->List Value->FM->Nat->Nat->Prop}{bs:List Value}
theorem dK(h:Nat.mod w (bit n)=0)(k:Nat)(hk:k<n):Nat.testBit w k=false:=by
 have e:bit n=2 ^ n:=by rw[bit];exact Nat.one_shiftLeft n
 rw[e]at h
 have h':w % 2 ^ n=0:=h
 have:=Nat.testBit_mod_two_pow w n k
 rw[h',Nat.zero_testBit]at this
 simpa[hk]using this.symm
theorem dY{P:Program}{k0:Nat}{f:Nat}{fn:AFn}{args:List Value}{R:Value->FM->Nat->Nat->Prop}(hE:E f=some fn)(ha:gx args=fn.na)(hk0:k0<n)(h:∀Q:AX->List Value->FM->Nat->Nat->Prop,(∀v e m' n' w,Nat.testBit w k0=true->R v m' n' w->Q (.ret v) e m' n' w)->Wr P E Y [] 0 (dt P E Y fn.code args m n) Q):Rt (df P E Y f args m n) fun v m' n' w=>Nat.testBit w k0=true/\R v m' n' w:=by
 rw[gZ hE ha]
 obtain⟨X,e',m',n',r,w,hx,v,rfl,h1,h2⟩:=fX (gR (h (fun X _ m' n' w=>∃v,X=.ret v/\Nat.testBit w k0=true/\R v m' n' w) fun v _ m' n' w k1 k2=>⟨v,rfl,k1,k2⟩))
 rw[hx,iu]
 have hn:¬Nat.mod w (bit n)=0:=fun hw=>by rw[dK hw k0 hk0]at h1;cases h1
 have:eX m n v m' n' r w=.ok v m' n' r w:=by
  unfold eX
  have hc:(du v&&Nat.beq (Nat.mod w (bit n)) 0)=false:=by
   cases h3:du v
   ·rfl
   ·cases h4:Nat.beq (Nat.mod w (bit n)) 0
    ·rfl
    ·exact absurd (Nat.eq_of_beq_eq_true h4) hn
  rw[hc];rfl
 rw[this]
 exact⟨h1,h2⟩
theorem gF{k:Nat}(h:Nat.mod w (bit k)=0)(hb:b<k):Nat.land w (bit b)=0/\Nat.land (bit b) w=0:=by
 have e:Nat.land w (bit b)=0:=by
  apply Nat.eq_of_testBit_eq
  intro i
  show(w &&& bit b).testBit i=_
  rw[Nat.testBit_and,dn,Nat.zero_testBit]
  by_cases hi:b=i
  ·subst hi;rw[dK h b hb];rfl
  ·simp[hi]
 exact⟨e,by rw[show Nat.land (bit b) w=Nat.land w (bit b)from Nat.and_comm _ _];exact e⟩
theorem fm(h:∀b,b<n->Nat.testBit w b=false):Nat.mod w (bit n)=0:=by
 have e:bit n=2 ^ n:=by rw[bit];exact Nat.one_shiftLeft n
 rw[e]
 apply Nat.eq_of_testBit_eq
 intro i
 show(w % 2 ^ n).testBit i=_
 rw[Nat.testBit_mod_two_pow,Nat.zero_testBit]
 by_cases hi:i<n
 ·simp[h i hi]
 ·simp[hi]
theorem HU(h:Nat.testBit w b=false):Nat.land w (bit b)=0/\Nat.land (bit b) w=0:=by
 have e:Nat.land w (bit b)=0:=by
  apply Nat.eq_of_testBit_eq
  intro i
  show(w &&& bit b).testBit i=_
  rw[Nat.testBit_and,dn,Nat.zero_testBit]
  by_cases hi:b=i
  ·subst hi;rw[h];rfl
  ·simp[hi]
 exact⟨e,by rw[show Nat.land (bit b) w=Nat.land w (bit b)from Nat.and_comm _ _];exact e⟩
theorem dh(h:b≠a):Nat.testBit (bit a) b=false:=by
 rw[dn];simp;omega
theorem ints_at{l:List Nat}{j:Nat}(h:j<l.length):fh (ef l) j=some (.int .i64 ((l[j]:Nat):Int)):=by
 rw[eV,ef,List.getElem?_map,List.getElem?_eq_getElem h];rfl
theorem La{l:List Nat}{lb:Nat}{lv:Value}{o w':Bool}(hlv:∀j,j<l.length->fU 1 j lv=some (.pointer (some ⟨lb,j,none⟩)))(hlo:Am.one lv=true)(hlb:0<l.length->lb<N/\lb≠cb/\M0 lb=some (.cells (ef l) 1 o w'))(h0:Med M0 N mb cb xs0)(hlt:∀s∈l,s<xs0.length)(hll:l.length<=1000)(x2 x3 x4 x6 x7:Value)
  (hQ:∀M w,(∀b,b≠cb->M b=M0 b)->M cb=some (.cells (jk (nk xs0 l)) 2 true true)->(∀b,b≠cb->Nat.testBit w b=false)->Q (.exit 1) [x2,.int .i64 (l.length:Int),lv,x3,x4,.pointer (some ⟨mb,0,none⟩),x6,x7] M N w):
  ∀(d j:Nat),j+d=l.length->∀(M:FM) (w0:Nat),(∀b,b≠cb->M b=M0 b)->M cb=some (.cells (jk (nk xs0 (l.take j))) 2 true true)->(∀b,b≠cb->Nat.testBit w0 b=false)->
  Gv (dt PG EL Y th [.int .i64 (j:Int),x2,.int .i64 (l.length:Int),lv,x3,x4,.pointer (some ⟨mb,0,none⟩),x6,x7] M N) fun X e m n w=>Q X e m n (Nat.lor w0 w):=by
 have hst0:=h0.st
 have hmbN:=h0.mbN
 have hcbN:=h0.cbN
 have hne:=h0.ne
 intro d
 induction d with
 |zero=>
  intro j hj M w0 hM hC hw
  refine dm (L:=th) (b:=nB) rfl ?_
  simp only[nB]
  obtain rfl:j=l.length:=by omega
  rw[List.take_length]at hC
  simp -implicitDefEqProofs (disch:=omega)only[W2,dd,Nat.testBit,Nat.reduceAdd,Nat.reduceShiftRight,Nat.reduceAnd,Nat.reduceBNe,Nat.reduceMul]
  exact hQ _ _ hM hC hw
 |succ d ih=>
  intro j hj M w0 hM hC hw
  have hst:=(hM mb hne).trans hst0
  obtain⟨hlbN,hlc,hlm⟩:=hlb (by omega)
  have hlM:=(hM lb hlc).trans hlm
  have hli:=hlv j (by omega)
  have hat:=ints_at (l:=l) (j:=j) (by omega)
  have hs:=hlt _ (List.getElem_mem (show j<l.length by omega))
  have hkl:=nW (l.take j) xs0
  have hset:=pJ (nk xs0 (l.take j)) (l[j]'(by omega)) (by omega) 2 (.slice none 0 0)
  have hidx:=qb (cb:=cb) (c:=UNK) hs
  refine dm (L:=th) (b:=nB) rfl ?_
  simp only[nB]
  simp -implicitDefEqProofs (disch:=omega)only[W2,dd,Nat.testBit,Nat.reduceAdd,Nat.reduceShiftRight,Nat.reduceAnd,Nat.reduceBNe,Nat.reduceMul,hst,hlM,hat,hidx,hC,hset,hli,hlo]
  have e1:(nk xs0 (l.take j)).set (l[j]'(by omega)) (2,.slice none 0 0)=nk xs0 (l.take (j+1)):=by
   rw[List.take_succ_eq_append_getElem (by omega)]
   unfold nk
   rw[List.foldl_append];rfl
  rw[e1]
  refine dM (ih (j+1) (by omega) _ (Nat.lor w0 (bit cb)) (fun b hb=>by rw[dc _ _ _ _ hb,hM b hb]) (de _ _ _) (fun k hk=>by rw[c9,hw k hk,dh hk];rfl)) fun X e m n w hq=>?_
  rw[show Nat.lor w0 (Nat.lor (bit cb) w)=Nat.lor (Nat.lor w0 (bit cb)) w from(dy _ _ _).symm]
  exact hq
theorem _root_.Go.Am.SlZ.yQ{sz:Nat}{cs:List Value}(h:SlZ sz M n0 N v len cs)(k:Nat)(hk:N<=k):gQ k v=true:=by
 rcases h with⟨_,_,rfl⟩|⟨_,_,b,rfl,_,hb,_⟩
 ·rfl
 ·exact dC (show b<k by omega)
theorem _root_.Go.Am.SlZ.ints{cb:Nat}(h:SlZ 1 M n0 N v l.length (ef l))(hc:cb<n0):∃lb,(∀j,j<l.length->fU 1 j v=some (.pointer (some ⟨lb,j,none⟩)))/\(0<l.length->lb<N/\lb≠cb/\M lb=some (.cells (ef l) 1 true true)):=by
 rcases h with⟨h1,_,rfl⟩|⟨_,_,b,rfl,h1,h2,h3⟩
 ·exact⟨0,fun j hj=>by omega,fun h=>by omega⟩
 ·exact⟨b,fun j hj=>by rw[eY hj,Nat.zero_add,Nat.mul_one],fun _=>⟨h2,by omega,h3⟩⟩
theorem Ar(h:Med m n mb cb xs)(a:Nat)(ha:a<90)(hv:Sh 1 m n v len bs)(hone:bs.all Am.one=true)(hl:len<=64):
  Rt (df PG EL Y 202 [.pointer (some ⟨mb,0,none⟩),.int .i64 (a:Int),v] m n) fun r m' n' w=>Nat.testBit w cb=true/\(n<=n'/\(∀b,b<n->b≠cb->m' b=m b/\Nat.testBit w b=false)/\r=.int .i64 0/\∃v',SlZ 1 m' n n' v' len bs/\Med m' n' mb cb (oE a v' xs)):=by
 have hcbN:=h.cbN
 have hmbN:=h.mbN
 have hne:=h.ne
 have hst:=h.st
 have hsc:=h.sc
 have hxl:=h.len
 have hvo:=hv.one
 refine dY (R:=fun r m' n' w=>n<=n'/\(∀b,b<n->b≠cb->m' b=m b/\Nat.testBit w b=false)/\r=.int .i64 0/\∃v',SlZ 1 m' n n' v' len bs/\Med m' n' mb cb (oE a v' xs)) e202 rfl hcbN fun Q hQ=>?_
 simp only[Jf]
 simp -implicitDefEqProofs (disch:=omega)only[W2,dd,Nat.testBit,Nat.reduceAdd,Nat.reduceShiftRight,Nat.reduceAnd,Nat.reduceBNe,Nat.reduceMul,lI,hvo]
 refine di (re h a (by omega)) fun r1=>?_
 simp -implicitDefEqProofs (disch:=omega)only[W2,dd,Nat.testBit,Nat.reduceAdd,Nat.reduceShiftRight,Nat.reduceAnd,Nat.reduceBNe,Nat.reduceMul,hv.len,hvo]
 simp -implicitDefEqProofs (disch:=omega)only[W2,dd,Nat.testBit,Nat.reduceAdd,Nat.reduceShiftRight,Nat.reduceAnd,Nat.reduceBNe,Nat.reduceMul,hst,hvo,hv.bel]
 refine fx (uT m n hv hone (by omega)) fun v1 m1 n1 r2 w1 hh=>?_
 obtain⟨hn1,hf1,hw1,hS1⟩:=hh
 obtain⟨k1,k2⟩:=gF (hw1 n (Nat.le_refl _)) hmbN
 obtain⟨k3,k4⟩:=gF (hw1 n (Nat.le_refl _)) hcbN
 have hst1:=(hf1 mb hmbN).trans hst
 have hsc1:=(hf1 cb hcbN).trans hsc
 have hset:=pJ xs a (by omega) 1 v1
 have hidx:=qb (cb:=cb) (c:=UNK) (show a<xs.length by omega)
 have ho1:=hS1.one
 simp -implicitDefEqProofs (disch:=omega)only[W2,dd,Nat.testBit,Nat.reduceAdd,Nat.reduceShiftRight,Nat.reduceAnd,Nat.reduceBNe,Nat.reduceMul,k1,k2,k3,k4,hS1.bel,ho1,dW ho1,hidx,hsc1,hset]
 generalize hM2:(AMem.put m1 cb (some (.cells (jk (xs.set a (1,v1))) 2 true true)):FM)=M2
 have h2c:M2 cb=some (.cells (jk (xs.set a (1,v1))) 2 true true):=by rw[<-hM2];exact de _ _ _
 have h2o:∀b,b≠cb->M2 b=m1 b:=fun b hb=>by rw[<-hM2];exact dc _ _ _ _ hb
 have hst2:=(h2o mb hne).trans hst1
 have hS2:SlZ 1 M2 n n1 v1 len bs:=hS1.frame (Nat.le_refl _) fun b h1 h2=>h2o b (by omega)
 simp -implicitDefEqProofs (disch:=omega)only[W2,dd,Nat.testBit,Nat.reduceAdd,Nat.reduceShiftRight,Nat.reduceAnd,Nat.reduceBNe,Nat.reduceMul,hS1.yQ,hst2]
 refine dw (zM _ _ a (by omega)) fun v3 m3 n3 r3 w3 hh=>?_
 obtain⟨hn3,hf3,hw3,hS3⟩:=hh
 have ho3:=hS3.one
 simp -implicitDefEqProofs (disch:=omega)only[W2,dd,Nat.testBit,Nat.reduceAdd,Nat.reduceShiftRight,Nat.reduceAnd,Nat.reduceBNe,Nat.reduceMul,hS3.len,ho3]
 obtain⟨lb,hli,hlb⟩:=hS3.ints (cb:=cb) (by omega)
 have hmed3:Med m3 n3 mb cb (xs.set a (1,v1)):=by
  refine⟨(hf3 mb (by omega)).trans ?_,(hf3 cb (by omega)).trans h2c,by rw[List.length_set];exact hxl,by omega,by omega,hne,fun x hx=>?_⟩
  ·rw[hst2,List.length_set]
  ·rcases List.mem_or_eq_of_mem_set hx with hx|rfl
   ·exact h.one x hx
   ·exact ho1
 have hlt:∀s∈gp a,s<(xs.set a (1,v1)).length:=fun s hs=>by rw[List.length_set];have:=GU ha hs;omega
 have hll:(gp a).length<=1000:=by unfold gp;split<;>simp
 refine dS ((La (l:=gp a) hli ho3 hlb hmed3 hlt hll _ _ _ _ _ (fun M w hM hC hw=>?_) _ 0 (Nat.zero_add _) m3 0 (fun _ _=>rfl) hmed3.sc (fun j _=>Nat.zero_testBit _)).mono fun X e m' n' w hq=>by simpa only[dx]using hq)
 intro rr
 simp -implicitDefEqProofs (disch:=omega)only[W2,dd,Nat.testBit,Nat.reduceAdd,Nat.reduceShiftRight,Nat.reduceAnd,Nat.reduceBNe,Nat.reduceMul]
 have hw3':=hw3 cb (by omega)
 refine hQ _ _ _ _ _ ?_ ⟨by omega,fun b hb hbc=>⟨by rw[hM b hbc,hf3 b (by omega),h2o b hbc,hf1 b hb],?_⟩,rfl,v1,?_,?_⟩
 ·simp only[c9,dn]
  simp
 ·rw[c9,c9,c9,dK (hw1 n (Nat.le_refl _)) b hb,dh hbc,dK (hw3 n1 (Nat.le_refl _)) b (by omega),hw b hbc];rfl
 ·exact hS2.frame (by omega) fun b h1 h2=>by rw[hM b (by omega),hf3 b (by omega)]
 ·refine⟨(hM mb hne).trans ?_,hC,by rw[oE,nW,List.length_set];exact hxl,by omega,by omega,hne,wZ _ _ fun x hx=>hmed3.one x hx⟩
  rw[hmed3.st,oE,nW]
theorem Cs(h:Med m n mb cb xs)(a:Nat)(ha:a<xs.length){v:Value}(hx:xs[a]=(1,v))(hv:Sh 1 m n v len bs)(hone:bs.all Am.one=true)(hl:len<=64):
  Rt (df PG EL Y 172 [.pointer (some ⟨mb,0,none⟩),.int .i64 (a:Int)] m n) fun r m' n' w=>n<=n'/\(∀b,b<n->m' b=m b)/\(∀j,j<=n->Nat.mod w (bit j)=0)/\∃v',r=.tuple #[v',.int .i64 0]/\SlZ 1 m' n n' v' len bs:=by
 have hcbN:=h.cbN
 have hmbN:=h.mbN
 have hne:=h.ne
 have hst:=h.st
 have hsc:=h.sc
 have hxl:=h.len
 refine ez (R:=fun r m' n'=>∃v',r=.tuple #[v',.int .i64 0]/\SlZ 1 m' n n' v' len bs) e172 rfl fun Q hQ=>?_
 obtain⟨hg1,hg2⟩:=tS xs a ha
 rw[hx,<-eV]at hg1 hg2
 simp only at hg1 hg2
 have hidx:=qb (cb:=cb) (c:=UNK) ha
 have hvo:=hv.one
 simp only[E5]
 simp -implicitDefEqProofs (disch:=omega)only[W2,dd,Nat.testBit,Nat.reduceAdd,Nat.reduceShiftRight,Nat.reduceAnd,Nat.reduceBNe,Nat.reduceMul,lI]
 refine di (re h a (by omega)) fun r1=>?_
 simp -implicitDefEqProofs (disch:=omega)only[W2,dd,Nat.testBit,Nat.reduceAdd,Nat.reduceShiftRight,Nat.reduceAnd,Nat.reduceBNe,Nat.reduceMul,hst,hidx,hsc]
 simp -implicitDefEqProofs (disch:=omega)only[W2,dd,Nat.testBit,Nat.reduceAdd,Nat.reduceShiftRight,Nat.reduceAnd,Nat.reduceBNe,Nat.reduceMul,hst,hidx,hsc,hg1,hg2,hvo]
 refine dw (uT m n hv hone (by omega)) fun v1 m1 n1 r2 w1 hh=>?_
 obtain⟨hn1,hf1,hw1,hS1⟩:=hh
 simp -implicitDefEqProofs (disch:=omega)only[W2,dd,Nat.testBit,Nat.reduceAdd,Nat.reduceShiftRight,Nat.reduceAnd,Nat.reduceBNe,Nat.reduceMul]
 refine hQ _ _ _ _ _ hn1 hf1 ?_ ?_ ⟨v1,rfl,hS1⟩
 ·simp -implicitDefEqProofs (disch:=omega)only[W2,dd,Nat.testBit,Nat.reduceAdd,Nat.reduceShiftRight,Nat.reduceAnd,Nat.reduceBNe,Nat.reduceMul,hw1 n (Nat.le_refl _)]
 ·obtain⟨b,_,_,hl1,hl2⟩:=hv.sl
  rcases hS1 with⟨q,_⟩|⟨_,_,b,rfl,_⟩
  ·omega
  ·rfl
theorem As(h:Med m n mb cb xs)(a:Nat)(ha:a<xs.length){st:Int}{v:Value}(hx:xs[a]=(st,v))(hst1:st≠1):
  Pure (df PG EL Y 172 [.pointer (some ⟨mb,0,none⟩),.int .i64 (a:Int)] m n) m n (.tuple #[.slice none 0 0,.int .i64 15]):=by
 have hcbN:=h.cbN
 have hmbN:=h.mbN
 have hst:=h.st
 have hsc:=h.sc
 have hxl:=h.len
 refine dz e172 rfl rfl ?_
 obtain⟨hg1,hg2⟩:=tS xs a ha
 rw[hx,<-eV]at hg1 hg2
 simp only at hg1 hg2
 have hidx:=qb (cb:=cb) (c:=UNK) ha
 simp only[E5]
 simp -implicitDefEqProofs (disch:=omega)only[W2,dd,Nat.testBit,Nat.reduceAdd,Nat.reduceShiftRight,Nat.reduceAnd,Nat.reduceBNe,Nat.reduceMul,lI]
 refine di (re h a (by omega)) fun r1=>?_
 simp -implicitDefEqProofs (disch:=omega)only[W2,dd,Nat.testBit,Nat.reduceAdd,Nat.reduceShiftRight,Nat.reduceAnd,Nat.reduceBNe,Nat.reduceMul,hst,hidx,hsc]
 simp -implicitDefEqProofs (disch:=omega)only[W2,dd,Nat.testBit,Nat.reduceAdd,Nat.reduceShiftRight,Nat.reduceAnd,Nat.reduceBNe,Nat.reduceMul,hst,hidx,hsc,hg1,hg2]
def iH(xs:List (Int×Value))(a:Nat):Nat->List (Int×Value)
 |0=>xs
 |i+1=>(iH xs a i).set (a+i) (0,.slice none 0 0)
theorem mn(xs:List (Int×Value))(a:Nat):∀i,(iH xs a i).length=xs.length
 |0=>rfl
 |i+1=>by rw[iH,List.length_set,mn xs a i]
theorem vd(xs:List (Int×Value))(a:Nat)(h:∀x∈xs,Am.one x.2=true):∀i,∀x∈iH xs a i,Am.one x.2=true
 |0=>h
 |i+1=>fun x hx=>by
  rcases List.mem_or_eq_of_mem_set hx with hx|rfl
  ·exact vd xs a h i x hx
  ·rfl
theorem Ic(h0:Med M0 N mb cb xs0)(k:Nat)(ha:a+k<=xs0.length)(hk:xs0.length<=1000)(x1 x3 x4 x6 x7 x9:Value)
  (hQ:∀X e M w,X=.exit 0->(∀b,b≠cb->M b=M0 b)->M cb=some (.cells (jk (iH xs0 a k)) 2 true true)->(∀b,b≠cb->Nat.testBit w b=false)->(0<k->Nat.testBit w cb=true)->Q X e M N w):
  ∀(d j:Nat),j+d=k->∀(x1:Value) (M:FM) (w0:Nat),(∀b,b≠cb->M b=M0 b)->M cb=some (.cells (jk (iH xs0 a j)) 2 true true)->(∀b,b≠cb->Nat.testBit w0 b=false)->(0<j->Nat.testBit w0 cb=true)->
  Gv (dt PG EL Y tw [.int .i64 (j:Int),x1,.int .i64 (k:Int),x3,x4,.int .i64 (a:Int),x6,x7,.pointer (some ⟨mb,0,none⟩),x9] M N) fun X e m n w=>Q X e m n (Nat.lor w0 w):=by
 have hst0:=h0.st
 have hmbN:=h0.mbN
 have hcbN:=h0.cbN
 have hne:=h0.ne
 intro d
 induction d with
 |zero=>
  intro j hj x1 M w0 hM hC hw ht
  refine dm (L:=tw) (b:=nM) rfl ?_
  simp only[nM]
  obtain rfl:j=k:=by omega
  simp -implicitDefEqProofs (disch:=omega)only[W2,dd,Nat.testBit,Nat.reduceAdd,Nat.reduceShiftRight,Nat.reduceAnd,Nat.reduceBNe,Nat.reduceMul]
  exact hQ _ _ _ _ rfl hM hC hw ht
 |succ d ih=>
  intro j hj x1 M w0 hM hC hw ht
  have hst:=(hM mb hne).trans hst0
  have hkl:=mn xs0 a j
  have hset:=pJ (iH xs0 a j) (a+j) (by omega) 0 (.slice none 0 0)
  have hidx:=qb (cb:=cb) (c:=UNK) (show a+j<xs0.length by omega)
  refine dm (L:=tw) (b:=nM) rfl ?_
  simp only[nM]
  simp -implicitDefEqProofs (disch:=omega)only[W2,dd,Nat.testBit,Nat.reduceAdd,Nat.reduceShiftRight,Nat.reduceAnd,Nat.reduceBNe,Nat.reduceMul,hst,hidx,hC,hset]
  rw[show(iH xs0 a j).set (a+j) (0,.slice none 0 0)=iH xs0 a (j+1)from rfl]
  refine dM (ih (j+1) (by omega) _ _ (Nat.lor w0 (bit cb)) (fun b hb=>by rw[dc _ _ _ _ hb,hM b hb]) (de _ _ _) (fun k hk=>by rw[c9,hw k hk,dh hk];rfl) (fun _=>by rw[c9,dn];simp)) fun X e m n w hq=>?_
  rw[show Nat.lor w0 (Nat.lor (bit cb) w)=Nat.lor (Nat.lor w0 (bit cb)) w from(dy _ _ _).symm]
  exact hq
theorem At(h:Med m n mb cb xs)(b:Nat)(hb:b<5):
  Rt (df PG EL Y 109 [.pointer (some ⟨mb,0,none⟩),.int .i64 (b:Int)] m n) fun r m' n' w=>Nat.testBit w cb=true/\(n<=n'/\(∀b,b<n->b≠cb->m' b=m b/\Nat.testBit w b=false)/\r=.int .i64 0/\Med m' n' mb cb (iH xs (60+b*6) 6)):=by
 have hcbN:=h.cbN
 have hmbN:=h.mbN
 have hne:=h.ne
 have hst:=h.st
 have hsc:=h.sc
 have hxl:=h.len
 refine dY (R:=fun r m' n' w=>n<=n'/\(∀b,b<n->b≠cb->m' b=m b/\Nat.testBit w b=false)/\r=.int .i64 0/\Med m' n' mb cb (iH xs (60+b*6) 6)) e109 rfl hcbN fun Q hQ=>?_
 simp only[J9]
 simp -implicitDefEqProofs (disch:=omega)only[W2,dd,Nat.testBit,Nat.reduceAdd,Nat.reduceShiftRight,Nat.reduceAnd,Nat.reduceBNe,Nat.reduceMul,lI,hst]
 refine di (yY m n b hb) fun r1=>?_
 simp -implicitDefEqProofs (disch:=omega)only[W2,dd,Nat.testBit,Nat.reduceAdd,Nat.reduceShiftRight,Nat.reduceAnd,Nat.reduceBNe,Nat.reduceMul,dH,hst]
 refine di (hH m n) fun r2=>?_
 simp -implicitDefEqProofs (disch:=omega)only[W2,dd,Nat.testBit,Nat.reduceAdd,Nat.reduceShiftRight,Nat.reduceAnd,Nat.reduceBNe,Nat.reduceMul]
 have hbs:60+b*6+6<=xs.length:=by omega
 refine dS ((Ic h 6 hbs (by omega) (.int .i64 0) _ _ _ _ _ (fun X e M w hX hM hC hw ht=>?_) _ 0 (Nat.zero_add _) _ m 0 (fun _ _=>rfl) hsc (fun j _=>Nat.zero_testBit _) (fun h=>by omega)).mono fun X e m' n' w hq=>by simpa only[dx]using hq)
 intro rr
 subst hX
 simp -implicitDefEqProofs (disch:=omega)only[W2,dd,Nat.testBit,Nat.reduceAdd,Nat.reduceShiftRight,Nat.reduceAnd,Nat.reduceBNe,Nat.reduceMul]
 refine hQ _ _ _ _ _ (ht (by omega)) ⟨Nat.le_refl _,fun b hb hbc=>⟨hM b hbc,hw b hbc⟩,rfl,(hM mb hne).trans ?_,hC,by rw[mn];exact hxl,hmbN,hcbN,hne,vd _ _ h.one _⟩
 rw[hst,mn]
end Go.Am.CD
namespace Go.Am
open Go Go.RowKit
section
variable{μ:Type}[AMem μ]{P:Program}
def Up(n n' r w:Nat):Prop:=n<=n'/\∀i,n'<=i->r.testBit i=false/\w.testBit i=false
theorem Up.refl(n:Nat):Up n n 0 0:=⟨Nat.le_refl _,fun i _=>⟨Nat.zero_testBit i,Nat.zero_testBit i⟩⟩
theorem Up.trans{n n1 n2 r1 w1 r2 w2:Nat}(h:Up n n1 r1 w1)(k:Up n1 n2 r2 w2):Up n n2 (Nat.lor r1 r2) (Nat.lor w1 w2):=
 ⟨Nat.le_trans h.1 k.1,fun i hi=>by
  have a:=h.2 i (Nat.le_trans k.1 hi)
  have b:=k.2 i hi
  rw[c9,c9,a.1,a.2,b.1,b.2]
  exact⟨rfl,rfl⟩⟩
theorem j7{b n i:Nat}(hb:b<n)(hi:n<=i):(bit b).testBit i=false:=by
 rw[dn]
 exact decide_eq_false (by omega)
theorem Kt{b n:Nat}(hb:b<n):Up n n (bit b) 0:=⟨Nat.le_refl _,fun i hi=>⟨j7 hb hi,Nat.zero_testBit i⟩⟩
theorem tC(n:Nat){r:Nat}(hr:∀i,n<=i->r.testBit i=false):Up n (n+1) r (bit n):=⟨Nat.le_succ _,fun i hi=>⟨hr i (by omega),j7 (Nat.lt_succ_self _) hi⟩⟩
theorem pW{m m':μ}{n n' r wm:Nat}{O:Blk}{f:Nat->Value}{v:Value}(h:kZ m n O f=.ok v m' n' r wm):Up n n' r wm:=by
 unfold kZ at h
 cases hl:AMem.lim m n
 ·rw[hl,cond_false]at h;cases h
 ·rw[hl,cond_true]at h;injection h with e1 e2 e3 e4 e5;subst e2;subst e3;subst e4;subst e5;exact tC _ fun i _=>Nat.zero_testBit i
omit [AMem μ] in
theorem fK{m m':μ}{n n' r wm:Nat}{x:Option Value}{v:Value}(h:eG m n x=.ok v m' n' r wm):Up n n' r wm:=by
 obtain⟨_,rfl,rfl,rfl,rfl⟩:=eD h;exact Up.refl _
omit [AMem μ] in
theorem pz{m m':μ}{n n' r wm b:Nat}{x:Option Value}{v:Value}(hb:b<n)(h:lP m n b x=.ok v m' n' r wm):Up n n' r wm:=by
 obtain⟨_,rfl,rfl,rfl,rfl⟩:=sU h;exact Kt hb
theorem Kw{m:μ}{sz n b:Nat}(h:zE sz (fg m n b)=true):b<n:=by
 unfold zE at h
 split at h
 ·rename_i hg;exact(dP hg).1
 ·cases h
theorem pu{m:μ}{n b:Nat}{f:List Value->OR μ}{v:Value}{m':μ}{n' r wm:Nat}(h:iq (fg m n b) f=.ok v m' n' r wm):b<n/\∃c,f c=.ok v m' n' r wm:=by
 cases hg:fg m n b with
 |none=>rw[hg]at h;cases h
 |some B=>rw[hg]at h;exact⟨(dP hg).1,lO h⟩
theorem yn{m m':μ}{n n' r r0 wm b sz:Nat}{opn:Bool}{v0 v:Value}{c:Option (List Value)}(hb:b<n)(hr:∀i,n<=i->r0.testBit i=false)(h:qR m n b sz opn v0 r0 c=.ok v m' n' r wm):Up n n' r wm:=by
 unfold qR at h;split at h
 ·injection h with e1 e2 e3 e4 e5;subst e2;subst e3;subst e4;subst e5;exact⟨Nat.le_refl _,fun i hi=>⟨hr i hi,j7 hb hi⟩⟩
 ·cases h
theorem ES{m m':μ}{n n' r r0 wm sz len:Nat}{c:List Value}{v:Value}(hr:∀i,n<=i->r0.testBit i=false)(h:vu m n sz len c r0=.ok v m' n' r wm):Up n n' r wm:=by
 unfold vu at h
 cases hl:AMem.lim m n
 ·rw[hl,cond_false]at h;cases h
 ·rw[hl,cond_true]at h;injection h with e1 e2 e3 e4 e5;subst e2;subst e3;subst e4;subst e5;exact tC _ hr
theorem DM{m m':μ}{n n' r wm b:Nat}{v:Value}{es:Option (List (Value×Value))}(hb:b<n)(h:yl m n b es=.ok v m' n' r wm):Up n n' r wm:=by
 unfold yl at h;split at h
 ·injection h with e1 e2 e3 e4 e5;subst e2;subst e3;subst e4;subst e5;exact⟨Nat.le_refl _,fun i hi=>⟨j7 hb hi,j7 hb hi⟩⟩
 ·cases h
theorem tM{m:μ}{n sz:Nat}{v:Value}{p:List Value×Nat}(h:shown m n sz v=some p):∀i,n<=i->p.2.testBit i=false:=by
 intro i hi
 unfold shown at h
 split at h
 ·injection h with h;subst h;exact Nat.zero_testBit i
 ·rename_i b o l c
  cases h0:Nat.beq l 0
  ·rw[h0,cond_false]at h
   unfold oH at h
   split at h
   ·rename_i cs s q1 q2 hg
    cases hs:szF s sz
    ·rw[hs]at h;cases h
    ·rw[hs,cond_true]at h
     cases hc:eO cs o (Nat.mul l sz)with
     |none=>rw[hc]at h;cases h
     |some x=>
      rw[hc]at h
      injection h with h
      subst h
      exact j7 (dP hg).1 hi
   ·cases h
  ·rw[h0,cond_true]at h;injection h with h;subst h;exact Nat.zero_testBit i
 ·cases h
omit [AMem μ] in
theorem Be{c:Bool}{x:OR μ}{v:Value}{m':μ}{n' r w:Nat}(h:cond c x .no=.ok v m' n' r w):x=.ok v m' n' r w:=by
 cases c
 ·cases h
 ·exact h
theorem Lw{m m':μ}{n n' r wm sz:Nat}{v x y:Value}{p:Option (List Value×Nat)}(hp:∀q,p=some q->∀i,n<=i->q.2.testBit i=false)(h:CQ sz m n p x y=.ok v m' n' r wm):Up n n' r wm:=by
 unfold CQ at h
 split at h
 ·split at h
  ·replace h:=Be h
   unfold Lx at h
   split at h
   ·rename_i hg
    replace h:=Be h
    exact yn (dP hg).1 (fun i hi=>by rw[c9,hp _ rfl i hi,j7 (dP hg).1 hi];rfl) h
   ·cases h
  ·cases h
 ·cases h
theorem K4{m m':μ}{n n' r wm:Nat}{v:Value}{op:MOp}{xs:List Value}(h:uw P op xs m n=.ok v m' n' r wm):Up n n' r wm:=by
 unfold uw at h
 split at h
 ·exact pW h
 ·rename_i kt z ok x k
  cases hf:du k
  ·rw[hf,cond_false]at h;cases h
  ·rw[hf,cond_true]at h
   split at h
   ·exact fK h
   ·unfold kG at h
    split at h
    ·rename_i hg;exact pz (dP hg).1 h
    ·cases h
   ·cases h
 ·rename_i kt x k y
  cases hf:du k
  ·rw[hf,cond_false]at h;cases h
  ·rw[hf,cond_true]at h
   split at h
   ·unfold Fl at h
    split at h
    ·rename_i hg;exact DM (dP hg).1 h
    ·cases h
   ·cases h
 ·rename_i kt x k
  cases hf:du k
  ·rw[hf,cond_false]at h;cases h
  ·rw[hf,cond_true]at h
   split at h
   ·unfold Io at h
    split at h
    ·rename_i hg;exact DM (dP hg).1 h
    ·cases h
   ·cases h
 ·split at h
  ·unfold GJ at h
   split at h
   ·rename_i c sz opn wr hg
    cases hz:Nat.beq sz 1
    ·rw[hz]at h;cases h
    ·rw[hz]at h;exact pz (dP hg).1 h
   ·cases h
  ·cases h
 ·exact Lw (fun q hq=>tM hq) h
 ·cases h
theorem Dp{e:List Value}{m m':μ}{n n' r wm:Nat}{v:Value}{rec:Nat->List Value->μ->Nat->OR μ}{x:AOp}(hrec:∀f args m n v m' n' r wm,rec f args m n=.ok v m' n' r wm->Up n n' r wm)
  (h:dJ P rec e m n x=.ok v m' n' r wm):Up n n' r wm:=by
 cases x with
 |mov x=>injection h with e1 e2 e3 e4 e5;subst e2;subst e3;subst e4;subst e5;exact Up.refl _
 |func f a c=>injection h with e1 e2 e3 e4 e5;subst e2;subst e3;subst e4;subst e5;exact Up.refl _
 |pick c a b=>exact fK h
 |bin op t x y=>exact fK h
 |una op x=>exact fK h
 |conv k x=>exact fK h
 |fld off x=>exact fK h
 |idx sz x i=>exact fK h
 |ida k sz x i=>exact fK h
 |build z ps=>exact fK h
 |extr i x=>exact fK h
 |nilck x=>exact fK h
 |len s x=>exact fK h
 |mx x y=>exact fK h
 |pur op xs=>exact fK h
 |mp op xs=>exact K4 h
 |slc sz x lo hi=>
  replace h:kP m n sz (jK sz (oev e lo) (oev e hi) (ev e x)) (ev e x)=.ok v m' n' r wm:=h
  unfold kP at h
  split at h
  ·rename_i b o ln c hx
   cases hc:Nat.beq c UNK
   ·rw[hc,cond_false]at h;exact fK h
   ·rw[hc,cond_true]at h
    cases hz:zE sz (fg m n b)
    ·rw[hz,cond_false]at h;cases h
    ·rw[hz,cond_true]at h;exact pz (Kw hz) h
  ·exact fK h
 |new c=>exact pW h
 |box x=>exact pW h
 |mkl sz len z ps=>
  replace h:Ap m n sz len (jW (iV sz e ps) (mE z len))=.ok v m' n' r wm:=h
  unfold Ap at h;split at h
  ·exact pW h
  ·cases h
 |make sz bytes z l c=>
  replace h:rX sz bytes z m n (eN (ev e l)) (eN (ev e c))=.ok v m' n' r wm:=h
  unfold rX at h;split at h
  ·rename_i l1 c1 _ _
   cases hb:(Nat.ble l1 c1&&Nat.ble (Nat.mul c1 bytes) 281474976710656&&Nat.ble c1 1099511627776)
   ·rw[hb,cond_false]at h;cases h
   ·rw[hb,cond_true]at h;exact pW h
  ·cases h
 |ld1 x=>
  replace h:rh m n (ev e x)=.ok v m' n' r wm:=h
  unfold rh at h;split at h
  ·obtain⟨hb,c,h⟩:=pu h;exact pz hb h
  ·cases h
 |ldn k x=>
  replace h:vR k m n (ev e x)=.ok v m' n' r wm:=h
  unfold vR at h;split at h
  ·obtain⟨hb,c,h⟩:=pu h;exact pz hb h
  ·cases h
 |st k x y=>
  replace h:stV k (ev e y).cells.toList m n (ev e x)=.ok v m' n' r wm:=h
  unfold stV at h;split at h
  ·rename_i b o hx
   cases hc:(Nat.beq (gx (ev e y).cells.toList) k&&(ev e y).cells.toList.all one)
   ·rw[hc,cond_false]at h;cases h
   ·rw[hc,cond_true]at h
    unfold stC at h;split at h
    ·rename_i hg;exact yn (dP hg).1 (fun i hi=>j7 (dP hg).1 hi) h
    ·cases h
  ·cases h
 |app sz bytes x y=>
  replace h:jq sz bytes m n (ev e x) (ev e y) (shown m n sz (ev e x)) (shown m n sz (ev e y))=.ok v m' n' r wm:=h
  unfold jq at h;split at h
  ·rename_i a b ha hb'
   have hr:∀i,n<=i->(Nat.lor a.2 b.2).testBit i=false:=fun i hi=>by rw[c9,tM ha i hi,tM hb' i hi];rfl
   unfold Da at h;split at h
   ·rename_i ax lx cx ay ly cy hx hy
    cases hc:(b.1.all one&&Nat.blt 0 sz&&Nat.blt 0 bytes&&Nat.ble (Nat.mul (Nat.add lx ly) bytes) 140737488355328)
    ·rw[hc,cond_false]at h;cases h
    ·rw[hc,cond_true]at h
     unfold yW at h;split at h
     ·cases hl:Nat.beq ly 0
      ·rw[hl,cond_false]at h;exact ES hr h
      ·rw[hl,cond_true]at h;injection h with e1 e2 e3 e4 e5;subst e2;subst e3;subst e4;subst e5;exact⟨Nat.le_refl _,fun i hi=>⟨hr i hi,Nat.zero_testBit i⟩⟩
     ·rename_i bx ox
      cases hv:Nat.beq cx VAG
      ·rw[hv,cond_false]at h
       cases hu:Nat.beq cx UNK
       ·rw[hu,cond_false]at h
        cases hl:Nat.ble (Nat.add lx ly) cx
        ·rw[hl,cond_false]at h;exact ES hr h
        ·rw[hl,cond_true]at h
         unfold Gk at h;split at h
         ·rename_i hg;exact yn (dP hg).1 hr h
         ·cases h
       ·rw[hu,cond_true]at h
        unfold rq at h;split at h
        ·rename_i c s hg
         cases hl:(AMem.lim m n&&Nat.beq s sz)
         ·rw[hl,cond_false]at h;cases h
         ·rw[hl,cond_true]at h;injection h with e1 e2 e3 e4 e5;subst e2;subst e3;subst e4;subst e5
          rw[Bool.and_eq_true]at hl
          exact⟨Nat.le_succ _,fun i hi=>⟨hr i (Nat.le_of_succ_le hi),by rw[c9,j7 (dP hg).1 (Nat.le_of_succ_le hi),j7 (Nat.lt_succ_self n) hi];rfl⟩⟩
        ·cases h
      ·rw[hv,cond_true]at h;cases h
     ·cases h
   ·cases h
  ·cases h
 |call f args=>exact hrec _ _ _ _ _ _ _ _ _ h
 |callv x args=>
  replace h:ju rec (evs e args) m n (ev e x)=.ok v m' n' r wm:=h
  unfold ju at h;split at h
  ·exact hrec _ _ _ _ _ _ _ _ _ h
  ·cases h
theorem D0{rec:Nat->List Value->μ->Nat->OR μ}(hrec:∀f args m n v m' n' r wm,rec f args m n=.ok v m' n' r wm->Up n n' r wm):
  ∀(l:List AI) (e:List Value) (m:μ) (n r0 w0:Nat) (X:AX) (e':List Value) (m':μ) (n' r wm:Nat),gD P rec l e m n r0 w0=.ok X e' m' n' r wm->
   ∃r1 w1,r=Nat.lor r0 r1/\wm=Nat.lor w0 w1/\Up n n' r1 w1
 |[],e,m,n,r0,w0,X,e',m',n',r,wm,h=>by
  obtain⟨_,_,rfl,rfl,rfl,rfl⟩:=lK h
  exact⟨0,0,(dZ _).symm,(dZ _).symm,Up.refl _⟩
 |i::l,e,m,n,r0,w0,X,e',m',n',r,wm,h=>by
  have ih:=D0 hrec l
  have step:∀{o:AOp} {e2:Value->List Value},(gq (dJ P rec e m n o) fun v m n r' w'=>gD P rec l (e2 v) m n (Nat.lor r0 r') (Nat.lor w0 w'))=.ok X e' m' n' r wm->∃r1 w1,r=Nat.lor r0 r1/\wm=Nat.lor w0 w1/\Up n n' r1 w1:=by
   intro o e2 h
   obtain⟨v,m1,n1,r1,w1,h1,h2⟩:=pR h
   have l1:=Dp hrec h1
   obtain⟨r2,w2,rfl,rfl,l2⟩:=ih _ _ _ _ _ _ _ _ _ _ _ h2
   exact⟨Nat.lor r1 r2,Nat.lor w1 w2,dy _ _ _,dy _ _ _,l1.trans l2⟩
  cases i with
  |nop i=>exact ih _ _ _ _ _ _ _ _ _ _ _ h
  |op o=>exact step (e2:=fun v=>v::e) h
  |opg o gi gw=>
   replace h:cond (dQ gw (ey e gi)) (gq (dJ P rec e m n o) fun v m n r' w'=>gD P rec l (v::e) m n (Nat.lor r0 r') (Nat.lor w0 w')) (gD P rec l (undef::e) m n r0 w0)=.ok X e' m' n' r wm:=h
   cases hw:dQ gw (ey e gi)
   ·rw[hw,cond_false]at h;exact ih _ _ _ _ _ _ _ _ _ _ _ h
   ·rw[hw,cond_true]at h;exact step (e2:=fun v=>v::e) h
  |eff o=>exact step (e2:=fun _=>e) h
  |effg o gi gw=>
   replace h:cond (dQ gw (ey e gi)) (gq (dJ P rec e m n o) fun v m n r' w'=>gD P rec l e m n (Nat.lor r0 r') (Nat.lor w0 w')) (gD P rec l e m n r0 w0)=.ok X e' m' n' r wm:=h
   cases hw:dQ gw (ey e gi)
   ·rw[hw,cond_false]at h;exact ih _ _ _ _ _ _ _ _ _ _ _ h
   ·rw[hw,cond_true]at h;exact step (e2:=fun _=>e) h
theorem DY{rec:Nat->List Value->μ->Nat->OR μ}(hrec:∀f args m n v m' n' r wm,rec f args m n=.ok v m' n' r wm->Up n n' r wm):
  ∀(l:List AI) (bs:List Nat) (k:Nat) (done:List (Nat×Nat×Nat)) (e:List Value) (m:μ) (n r0 w0:Nat) (X:AX) (e':List Value) (m':μ) (n' r wm:Nat),fH P rec l bs k done e m n r0 w0=.ok X e' m' n' r wm->
   ∃r1 w1,r=Nat.lor r0 r1/\wm=Nat.lor w0 w1/\Up n n' r1 w1
 |[],bs,k,done,e,m,n,r0,w0,X,e',m',n',r,wm,h=>by
  obtain⟨_,_,rfl,rfl,rfl,rfl⟩:=lK h
  exact⟨0,0,(dZ _).symm,(dZ _).symm,Up.refl _⟩
 |i::l,bs,k,done,e,m,n,r0,w0,X,e',m',n',r,wm,h=>by
  have ih:=DY hrec l
  have step:∀{o:AOp} {e2:Value->List Value},(okD (bs.headD 0) k done (eH P rec e m n o) fun v m n r' w' done=>fH P rec l bs.tail (Nat.succ k) done (e2 v) m n (Nat.lor r0 r') (Nat.lor w0 w'))=.ok X e' m' n' r wm->∃r1 w1,r=Nat.lor r0 r1/\wm=Nat.lor w0 w1/\Up n n' r1 w1:=by
   intro o e2 h
   obtain⟨v,m1,n1,r1,w1,h1,h2⟩:=Ck h
   have l1:=Dp hrec (tH h1).2
   rcases h2 with⟨_,h2⟩|⟨_,h2⟩
   all_goals
    obtain⟨r2,w2,rfl,rfl,l2⟩:=ih _ _ _ _ _ _ _ _ _ _ _ _ _ _ h2
    exact⟨Nat.lor r1 r2,Nat.lor w1 w2,dy _ _ _,dy _ _ _,l1.trans l2⟩
  cases i with
  |nop i=>exact ih _ _ _ _ _ _ _ _ _ _ _ _ _ _ h
  |op o=>exact step (e2:=fun v=>v::e) h
  |opg o gi gw=>
   replace h:cond (dQ gw (ey e gi)) (okD (bs.headD 0) k done (eH P rec e m n o) fun v m n r' w' done=>fH P rec l bs.tail (Nat.succ k) done (v::e) m n (Nat.lor r0 r') (Nat.lor w0 w')) (fH P rec l bs.tail (Nat.succ k) done (undef::e) m n r0 w0)=.ok X e' m' n' r wm:=h
   cases hw:dQ gw (ey e gi)
   ·rw[hw,cond_false]at h;exact ih _ _ _ _ _ _ _ _ _ _ _ _ _ _ h
   ·rw[hw,cond_true]at h;exact step (e2:=fun v=>v::e) h
  |eff o=>exact step (e2:=fun _=>e) h
  |effg o gi gw=>
   replace h:cond (dQ gw (ey e gi)) (okD (bs.headD 0) k done (eH P rec e m n o) fun v m n r' w' done=>fH P rec l bs.tail (Nat.succ k) done e m n (Nat.lor r0 r') (Nat.lor w0 w')) (fH P rec l bs.tail (Nat.succ k) done e m n r0 w0)=.ok X e' m' n' r wm:=h
   cases hw:dQ gw (ey e gi)
   ·rw[hw,cond_false]at h;exact ih _ _ _ _ _ _ _ _ _ _ _ _ _ _ h
   ·rw[hw,cond_true]at h;exact step (e2:=fun _=>e) h
omit [AMem μ] in
theorem wW{m0 m m':μ}{n0 n n' r r0 w0 wm:Nat}{v0 v:Value}(h0:Up n0 n r0 w0)(h:eX m0 n0 v0 m n r0 w0=.ok v m' n' r wm):Up n0 n' r wm:=by
 unfold eX at h
 cases hb:(du v0&&Nat.beq (Nat.mod w0 (bit n0)) 0)
 ·rw[hb,cond_false]at h;injection h with e1 e2 e3 e4 e5;subst e2;subst e3;subst e4;subst e5;exact h0
 ·rw[hb,cond_true,dT]at h;injection h with e1 e2 e3 e4 e5;subst e2;subst e3;subst e4;subst e5
  refine⟨Nat.le_refl _,fun i hi=>⟨?_,Nat.zero_testBit i⟩⟩
  show(r0 % bit n0).testBit i=false
  rw[show bit n0=2 ^ n0 by rw[bit];exact Nat.one_shiftLeft n0,Nat.testBit_mod_two_pow]
  simp only[Bool.and_eq_false_imp,decide_eq_true_eq]
  omega
theorem KK{e:List Value}{m:μ}{n:Nat}{vs:List Value}{r:Nat}{x:ROp}{p:List Value×Nat}(hr:∀i,n<=i->r.testBit i=false)(h:yj e m n vs r x=some p):∀i,n<=i->p.2.testBit i=false:=by
 intro i hi
 have key:∀{f:Nat->List Value->Option Value} {v:Value},ua m n vs r f v=some p->p.2.testBit i=false:=by
  intro f v h
  unfold ua at h
  split at h
  ·rename_i b o
   cases hg:fg m n b with
   |none=>rw[hg]at h;cases h
   |some B=>
    rw[hg]at h
    cases B with
    |map es=>cases h
    |cells c s q1 q2=>
     replace h:Option.rec (motive:=fun _=>Option (List Value×Nat)) none (fun v=>some (v::vs,Nat.lor r (bit b))) (f o c)=some p:=h
     cases hf:f o c with
     |none=>rw[hf]at h;cases h
     |some v=>
      rw[hf]at h
      injection h with h
      subst h
      show(Nat.lor r (bit b)).testBit i=false
      rw[c9,hr i hi,j7 (dP hg).1 hi];rfl
  ·cases h
 cases x with
 |v j=>injection h with h;subst h;exact hr i hi
 |cell j=>exact key h
 |cells j k=>exact key h
theorem yk{e:List Value}{m:μ}{n:Nat}:∀{l:List ROp} {p:List Value×Nat},lq e m n l=some p->∀i,n<=i->p.2.testBit i=false
 |[],p,h=>by
  intro i hi
  injection h with h;subst h;exact Nat.zero_testBit i
 |x::l,p,h=>by
  replace h:Option.rec (motive:=fun _=>Option (List Value×Nat)) none (fun p=>yj e m n p.1 p.2 x) (lq e m n l)=some p:=h
  cases hq:lq e m n l with
  |none=>rw[hq]at h;cases h
  |some q=>
   rw[hq]at h
   exact KK (yk hq) h
theorem yN{E:Nat->Option AFn}{Y:Nat->List Value->μ->Nat->OR μ}(hY:∀f args m n v m' n' r wm,Y f args m n=.ok v m' n' r wm->Up n n' r wm){rec:AC->List Value->μ->Nat->CR μ}(hrec:∀c e m n X e' m' n' r wm,rec c e m n=.ok X e' m' n' r wm->Up n n' r wm)
  {f:Nat} {args:List Value} {m m':μ} {n n' r wm:Nat} {v:Value} (h:dX E Y rec f args m n=.ok v m' n' r wm):Up n n' r wm:=by
 unfold dX at h
 cases hE:E f with
 |none=>rw[hE]at h;exact hY _ _ _ _ _ _ _ _ _ h
 |some fn=>
  rw[hE]at h
  replace h:mB rec args m n fn=.ok v m' n' r wm:=h
  unfold mB at h
  cases hl:Nat.beq (gx args) fn.na
  ·rw[hl,cond_false]at h;cases h
  ·rw[hl,cond_true]at h
   cases hr:rec fn.code args m n with
   |no=>rw[hr]at h;cases h
   |ok X e1 m1 n1 r1 w1=>
    rw[hr]at h
    replace h:ig fn m n e1 m1 n1 r1 w1 X=.ok v m' n' r wm:=h
    have l1:=hrec _ _ _ _ _ _ _ _ _ _ hr
    unfold ig at h
    split at h
    ·unfold oN at h;split at h
     ·rename_i vs r' hq
      have hq':=yk hq
      exact wW ⟨l1.1,fun i hi=>⟨by rw[c9,(l1.2 i hi).1,hq' i hi];rfl,(l1.2 i hi).2⟩⟩ h
     ·cases h
    ·exact wW l1 h
    ·cases h
theorem Eu{E:Nat->Option AFn}{Y:Nat->List Value->μ->Nat->OR μ}(hY:∀f args m n v m' n' r wm,Y f args m n=.ok v m' n' r wm->Up n n' r wm):∀(k:Nat) (c:AC) (e:List Value) (m:μ) (n:Nat) (X:AX) (e':List Value) (m':μ) (n' r wm:Nat),exec P E Y k c e m n=.ok X e' m' n' r wm->Up n n' r wm
 |0,c,e,m,n,X,e',m',n',r,wm,h=>by cases h
 |k+1,c,e,m,n,X,e',m',n',r,wm,h=>by
  have ih:=Eu (E:=E) (Y:=Y) hY k
  replace h:Ev P E Y (exec P E Y k) c e m n=.ok X e' m' n' r wm:=h
  have norm:∀{f:List Value->μ->Nat->CR μ} {X1:AX} {e1:List Value} {m1:μ} {n1 r1 w1:Nat},Up n n1 r1 w1->(∀e m n X e' m' n' r wm,f e m n=.ok X e' m' n' r wm->Up n n' r wm)->fI f X1 e1 m1 n1 r1 w1=.ok X e' m' n' r wm->Up n n' r wm:=by
   intro f X1 e1 m1 n1 r1 w1 l1 hf h
   unfold fI at h
   split at h
   ·obtain⟨r2,w2,h2,rfl,rfl⟩:=qt h
    exact l1.trans (hf _ _ _ _ _ _ _ _ _ h2)
   ·injection h with e1 e2 e3 e4 e5 e6;subst e3;subst e4;subst e5;subst e6;exact l1
  cases c with
  |skip=>injection h with e1 e2 e3 e4 e5 e6;subst e3;subst e4;subst e5;subst e6;exact Up.refl _
  |reg l=>
   obtain⟨r1,w1,rfl,rfl,l1⟩:=D0 (P:=P) (fun f args m n v m' n' r wm h=>yN hY ih h) l _ _ _ _ _ _ _ _ _ _ _ h
   rw[dx,dx];exact l1
  |regD l bs=>
   obtain⟨r1,w1,rfl,rfl,l1⟩:=DY (P:=P) (fun f args m n v m' n' r wm h=>yN hY ih h) l _ _ _ _ _ _ _ _ _ _ _ _ _ _ h
   rw[dx,dx];exact l1
  |seq a b=>
   obtain⟨X1,e1,m1,n1,r1,w1,h1,h2⟩:=fj h
   exact norm (ih _ _ _ _ _ _ _ _ _ _ h1) (fun _ _ _ _ _ _ _ _ _ h=>ih _ _ _ _ _ _ _ _ _ _ h) h2
  |cond x a b=>
   replace h:ic (exec P E Y k a e m n) (exec P E Y k b e m n) (ev e x)=.ok X e' m' n' r wm:=h
   unfold ic at h
   split at h
   ·rename_i t _
    cases t
    ·exact ih _ _ _ _ _ _ _ _ _ _ h
    ·exact ih _ _ _ _ _ _ _ _ _ _ h
   ·cases h
  |block id sh b=>
   obtain⟨X1,e1,m1,n1,r1,w1,h1,h2⟩:=fj h
   have l1:=ih _ _ _ _ _ _ _ _ _ _ h1
   unfold kx at h2
   split at h2
   ·rename_i i
    cases hi:Nat.beq i id
    ·rw[hi,cond_false]at h2;injection h2 with e1 e2 e3 e4 e5 e6;subst e3;subst e4;subst e5;subst e6;exact l1
    ·rw[hi,cond_true]at h2;injection h2 with e1 e2 e3 e4 e5 e6;subst e3;subst e4;subst e5;subst e6;exact l1
   ·injection h2 with e1 e2 e3 e4 e5 e6;subst e3;subst e4;subst e5;subst e6;exact l1
  |loop sh b=>
   obtain⟨X1,e1,m1,n1,r1,w1,h1,h2⟩:=fj h
   exact norm (ih _ _ _ _ _ _ _ _ _ _ h1) (fun _ _ _ _ _ _ _ _ _ h=>ih _ _ _ _ _ _ _ _ _ _ h) h2
  |pre sel d c=>exact ih _ _ _ _ _ _ _ _ _ _ h
  |post c sel d=>
   obtain⟨X1,e1,m1,n1,r1,w1,h1,h2⟩:=fj h
   have l1:=ih _ _ _ _ _ _ _ _ _ _ h1
   unfold mZ at h2
   split at h2
   ·injection h2 with e1 e2 e3 e4 e5 e6;subst e3;subst e4;subst e5;subst e6;exact l1
   ·injection h2 with e1 e2 e3 e4 e5 e6;subst e3;subst e4;subst e5;subst e6;exact l1
  |exit id=>injection h with e1 e2 e3 e4 e5 e6;subst e3;subst e4;subst e5;subst e6;exact Up.refl _
  |ret rs=>
   replace h:ov e m n (lq e m n rs)=.ok X e' m' n' r wm:=h
   unfold ov at h
   split at h
   ·rename_i vs r' hq
    injection h with e1 e2 e3 e4 e5 e6;subst e3;subst e4;subst e5;subst e6
    exact⟨Nat.le_refl _,fun i hi=>⟨yk hq i hi,Nat.zero_testBit i⟩⟩
   ·cases h
theorem Bo{E:Nat->Option AFn}{Y:Nat->List Value->μ->Nat->OR μ}(hY:∀f args m n v m' n' r wm,Y f args m n=.ok v m' n' r wm->Up n n' r wm){f:Nat}{args:List Value}{m m':μ}{n n' r w:Nat}{v:Value}(h:dX E Y (dt P E Y) f args m n=.ok v m' n' r w):Up n n' r w:=
 yN hY (fun c e m n X e' m' n' r wm h=>by
  obtain⟨k,hk⟩:=il h
  exact Eu hY k c e m n X e' m' n' r wm hk) h
end
end Go.Am
namespace Go.Am.CD
set_option maxRecDepth 100000
open Go Go.Am
variable{E:Nat->Option AFn}{Y:Nat->List Value->FM->Nat->OR FM}
variable{pb n N f k lo hi len N' b S w1 w n0 pb' w0 r0:Nat}{v:Value}{m M M' m':FM}{cs args e:List Value}{kv:Bool}
structure Ids where
 P:Nat
 sd:Nat
 md:Nat
 sc:Nat
 mc:Nat
 C:Nat
 D:Nat
 R:Nat
 EN:Nat
 K:Nat
 Q:Nat
structure Ids.Ok(i:Ids):Prop where
 h1:i.P<i.sd
 h2:i.sd<i.md
 h3:i.md<i.sc
 h4:i.sc<i.mc
 h5:i.mc<i.C
 h6:i.C<i.D
 h7:i.D<i.R
 h8:i.R<i.EN
 h9:i.EN<i.K
def Fr(P lo hi pb n:Nat)(m m':FM)(w:Nat):Prop:=∀b,b<n->b≠P->¬(lo<=b/\b<=hi)->b≠pb->m' b=m b/\Nat.testBit w b=false
theorem Fr.trans{P lo hi pb1 n1:Nat}{m1 m2:FM}{w2:Nat}(h1:Fr P lo hi pb n m m1 w1)(h2:Fr P lo hi pb1 n1 m1 m2 w2)(hn:n<=n1)(hp:pb1=pb\/n<=pb1):Fr P lo hi pb n m m2 (Nat.lor w1 w2):=fun b hb h0 hk hne=>by
 obtain⟨k1,k2⟩:=h1 b hb h0 hk hne
 obtain⟨k3,k4⟩:=h2 b (by omega) h0 hk (by omega)
 exact⟨k3.trans k1,by rw[c9,k2,k4];rfl⟩
theorem Fr.dF{P:Nat}{m':FM}(hf:∀b,b<n->m' b=m b):Fr P lo hi pb n m m' 0:=fun b hb _ _ _=>⟨hf b hb,Nat.zero_testBit _⟩
theorem Fr.wide{P lo' hi':Nat}(h:Fr P lo hi pb n m m' w)(h1:lo'<=lo)(h2:hi<=hi'):Fr P lo' hi' pb n m m' w:=fun b hb h0 hk hne=>h b hb h0 (by omega) hne
def Lc:Value->Bool
 | .int .u8 _=>true
 |_=>false
def By(i:Ids)(pb:Nat)(M:FM)(N:Nat)(v:Value)(len:Nat)(cs:List Value):Prop:=
 ∃b o c xs opn wr,v=.slice (some ⟨b,o,none⟩) len c/\(i.K<=b/\b≠i.Q)/\b≠pb/\b<N/\M b=some (.cells xs 1 opn wr)/\eO xs o (len*1)=some cs/\0<len/\cs.all Lc=true
theorem By.sh{i:Ids}(h:By i pb M N v len cs):Sh 1 M N v len cs:=by
 obtain⟨b,o,c,xs,opn,wr,h1,_,_,h2,h3,h4,h5,_⟩:=h
 exact⟨b,o,c,xs,opn,wr,h1,h2,h3,h4,h5⟩
theorem By.u8{i:Ids}{v:Value}(h:By i pb M N v len cs):cs.all Lc=true:=by
 obtain⟨b,o,c,xs,opn,wr,_,_,_,_,_,_,_,h6⟩:=h
 exact h6
theorem By.fr{i:Ids}{P lo hi:Nat}{w:Nat}(h:By i pb M N v len cs)(hf:Fr P lo hi pb N M M' w)(hP:P<i.K)(hh:hi<i.K)(hN:N<=N')(hp:pb'=pb\/N<=pb'):By i pb' M' N' v len cs:=by
 obtain⟨b,o,c,xs,opn,wr,h1,h2,h3,h4,h5,h6,h7⟩:=h
 exact⟨b,o,c,xs,opn,wr,h1,h2,by omega,by omega,((hf b h4 (by omega) (by omega) h3).1).trans h5,h6,h7⟩
theorem BX{i:Ids}(h:SlZ 1 M n0 N v len cs)(hf:∀b,n0<=b->b<N->M' b=M b)(hN:N<=N')(hl:0<len)(hk:i.K<=n0)(hQ:i.Q<n0)(hp:pb<n0\/N<=pb)(h8:cs.all Lc=true):By i pb M' N' v len cs:=by
 rcases h with⟨h1,_⟩|⟨h0,hcl,b,rfl,h1,h2,h3⟩
 ·omega
 ·exact⟨b,0,UNK,cs,true,true,rfl,⟨by omega,by omega⟩,by omega,by omega,(hf b h1 h2).trans h3,by rw[eU,gr];exact fw hcl.symm,hl,h8⟩
def n8s(ns:List Nat):List Value:=ns.map fun x:Nat=>.int .u8 (x:Int)
theorem iZ(ns:List Nat):(n8s ns).length=ns.length:=List.length_map _
theorem yE(ns:List Nat):(n8s ns).all Am.one=true:=by
 rw[n8s,List.all_map,List.all_eq_true];intro x _;rfl
theorem Cq(ns:List Nat):(n8s ns).all Lc=true:=by
 rw[n8s,List.all_map,List.all_eq_true];intro x _;rfl
def ptr(b:Nat):Value:=.pointer (some ⟨b,0,none⟩)
theorem ml(rec:Nat->List Value->FM->Nat->OR FM)(args:List Value)(m:FM)(n f:Nat)(c:List Value):ju rec args m n (.func (.func f) #[] c.toArray)=rec f (args++c) m n:=rfl
theorem ol(P:Program)(rec:Nat->List Value->FM->Nat->OR FM)(e:List Value)(m:FM)(n sz:Nat)(x:Opd)(lo hi:Option Opd):dJ P rec e m n (.slc sz x lo hi)=kP m n sz (jK sz (oev e lo) (oev e hi) (ev e x)) (ev e x):=rfl
theorem iA(e:List Value)(x:Opd):oev e (some x)=some (ev e x):=rfl
theorem iC(e:List Value):oev e none=none:=rfl
theorem lh{P:Program}{k0:Nat}{fn:AFn}{R:FM->Nat->Nat->Prop}(hE:E f=some fn)(ha:gx args=fn.na)(he:fn.endrs=[])(hk0:k0<n)(h:∀Q:AX->List Value->FM->Nat->Nat->Prop,(∀e m' n' w,Nat.testBit w k0=true->R m' n' w->Q .norm e m' n' w)->Wr P E Y [] 0 (dt P E Y fn.code args m n) Q):Rt (df P E Y f args m n) fun v m' n' w=>Nat.testBit w k0=true/\R m' n' w:=by
 rw[gZ hE ha]
 obtain⟨X,e',m',n',r,w,hx,rfl,h1,h2⟩:=fX (gR (h (fun X _ m' n' w=>X=.norm/\Nat.testBit w k0=true/\R m' n' w) fun _ m' n' w k1 k2=>⟨rfl,k1,k2⟩))
 rw[hx]
 have e1:rf fn m n (.ok .norm e' m' n' r w)=eX m n (.tuple #[]) m' n' (Nat.lor r 0) w:=by
  show oN m n m' n' r w (lq e' m' n' fn.endrs)=_
  rw[he];rfl
 have hn:¬Nat.mod w (bit n)=0:=fun hw=>by rw[dK hw k0 hk0]at h1;cases h1
 have e2:eX m n (.tuple #[]) m' n' (Nat.lor r 0) w=.ok (.tuple #[]) m' n' (Nat.lor r 0) w:=by
  unfold eX
  have hc:(du (.tuple #[])&&Nat.beq (Nat.mod w (bit n)) 0)=false:=by
   cases h4:Nat.beq (Nat.mod w (bit n)) 0
   ·exact Bool.and_false _
   ·exact absurd (Nat.eq_of_beq_eq_true h4) hn
  rw[hc];rfl
 rw[e1,e2]
 exact⟨h1,h2⟩
theorem lY{i r:Nat}(h:r.testBit i=false):Nat.land (bit i) r=0:=by
 apply Nat.eq_of_testBit_eq
 intro k
 show(bit i &&& r).testBit k=_
 rw[Nat.testBit_and,dn,Nat.zero_testBit]
 by_cases hk:i=k
 ·subst hk;rw[h,Bool.and_false]
 ·simp[hk]
def YUp(Y:Nat->List Value->FM->Nat->OR FM):Prop:=∀f args m n v m' n' r wm,Y f args m n=.ok v m' n' r wm->Up n n' r wm
theorem tA{P:Program}{K:List Frm}{l:List (AI×Nat)}{Q:AX->List Value->FM->Nat->Nat->Prop}{done:List (Nat×Nat×Nat)}{R:Value->FM->Nat->Nat->Prop}(hY:∀f args m n v m' n' r wm,Y f args m n=.ok v m' n' r wm->Up n n' r wm)(h:Rt (df P E Y f args m n) R)(hk:∀v m' n' r' w',R v m' n' w'->(∀i,n'<=i->Nat.land (bit i) r'=0/\Nat.land (bit i) w'=0)->Wr P E Y K w0 (mT (ll P (df P E Y) l (iw b kv k done e r0 w1 (.ok v m' n' r' w')))) Q):Wr P E Y K w0 (mT (ll P (df P E Y) l (iw b kv k done e r0 w1 (df P E Y f args m n)))) Q:=by
 obtain⟨v,m',n',r',w',hx,hq⟩:=h.some
 rw[hx]
 have hu:=Bo hY hx
 exact hk _ _ _ _ _ hq fun i hi=>⟨lY (hu.2 i hi).1,lY (hu.2 i hi).2⟩
theorem tB{P:Program}{K:List Frm}{l:List (AI×Nat)}{Q:AX->List Value->FM->Nat->Nat->Prop}{done:List (Nat×Nat×Nat)}(hY:YUp Y)(h:Pure (df P E Y f args m n) m n v)(hk:∀r',(∀i,n<=i->Nat.land (bit i) r'=0)->Wr P E Y K w0 (mT (ll P (df P E Y) l (iw b kv k done e r0 w1 (.ok v m n r' 0)))) Q):Wr P E Y K w0 (mT (ll P (df P E Y) l (iw b kv k done e r0 w1 (df P E Y f args m n)))) Q:=by
 obtain⟨r',hx⟩:=h
 rw[hx]
 have hu:=Bo hY hx
 exact hk _ fun i hi=>lY (hu.2 i hi).1
theorem G4(k:Nat)(x:Opd)(e:List Value)(m:FM)(n:Nat):dJ PG (df PG EL Y) e m n (.pur (.fld k) [x])=eG m n (F2 k (ev e x)):=rfl
theorem Ia(k:Nat)(l:List Value):F2 k (.agg l.toArray)=fh l k:=rfl
theorem jL{P:Program}{m:FM}{n:Nat}{fn:AFn}{args:List Value}{S:Value->Prop}(hE:E f=some fn)(ha:gx args=fn.na)(hS:∀v,S v->du v=true)(h:Wr P E Y [] 0 (dt P E Y fn.code args m n) fun X _ _ _ w=>(∃v,X=.ret v/\S v)/\Nat.mod w (bit n)=0):∃v,S v/\Pure (df P E Y f args m n) m n v:=by
 rw[gZ hE ha]
 obtain⟨X,e',m',n',r,w,hx,⟨v,rfl,hs⟩,hw⟩:=fX (gR h)
 exact⟨v,hs,DO (hS v hs) (by rw[hx];exact⟨rfl,hw⟩)⟩
theorem G9{P:Program}{fn:AFn}{R:Value->FM->Nat->Nat->Prop}(hE:E f=some fn)(ha:gx args=fn.na)(h:∀Q:AX->List Value->FM->Nat->Nat->Prop,(∀v e m' n' w,du v=false->R v m' n' w->Q (.ret v) e m' n' w)->Wr P E Y [] 0 (dt P E Y fn.code args m n) Q):Rt (df P E Y f args m n) R:=by
 rw[gZ hE ha]
 obtain⟨X,e',m',n',r,w,hx,v,rfl,h1,h2⟩:=fX (gR (h (fun X _ m' n' w=>∃v,X=.ret v/\du v=false/\R v m' n' w) fun v _ m' n' w k1 k2=>⟨v,rfl,k1,k2⟩))
 rw[hx,iu,nj h1]
 exact h2
theorem jD{P:Program}{fn:AFn}{args:List Value}{R:FM->Nat->Nat->Prop}(hE:E f=some fn)(ha:gx args=fn.na)(he:fn.endrs=[])(h0:R m n 0)(h:∀Q:AX->List Value->FM->Nat->Nat->Prop,(∀X e m' n' w,X=.norm\/X=.ret (.tuple #[])->R m' n' w->Q X e m' n' w)->Wr P E Y [] 0 (dt P E Y fn.code args m n) Q):Rt (df P E Y f args m n) fun v m' n' w=>R m' n' w:=by
 rw[gZ hE ha]
 obtain⟨X,e',m',n',r,w,hx,hX,h2⟩:=fX (gR (h (fun X _ m' n' w=>(X=.norm\/X=.ret (.tuple #[]))/\R m' n' w) fun _ _ m' n' w k1 k2=>⟨k1,k2⟩))
 rw[hx]
 have fin:∀r,Rt (eX m n (.tuple #[]) m' n' r w) fun v m' n' w=>R m' n' w:=fun r=>by
  unfold eX
  cases hc:(du (.tuple #[])&&Nat.beq (Nat.mod w (bit n)) 0)
  ·exact h2
  ·rw[cond_true,dT];exact h0
 rcases hX with rfl|rfl
 ·have e1:rf fn m n (.ok .norm e' m' n' r w)=eX m n (.tuple #[]) m' n' (Nat.lor r 0) w:=by
   show oN m n m' n' r w (lq e' m' n' fn.endrs)=_
   rw[he];rfl
  rw[e1]
  exact fin _
 ·rw[iu]
  exact fin _
structure Bnd where
 used:Nat
 live:Nat
 age:Int
 wear:Int
def Bnd.cells(x:Bnd):List Value:=[.int .i64 (x.used:Int),.int .i64 (x.live:Int),.int .u64 x.age,.int .u64 x.wear]
def dD:List Bnd->List Value
 |[]=>[]
 |x::xs=>.int .i64 (x.used:Int)::.int .i64 (x.live:Int)::.int .u64 x.age::.int .u64 x.wear::dD xs
theorem fW:∀l:List Bnd,(dD l).length=l.length*4
 |[]=>rfl
 |x::xs=>by simp only[dD,List.length_cons,fW xs];omega
theorem vo:∀l:List Bnd,(dD l).all Am.one=true
 |[]=>rfl
 |x::xs=>by simp only[dD,List.all_cons,vo xs];rfl
theorem BD(l:List Bnd):∀j,(dD l).drop (j*4)=dD (l.drop j):=by
 induction l with
 |nil=>intro j;simp[dD]
 |cons x xs ih=>
  intro j
  cases j with
  |zero=>simp
  |succ j=>
   rw[show(j+1)*4=j*4+1+1+1+1 by omega,dD,List.drop_succ_cons,List.drop_succ_cons,List.drop_succ_cons,List.drop_succ_cons,ih j,List.drop_succ_cons]
theorem eM{l:List Bnd}{j:Nat}(h:j<l.length):lE (dD l) (j*4)=.int .i64 (l[j].used:Int)::.int .i64 (l[j].live:Int)::.int .u64 l[j].age::.int .u64 l[j].wear::dD (l.drop (j+1))/\fh (dD l) (j*4)=some (.int .i64 (l[j].used:Int))/\fh (dD l) (j*4+1)=some (.int .i64 (l[j].live:Int))/\fh (dD l) (j*4+2)=some (.int .u64 l[j].age)/\fh (dD l) (j*4+3)=some (.int .u64 l[j].wear):=by
 have e:(dD l).drop (j*4)=.int .i64 (l[j].used:Int)::.int .i64 (l[j].live:Int)::.int .u64 l[j].age::.int .u64 l[j].wear::dD (l.drop (j+1)):=by
  rw[BD,List.drop_eq_getElem_cons h,dD]
 have g:∀k,fh (dD l) (j*4+k)=((dD l).drop (j*4))[k]?:=fun k=>by rw[eV,List.getElem?_drop]
 refine⟨?_,by have:=g 0;rw[e]at this;exact this,by have:=g 1;rw[e]at this;exact this,by have:=g 2;rw[e]at this;exact this,by have:=g 3;rw[e]at this;exact this⟩
 rw[jd,e]
def BsW(i:Ids)(pb:Nat)(M:FM)(N:Nat)(v:Value)(l:List Bnd):Prop:=
 ∃b c opn wr,v=.slice (some ⟨b,0,none⟩) l.length c/\((i.K<=b\/i.D<b/\b≠i.R/\b<i.EN)/\b≠i.Q)/\b≠pb/\b<N/\M b=some (.cells (dD l) 4 opn wr)/\0<l.length/\l.length<=5
theorem BsW.fr{i:Ids}{P lo hi:Nat}{w:Nat}{l:List Bnd}(h:BsW i pb M N v l)(hf:Fr P lo hi pb N M M' w)(hh:hi<i.K)(hd:hi<=i.D)(hP:P<=i.D)(hD:i.D<i.K)(hN:N<=N')(hp:pb'=pb\/N<=pb'):BsW i pb' M' N' v l:=by
 obtain⟨b,c,opn,wr,h1,h2,h3,h4,h5,h6,h7⟩:=h
 exact⟨b,c,opn,wr,h1,h2,by omega,by omega,((hf b h4 (by omega) (by omega) h3).1).trans h5,h6,h7⟩
theorem BsW.fr2{i:Ids}{l:List Bnd}(h:BsW i pb M N v l)(hR:i.R<i.K)(hE:i.EN<i.K)(hf:∀b,b<N->b≠i.R->b≠i.EN->M' b=M b):BsW i pb M' N v l:=by
 obtain⟨b,c,opn,wr,h1,h2,h3,h4,h5,h6,h7⟩:=h
 exact⟨b,c,opn,wr,h1,h2,h3,h4,(hf b h4 (by omega) (by omega)).trans h5,h6,h7⟩
theorem BsW.dF{i:Ids}{M':FM}{N':Nat}{l:List Bnd}(h:BsW i pb M N v l)(hN:N<=N')(hf:∀b,b<N->M' b=M b):BsW i pb M' N' v l:=by
 obtain⟨b,c,opn,wr,h1,h2,h3,h4,h5,h6,h7⟩:=h
 exact⟨b,c,opn,wr,h1,h2,h3,by omega,(hf b h4).trans h5,h6,h7⟩
theorem BsW.p{i:Ids}{v:Value}{l:List Bnd}(h:BsW i pb M N v l):jS false v=some (.int .i64 (l.length:Int))/\Am.one v=true/\et N v=true/\gQ N v=true:=by
 obtain⟨b,c,opn,wr,rfl,h2,h3,h4,h5,h6,h7⟩:=h
 exact⟨rfl,rfl,dC h4,dC h4⟩
theorem BsW.at{i:Ids}{l:List Bnd}(h:BsW i pb M N v l):∃b,(∀j,j<l.length->fU 4 j v=some (.pointer (some ⟨b,j*4,none⟩)))/\b<N/\b≠pb/\((i.K<=b\/i.D<b/\b≠i.R/\b<i.EN)/\b≠i.Q)/\∃opn wr,M b=some (.cells (dD l) 4 opn wr):=by
 obtain⟨b,c,opn,wr,rfl,h2,h3,h4,h5,h6,h7⟩:=h
 exact⟨b,fun j hj=>by rw[eY hj,Nat.zero_add],h4,h3,h2,opn,wr,h5⟩
def gu(l:List Bnd):Nat:=l.countP fun x=>x.used==0
theorem Lj{i:Ids}{l:List Bnd}(h:BsW i pb m n v l)(x4 x5:Value){Q:AX->List Value->FM->Nat->Nat->Prop}
  (hQ:∀x1 x2 M N w,Nat.mod w (bit n)=0->Q (.exit 0) [.int .i64 (gu l:Int),x1,x2,x4,x5,v] M N w):
  ∀(d j:Nat),j+d=l.length->∀(x2:Value) (M:FM) (N w0:Nat),n<=N->(∀b,b<n->M b=m b)->Nat.mod w0 (bit n)=0->
  Gv (dt PG EL Y y5 [.int .i64 (gu (l.take j):Int),.int .i64 (j:Int),x2,.int .i64 (l.length:Int),x4,x5,v] M N) fun X e m n w=>Q X e m n (Nat.lor w0 w):=by
 obtain⟨p1,p2,p3,p4⟩:=h.p
 obtain⟨b,hi,hb,_,_,opn,wr,hm⟩:=h.at
 obtain⟨_,_,_,_,_,_,_,_,_,_,hl5⟩:=h
 intro d
 induction d with
 |zero=>
  intro j hj x2 M N w0 hN hf hw
  refine dm (L:=y5) (b:=qx) rfl ?_
  simp only[qx]
  obtain rfl:j=l.length:=by omega
  rw[List.take_length]
  simp -implicitDefEqProofs (disch:=omega)only[W2,dd,Nat.testBit,Nat.reduceAdd,Nat.reduceShiftRight,Nat.reduceAnd,Nat.reduceBNe,Nat.reduceMul]
  exact hQ _ _ _ _ _ hw
 |succ d ih=>
  intro j hj x2 M N w0 hN hf hw
  have hmM:=(hf b hb).trans hm
  obtain⟨c1,c2,c3,c4,c5⟩:=eM (l:=l) (j:=j) (by omega)
  have hix:=hi j (by omega)
  refine dm (L:=y5) (b:=qx) rfl ?_
  simp only[qx]
  have hcnt:gu (l.take (j+1))=gu (l.take j)+(if l[j].used=0 then 1 else 0):=by
   rw[List.take_succ_eq_append_getElem (by omega),gu,List.countP_append,gu]
   simp[List.countP_cons]
  have hfl:gu (l.take j)<=5:=Nat.le_trans List.countP_le_length (by rw[List.length_take];omega)
  by_cases h0:l[j].used=0
  ·rw[if_pos h0]at hcnt
   rw[h0]at c1
   simp -implicitDefEqProofs (disch:=omega)only[W2,dd,Nat.testBit,Nat.reduceAdd,Nat.reduceShiftRight,Nat.reduceAnd,Nat.reduceBNe,Nat.reduceMul,p2,hix,hmM,c1]
   rw[<-hcnt]
   refine dM (ih (j+1) (by omega) _ _ _ (Nat.lor w0 (Nat.lor (bit N) (bit N))) (by omega) (fun b hb=>by rw[dc _ _ _ _ (by omega),hf b hb]) (by simp only[eL];exact⟨hw,dE hN,dE hN⟩)) fun X e m n w hq=>?_
   rw[show Nat.lor w0 (Nat.lor (Nat.lor (bit N) (bit N)) w)=Nat.lor (Nat.lor w0 (Nat.lor (bit N) (bit N))) w from(dy _ _ _).symm]
   exact hq
  ·rw[if_neg h0]at hcnt
   simp -implicitDefEqProofs (disch:=omega)only[W2,dd,Nat.testBit,Nat.reduceAdd,Nat.reduceShiftRight,Nat.reduceAnd,Nat.reduceBNe,Nat.reduceMul,p2,hix,hmM,c1]
   rw[show gu (l.take j)=gu (l.take (j+1)) by omega]
   refine dM (ih (j+1) (by omega) _ _ _ (Nat.lor w0 (Nat.lor (bit N) (bit N))) (by omega) (fun b hb=>by rw[dc _ _ _ _ (by omega),hf b hb]) (by simp only[eL];exact⟨hw,dE hN,dE hN⟩)) fun X e m n w hq=>?_
   rw[show Nat.lor w0 (Nat.lor (Nat.lor (bit N) (bit N)) w)=Nat.lor (Nat.lor w0 (Nat.lor (bit N) (bit N))) w from(dy _ _ _).symm]
   exact hq
theorem free_spec{i:Ids}{l:List Bnd}(h:BsW i pb m n v l):Pure (df PG EL Y 63 [v] m n) m n (.int .i64 (gu l:Int)):=by
 obtain⟨p1,p2,p3,p4⟩:=h.p
 refine dz e63 rfl rfl ?_
 simp only[Pd]
 simp -implicitDefEqProofs (disch:=omega)only[W2,dd,Nat.testBit,Nat.reduceAdd,Nat.reduceShiftRight,Nat.reduceAnd,Nat.reduceBNe,Nat.reduceMul,p1,p2]
 refine dS ((Lj h _ _ (fun x1 x2 M N w hw=>?_) l.length 0 (Nat.zero_add _) _ m n 0 (Nat.le_refl _) (fun _ _=>rfl) (jg _)).mono fun X e m' n' w hq=>by simpa only[dx]using hq)
 intro rr
 simp -implicitDefEqProofs (disch:=omega)only[W2,dd,Nat.testBit,Nat.reduceAdd,Nat.reduceShiftRight,Nat.reduceAnd,Nat.reduceBNe,Nat.reduceMul]
 exact hw
theorem BsW.sh{i:Ids}{l:List Bnd}(h:BsW i pb M N v l):Sh 4 M N v l.length (dD l):=by
 obtain⟨b,c,opn,wr,h1,h2,h3,h4,h5,h6,h7⟩:=h
 exact⟨b,0,c,dD l,opn,wr,h1,h4,h5,by rw[eU,gr];exact fw (fW l).symm,h6⟩
theorem NT{i:Ids}{l:List Bnd}(h:SlZ 4 M n0 N v l.length (dD l))(hf:∀b,n0<=b->b<N->M' b=M b)(hN:N<=N')(hl:0<l.length)(hl5:l.length<=5)(hk:i.K<=n0)(hQ:i.Q<n0)(hp:pb<n0\/N<=pb):BsW i pb M' N' v l:=by
 rcases h with⟨h1,_⟩|⟨h0,hcl,b,rfl,h1,h2,h3⟩
 ·omega
 ·exact⟨b,UNK,true,true,rfl,by omega,by omega,by omega,(hf b h1 h2).trans h3,hl,hl5⟩
theorem Bi{i:Ids}{l:List Bnd}(h:BsW i pb m n v l):
  Rt (df PG EL Y 149 [v] m n) fun v' m' n' w=>n<=n'/\(∀b,b<n->m' b=m b)/\(∀j,j<=n->Nat.mod w (bit j)=0)/\SlZ 4 m' n n' v' l.length (dD l):=by
 have h5:l.length<=5:=by obtain⟨_,_,_,_,_,_,_,_,_,_,h7⟩:=h;exact h7
 refine ez (R:=fun v m' n'=>SlZ 4 m' n n' v l.length (dD l)) e149 rfl fun Q hQ=>?_
 have h:=h.sh
 have e26:ji PG .eql 86 v (.slice none 0 0)=some (.bool false):=by
  obtain⟨b,o,c,rfl,hb,h0⟩:=h.sl
  exact oS (P:=PG) (t:=86) (by kernel_rfl) (some ⟨b,o,none⟩) _ c
 have hone1:=h.one
 simp only[JE]
 simp -implicitDefEqProofs (disch:=omega)only[W2,dd,Nat.testBit,Nat.reduceAdd,Nat.reduceShiftRight,Nat.reduceAnd,Nat.reduceBNe,Nat.reduceMul,e26,hone1]
 generalize hM1:(AMem.put m n (some (Blk.cells [] 4 false true)):FM)=M1
 have lo1:∀b,b<n->M1 b=m b:=fun b hb=>by rw[<-hM1,dc _ _ _ _ (by omega)]
 obtain⟨b',hb',hsh⟩:=(h.frame (show n<=n+1 by omega) lo1).GR
 obtain⟨b,o,c,rfl,hb,h0⟩:=h.sl
 rw[hsh]
 refine dw (yV (n0:=n) (Nat.le_refl _) (by omega) (by omega) h0 (vo l) h.OE _ _ _ (by omega) (by omega)) fun v2 M2 N2 r2 w2 ⟨n2,hS2,lo2,hw2⟩=>?_
 subst n2;subst hw2
 simp -implicitDefEqProofs (disch:=omega)only[W2,dd,Nat.testBit,Nat.reduceAdd,Nat.reduceShiftRight,Nat.reduceAnd,Nat.reduceBNe,Nat.reduceMul]
 refine hQ _ _ _ _ _ (by omega) (fun b hb=>by rw[lo2 b (by omega),lo1 b hb]) ?_ ?_ hS2
 ·simp -implicitDefEqProofs (disch:=omega)only[W2,dd,Nat.testBit,Nat.reduceAdd,Nat.reduceShiftRight,Nat.reduceAnd,Nat.reduceBNe,Nat.reduceMul]
 ·rcases hS2 with⟨q,_⟩|⟨_,_,b,rfl,_⟩
  ·omega
  ·rfl
theorem nq{i:Ids}{l l':List Bnd}(h:BsW i pb m n v l)(hk:k<l.length)(hl':l'.length=l.length){f:Nat}{cs:List Value}(hcb:(cs.all (jn n))=true)
  (hcall:∀m2 n2 nb,n<=nb->nb<n2->(∀b,b<n->m2 b=m b)->m2 nb=some (.cells (dD l) 4 true true)->Rt (df PG EL Y f (.pointer (some ⟨nb,k*4,none⟩)::cs) m2 n2) fun r m3 n3 w=>r=.int .i64 0/\n2<=n3/\(∀b,b<n2->b≠nb->m3 b=m2 b/\Nat.testBit w b=false)/\m3 nb=some (.cells (dD l') 4 true true)):
  Rt (df PG EL Y 121 [v,.int .i64 (k:Int),.func (.func f) #[] cs.toArray] m n) fun r m' n' w=>n<=n'/\(∀b,b<n->m' b=m b)/\(∀j,j<=n->Nat.mod w (bit j)=0)/\∃v',r=.tuple #[v',.int .i64 0]/\SlZ 4 m' n n' v' l'.length (dD l'):=by
 have h5:l.length<=5:=by obtain⟨_,_,_,_,_,_,_,_,_,_,h7⟩:=h;exact h7
 obtain⟨p1,p2,p3,p4⟩:=h.p
 refine ez (R:=fun r m' n'=>∃v',r=.tuple #[v',.int .i64 0]/\SlZ 4 m' n n' v' l'.length (dD l')) e121 rfl fun Q hQ=>?_
 simp only[JX]
 simp -implicitDefEqProofs (disch:=omega)only[W2,dd,Nat.testBit,Nat.reduceAdd,Nat.reduceShiftRight,Nat.reduceAnd,Nat.reduceBNe,Nat.reduceMul,p1,p2]
 refine dw (Bi h) fun v1 m1 n1 r1 w1 hh=>?_
 obtain⟨hn1,hf1,hw1,hS1⟩:=hh
 rcases hS1 with⟨q,_⟩|⟨_,hcl,nb,rfl,hb1,hb2,hm1⟩
 ·omega
 have hix:fU 4 k (.slice (some ⟨nb,0,none⟩) l.length UNK)=some (.pointer (some ⟨nb,k*4,none⟩)):=by rw[eY hk,Nat.zero_add]
 simp -implicitDefEqProofs (disch:=omega)only[W2,dd,Nat.testBit,Nat.reduceAdd,Nat.reduceShiftRight,Nat.reduceAnd,Nat.reduceBNe,Nat.reduceMul,hix,jw,ml,List.cons_append,List.nil_append]
 refine dw (hcall m1 n1 nb hb1 hb2 hf1 hm1) fun r2 m2 n2 r3 w2 hh=>?_
 obtain⟨rfl,hn2,hf2,hm2⟩:=hh
 simp -implicitDefEqProofs (disch:=omega)only[W2,dd,Nat.testBit,Nat.reduceAdd,Nat.reduceShiftRight,Nat.reduceAnd,Nat.reduceBNe,Nat.reduceMul]
 refine hQ _ _ _ _ _ (by omega) (fun b hb=>by rw[(hf2 b (by omega) (by omega)).1,hf1 b hb]) ?_ rfl ⟨_,rfl,.inr ⟨by omega,fW _,nb,by rw[hl'],hb1,by omega,hm2⟩⟩
 exact fm fun b hb=>by simp only[c9,dK (hw1 n (Nat.le_refl _)) b hb,(hf2 b (by omega) (by omega)).2];rfl
theorem C6(l:List Bnd):∀(k:Nat) (h:k<l.length) (x:Bnd),setCells (dD l) (k*4) x.cells=some (dD (l.set k x)):=by
 induction l with
 |nil=>intro k h;cases h
 |cons y ys ih=>
  intro k h x
  cases k with
  |zero=>
   rw[eh,if_pos (by rw[fW];simp[Bnd.cells];omega)]
   rfl
  |succ k=>
   have hl:k<ys.length:=by rw[List.length_cons]at h;omega
   have:=ih k hl x
   rw[eh]at this ⊢
   rw[if_pos (by rw[fW];simp[Bnd.cells];omega)]at this
   rw[if_pos (by rw[fW,List.length_cons];simp[Bnd.cells];omega)]
   injection this with this
   rw[List.set_cons_succ,dD,dD,<-this,show(k+1)*4=k*4+1+1+1+1 by omega]
   simp only[Bnd.cells,List.take_succ_cons,List.drop_succ_cons,List.cons_append,List.length_cons,List.length_nil]
theorem sX(c:Nat)(hc:c<4)(z:Value)(g:Bnd->Bnd)(hg:∀x:Bnd,(x.cells.take c++[z]++x.cells.drop (c+1))=(g x).cells)(l:List Bnd):∀(k:Nat) (h:k<l.length),setCells (dD l) (k*4+c) [z]=some (dD (l.set k (g l[k]))):=by
 have hb:∀(x:Bnd) (xs:List Bnd),dD (x::xs)=x.cells++dD xs:=fun _ _=>rfl
 have hcl:∀x:Bnd,x.cells.length=4:=fun _=>rfl
 induction l with
 |nil=>intro k h;cases h
 |cons y ys ih=>
  intro k h
  cases k with
  |zero=>
   rw[eh,if_pos (by rw[fW];simp;omega)]
   rw[List.set_cons_zero,hb,hb,Nat.zero_mul,Nat.zero_add,List.getElem_cons_zero,<-hg y,List.take_append_of_le_length (by rw[hcl];omega),List.drop_append_of_le_length (by rw[hcl];simp;omega)]
   simp
  |succ k=>
   have hl:k<ys.length:=by rw[List.length_cons]at h;omega
   have:=ih k hl
   rw[eh]at this ⊢
   rw[if_pos (by rw[fW];simp;omega)]at this
   rw[if_pos (by rw[fW,List.length_cons];simp;omega)]
   injection this with this
   rw[List.set_cons_succ,dD,dD,List.getElem_cons_succ,<-this,show(k+1)*4+c=k*4+c+1+1+1+1 by omega]
   simp only[List.take_succ_cons,List.drop_succ_cons,List.cons_append,List.length_cons,List.length_nil,show k*4+c+1+1+1+1+(0+1)=k*4+c+(0+1)+1+1+1+1 by omega]
theorem jc{l:List Bnd}{k:Nat}(h:k<l.length):(∀u:Nat,setCells (dD l) (k*4) [.int .i64 (u:Int)]=some (dD (l.set k {l[k]with used:=u})))/\(∀u:Nat,setCells (dD l) (k*4+1) [.int .i64 (u:Int)]=some (dD (l.set k {l[k]with live:=u})))/\(∀u:Int,setCells (dD l) (k*4+2) [.int .u64 u]=some (dD (l.set k {l[k]with age:=u}))):=
 ⟨fun u=>sX 0 (by omega) _ (fun x=>{x with used:=u}) (fun _=>rfl) l k h,fun u=>sX 1 (by omega) _ (fun x=>{x with live:=u}) (fun _=>rfl) l k h,fun u=>sX 2 (by omega) _ (fun x=>{x with age:=u}) (fun _=>rfl) l k h⟩
theorem pH{sz:Nat}(h:SlZ sz M n0 N v len cs)(h0:0<len):du (.tuple #[v,.int .i64 0])=false:=by
 rcases h with⟨q,_⟩|⟨_,_,b,rfl,_⟩
 ·omega
 ·rfl
theorem zy{i:Ids}{l:List Bnd}(h:BsW i pb m n v l)(hk:k<l.length)(h1:1<=l[k].live)(h2:l[k].live<=100):
  Rt (df PG EL Y 120 [v,.int .i64 (k:Int)] m n) fun r m' n' w=>n<=n'/\(∀b,b<n->m' b=m b)/\(∀j,j<=n->Nat.mod w (bit j)=0)/\∃v',r=.tuple #[v',.int .i64 0]/\SlZ 4 m' n n' v' (l.set k {l[k]with live:=l[k].live-1}).length (dD (l.set k {l[k]with live:=l[k].live-1})):=by
 refine ez (R:=fun r m' n'=>∃v',r=.tuple #[v',.int .i64 0]/\SlZ 4 m' n n' v' (l.set k {l[k]with live:=l[k].live-1}).length (dD (l.set k {l[k]with live:=l[k].live-1}))) e120 rfl fun Q hQ=>?_
 obtain⟨p1,p2,p3,p4⟩:=h.p
 simp only[JY]
 simp -implicitDefEqProofs (disch:=omega)only[W2,dd,Nat.testBit,Nat.reduceAdd,Nat.reduceShiftRight,Nat.reduceAnd,Nat.reduceBNe,Nat.reduceMul,p2]
 refine dw (nq h hk (l':=l.set k {l[k]with live:=l[k].live-1}) (by rw[List.length_set]) (f:=171) (cs:=[]) rfl fun m2 n2 nb hb1 hb2 hf2 hm2=>?_) fun r2 m2 n2 r3 w2 hh=>?_
 ·obtain⟨c1,c2,c3,c4,c5⟩:=eM hk
  have hs:=(jc hk).2.1 (l[k].live-1)
  refine(dY (R:=fun r m3 n3 w=>r=.int .i64 0/\n2<=n3/\(∀b,b<n2->b≠nb->m3 b=m2 b/\Nat.testBit w b=false)/\m3 nb=some (.cells (dD (l.set k {l[k]with live:=l[k].live-1})) 4 true true)) e171 rfl hb2 fun Q hQ=>?_).mono fun r m3 n3 w hh=>hh.2
  simp only[Js]
  simp -implicitDefEqProofs (disch:=omega)only[W2,dd,Nat.testBit,Nat.reduceAdd,Nat.reduceShiftRight,Nat.reduceAnd,Nat.reduceBNe,Nat.reduceMul,hm2,c3,hs]
  exact hQ _ _ _ _ _ (by rw[dn];simp) ⟨rfl,Nat.le_refl _,fun b hb hne=>⟨dc _ _ _ _ hne,dh hne⟩,de _ _ _⟩
 ·obtain⟨q1,q2,q3,v',rfl,q4⟩:=hh
  simp -implicitDefEqProofs (disch:=omega)only[W2,dd,Nat.testBit,Nat.reduceAdd,Nat.reduceShiftRight,Nat.reduceAnd,Nat.reduceBNe,Nat.reduceMul,dH]
  refine hQ _ _ _ _ _ q1 q2 (by simp -implicitDefEqProofs (disch:=omega)only[W2,dd,Nat.testBit,Nat.reduceAdd,Nat.reduceShiftRight,Nat.reduceAnd,Nat.reduceBNe,Nat.reduceMul,q3 n (Nat.le_refl _)]) ?_ ⟨v',rfl,q4⟩
  exact pH q4 (by rw[List.length_set];omega)
theorem BA{i:Ids}{l:List Bnd}(h:BsW i pb m n v l)(hk:k<l.length):
  Rt (df PG EL Y 75 [v,.int .i64 (k:Int)] m n) fun r m' n' w=>n<=n'/\(∀b,b<n->m' b=m b)/\(∀j,j<=n->Nat.mod w (bit j)=0)/\∃v' wr,r=.tuple #[v',.int .i64 0]/\SlZ 4 m' n n' v' (l.set k ⟨0,0,0,wr⟩).length (dD (l.set k ⟨0,0,0,wr⟩)):=by
 obtain⟨p1,p2,p3,p4⟩:=h.p
 refine ez (R:=fun r m' n'=>∃v' wr,r=.tuple #[v',.int .i64 0]/\SlZ 4 m' n n' v' (l.set k ⟨0,0,0,wr⟩).length (dD (l.set k ⟨0,0,0,wr⟩))) e75 rfl fun Q hQ=>?_
 simp only[OY]
 simp -implicitDefEqProofs (disch:=omega)only[W2,dd,Nat.testBit,Nat.reduceAdd,Nat.reduceShiftRight,Nat.reduceAnd,Nat.reduceBNe,Nat.reduceMul,p2]
 refine dw (nq h hk (l':=l.set k ⟨0,0,0,IntKind.u64.wrap (l[k].wear+1)⟩) (by rw[List.length_set]) (f:=122) (cs:=[]) rfl fun m2 n2 nb hb1 hb2 hf2 hm2=>?_) fun r2 m2 n2 r3 w2 hh=>?_
 ·obtain⟨c1,c2,c3,c4,c5⟩:=eM hk
  have hs:setCells (dD l) (k*4) [.int .i64 0,.int .i64 0,.int .u64 0,.int .u64 (IntKind.u64.wrap (l[k].wear+1))]=some (dD (l.set k ⟨0,0,0,IntKind.u64.wrap (l[k].wear+1)⟩)):=C6 l k hk ⟨0,0,0,IntKind.u64.wrap (l[k].wear+1)⟩
  refine(dY (R:=fun r m3 n3 w=>r=.int .i64 0/\n2<=n3/\(∀b,b<n2->b≠nb->m3 b=m2 b/\Nat.testBit w b=false)/\m3 nb=some (.cells (dD (l.set k ⟨0,0,0,IntKind.u64.wrap (l[k].wear+1)⟩)) 4 true true)) e122 rfl hb2 fun Q hQ=>?_).mono fun r m3 n3 w hh=>hh.2
  simp only[JW]
  simp -implicitDefEqProofs (disch:=omega)only[W2,dd,Nat.testBit,Nat.reduceAdd,Nat.reduceShiftRight,Nat.reduceAnd,Nat.reduceBNe,Nat.reduceMul,hm2,c5,hs]
  exact hQ _ _ _ _ _ (by rw[dn];simp) ⟨rfl,Nat.le_refl _,fun b hb hne=>⟨dc _ _ _ _ hne,dh hne⟩,de _ _ _⟩
 ·obtain⟨q1,q2,q3,v',rfl,q4⟩:=hh
  simp -implicitDefEqProofs (disch:=omega)only[W2,dd,Nat.testBit,Nat.reduceAdd,Nat.reduceShiftRight,Nat.reduceAnd,Nat.reduceBNe,Nat.reduceMul,dH]
  refine hQ _ _ _ _ _ q1 q2 (by simp -implicitDefEqProofs (disch:=omega)only[W2,dd,Nat.testBit,Nat.reduceAdd,Nat.reduceShiftRight,Nat.reduceAnd,Nat.reduceBNe,Nat.reduceMul,q3 n (Nat.le_refl _)]) ?_ ⟨v',_,rfl,q4⟩
  exact pH q4 (by rw[List.length_set];omega)
theorem yR{i:Ids}{l:List Bnd}(h:BsW i pb m n v l){k S:Nat}(hk:k<l.length)(h1:l[k].used<S)(h2:l[k].live<=100)(hS:S<=100)(t:Int):
  Rt (df PG EL Y 114 [v,.int .i64 (S:Int),.int .i64 (k:Int),.int .u64 t] m n) fun r m' n' w=>n<=n'/\(∀b,b<n->m' b=m b)/\(∀j,j<=n->Nat.mod w (bit j)=0)/\∃v',r=.tuple #[v',.int .i64 0]/\SlZ 4 m' n n' v' (l.set k ⟨l[k].used+1,l[k].live+1,t,l[k].wear⟩).length (dD (l.set k ⟨l[k].used+1,l[k].live+1,t,l[k].wear⟩)):=by
 obtain⟨p1,p2,p3,p4⟩:=h.p
 refine ez (R:=fun r m' n'=>∃v',r=.tuple #[v',.int .i64 0]/\SlZ 4 m' n n' v' (l.set k ⟨l[k].used+1,l[k].live+1,t,l[k].wear⟩).length (dD (l.set k ⟨l[k].used+1,l[k].live+1,t,l[k].wear⟩))) e114 rfl fun Q hQ=>?_
 simp only[J4]
 simp -implicitDefEqProofs (disch:=omega)only[W2,dd,Nat.testBit,Nat.reduceAdd,Nat.reduceShiftRight,Nat.reduceAnd,Nat.reduceBNe,Nat.reduceMul,p2,gj]
 generalize hM1:(AMem.put (AMem.put m n _) (n+1) _:FM)=M1
 have l1:∀b,b<n->M1 b=m b:=fun b hb=>by rw[<-hM1,dc _ _ _ _ (by omega),dc _ _ _ _ (by omega)]
 have q0:M1 n=some (.cells [.int .i64 (S:Int)] 0 false true):=by rw[<-hM1,dc _ _ _ _ (by omega)];exact de _ _ _
 have q1:M1 (n+1)=some (.cells [.int .u64 t] 0 false true):=by rw[<-hM1];exact de _ _ _
 refine dw (nq (h.dF (show n<=n+2 by omega) l1) hk (l':=l.set k ⟨l[k].used+1,l[k].live+1,t,l[k].wear⟩) (by rw[List.length_set]) (f:=154) (cs:=[.pointer (some ⟨n,0,none⟩),.pointer (some ⟨n+1,0,none⟩)]) (by simp[pc,dC]) fun m2 n2 nb hb1 hb2 hf2 hm2=>?_) fun r2 m2 n2 r3 w2 hh=>?_
 ·obtain⟨c1,c2,c3,c4,c5⟩:=eM hk
  have z0:=(hf2 n (by omega)).trans q0
  have z1:=(hf2 (n+1) (by omega)).trans q1
  have hs1:=(jc hk).1 (l[k].used+1)
  refine(dY (R:=fun r m3 n3 w=>r=.int .i64 0/\n2<=n3/\(∀b,b<n2->b≠nb->m3 b=m2 b/\Nat.testBit w b=false)/\m3 nb=some (.cells (dD (l.set k ⟨l[k].used+1,l[k].live+1,t,l[k].wear⟩)) 4 true true)) e154 rfl hb2 fun Q hQ=>?_).mono fun r m3 n3 w hh=>hh.2
  have hk1:k<(l.set k {l[k]with used:=l[k].used+1}).length:=by rw[List.length_set];exact hk
  obtain⟨d1,d2,d3,d4,d5⟩:=eM hk1
  have hs2:=(jc hk1).2.1 (l[k].live+1)
  simp only[List.getElem_set_self,List.set_set]at d3 hs2
  have hk2:k<(l.set k {l[k]with used:=l[k].used+1,live:=l[k].live+1}).length:=by rw[List.length_set];exact hk
  have hs3:=(jc hk2).2.2 t
  simp only[List.getElem_set_self,List.set_set]at hs3
  simp only[Jz]
  simp -implicitDefEqProofs (disch:=omega)only[W2,dd,Nat.testBit,Nat.reduceAdd,Nat.reduceShiftRight,Nat.reduceAnd,Nat.reduceBNe,Nat.reduceMul,hm2,c2,hs1,d3,hs2,hs3,z0,z1]
  exact hQ _ _ _ _ _ (by simp only[c9,dn];simp) ⟨rfl,Nat.le_refl _,fun b hb hne=>⟨dc _ _ _ _ hne,by simp only[c9,dh hne];rfl⟩,de _ _ _⟩
 ·obtain⟨z1,z2,z3,v',rfl,z4⟩:=hh
  simp -implicitDefEqProofs (disch:=omega)only[W2,dd,Nat.testBit,Nat.reduceAdd,Nat.reduceShiftRight,Nat.reduceAnd,Nat.reduceBNe,Nat.reduceMul,dH]
  refine hQ _ _ _ _ _ (by omega) (fun b hb=>by rw[z2 b (by omega),l1 b hb]) ?_ ?_ ⟨v',rfl,z4.low (by omega)⟩
  ·simp only[eL];exact⟨⟨dE (Nat.le_refl _),dE (by omega)⟩,z3 n (by omega)⟩
  ·exact pH z4 (by rw[List.length_set];omega)
def BOk(S:Nat)(l:List Bnd):Prop:=∀x∈l,x.live<=x.used/\x.used<=S
theorem v170(m:FM)(n:Nat)(hb:b<n)(hm:m b=some (.cells [.int .i64 (S:Int)] 0 false true))(x:Bnd)(h1:x.live<=x.used)(h2:x.used<=S):Pure (df PG EL Y 156 [.agg #[.int .i64 (x.used:Int),.int .i64 (x.live:Int),.int .u64 x.age,.int .u64 x.wear],.pointer (some ⟨b,0,none⟩)] m n) m n (.bool false):=by
 refine dz e156 rfl rfl ?_
 simp only[Jx]
 simp -implicitDefEqProofs (disch:=omega)only[W2,dd,Nat.testBit,Nat.reduceAdd,Nat.reduceShiftRight,Nat.reduceAnd,Nat.reduceBNe,Nat.reduceMul,hm]
theorem Kr{i:Ids}{l:List Bnd}(h:BsW i pb m n v l)(hb:b<n)(hm:m b=some (.cells [.int .i64 (S:Int)] 0 false true))(ho:BOk S l)(x4:Value){Q:AX->List Value->FM->Nat->Nat->Prop}
  (hQ:∀x0 x1 x2,Q (.exit 0) [x0,x1,x2,x4,v,.func (.func 156) #[] #[.pointer (some ⟨b,0,none⟩)]] m n 0):
  ∀(d j:Nat),j+d=l.length->∀(x0 x2:Value),
  Gv (dt PG EL Y tg [x0,.int .i64 (j:Int),x2,.int .i64 (l.length:Int),x4,v,.func (.func 156) #[] #[.pointer (some ⟨b,0,none⟩)]] m n) Q:=by
 obtain⟨p1,p2,p3,p4⟩:=h.p
 obtain⟨ab,hi,hab,_,_,opn,wr,hma⟩:=h.at
 obtain⟨_,_,_,_,_,_,_,_,_,_,hl5⟩:=h
 intro d
 induction d with
 |zero=>
  intro j hj x0 x2
  refine dm (L:=tg) (b:=nA) rfl ?_
  simp only[nA]
  obtain rfl:j=l.length:=by omega
  simp -implicitDefEqProofs (disch:=omega)only[W2,dd,Nat.testBit,Nat.reduceAdd,Nat.reduceShiftRight,Nat.reduceAnd,Nat.reduceBNe,Nat.reduceMul]
  exact hQ _ _ _
 |succ d ih=>
  intro j hj x0 x2
  obtain⟨c1,c2,c3,c4,c5⟩:=eM (l:=l) (j:=j) (by omega)
  have hix:=hi j (by omega)
  obtain⟨o1,o2⟩:=ho _ (List.getElem_mem (show j<l.length by omega))
  refine dm (L:=tg) (b:=nA) rfl ?_
  simp only[nA]
  simp -implicitDefEqProofs (disch:=omega)only[W2,dd,Nat.testBit,Nat.reduceAdd,Nat.reduceShiftRight,Nat.reduceAnd,Nat.reduceBNe,Nat.reduceMul,p2,hix,hma,c1,jw,ml,List.cons_append,List.nil_append]
  refine di (v170 m n hb hm l[j] o1 o2) fun r1=>?_
  simp -implicitDefEqProofs (disch:=omega)only[W2,dd,Nat.testBit,Nat.reduceAdd,Nat.reduceShiftRight,Nat.reduceAnd,Nat.reduceBNe,Nat.reduceMul]
  refine dM (ih (j+1) (by omega) _ _) fun X e m n w hq=>?_
  rwa [dx]
theorem v169{i:Ids}{l:List Bnd}(h:BsW i pb m n v l)(hb:b<n)(hm:m b=some (.cells [.int .i64 (S:Int)] 0 false true))(ho:BOk S l):Pure (df PG EL Y 155 [v,.func (.func 156) #[] #[.pointer (some ⟨b,0,none⟩)]] m n) m n (.bool false):=by
 obtain⟨p1,p2,p3,p4⟩:=h.p
 have h192':Pure (df PG EL Y 203 [v,.func (.func 156) #[] #[.pointer (some ⟨b,0,none⟩)]] m n) m n (.int .i64 (-1)):=by
  refine dz e203 rfl rfl ?_
  simp only[Je]
  simp -implicitDefEqProofs (disch:=omega)only[W2,dd,Nat.testBit,Nat.reduceAdd,Nat.reduceShiftRight,Nat.reduceAnd,Nat.reduceBNe,Nat.reduceMul,p1,p2]
  refine dS ((Kr h hb hm ho _ (fun x0 x1 x2=>?_) l.length 0 (Nat.zero_add _) _ _).mono fun X e m' n' w hq=>by simpa only[dx]using hq)
  intro rr
  simp -implicitDefEqProofs (disch:=omega)only[W2,dd,Nat.testBit,Nat.reduceAdd,Nat.reduceShiftRight,Nat.reduceAnd,Nat.reduceBNe,Nat.reduceMul]
 refine dz e155 rfl rfl ?_
 simp only[Jy]
 simp -implicitDefEqProofs (disch:=omega)only[W2,dd,Nat.testBit,Nat.reduceAdd,Nat.reduceShiftRight,Nat.reduceAnd,Nat.reduceBNe,Nat.reduceMul,p2]
 refine di h192' fun r1=>?_
 simp -implicitDefEqProofs (disch:=omega)only[W2,dd,Nat.testBit,Nat.reduceAdd,Nat.reduceShiftRight,Nat.reduceAnd,Nat.reduceBNe,Nat.reduceMul]
theorem sD{i:Ids}{l:List Bnd}(h:BsW i pb m n v l)(hS:1<=S)(hS2:S<=100)(ho:BOk S l):Pure (df PG EL Y 115 [v,.int .i64 (S:Int)] m n) m n (.bool true):=by
 obtain⟨p1,p2,p3,p4⟩:=h.p
 have hl:0<l.length/\l.length<=5:=by obtain⟨_,_,_,_,_,_,_,_,_,h6,h7⟩:=h;exact⟨h6,h7⟩
 refine dz e115 rfl rfl ?_
 simp only[J3]
 simp -implicitDefEqProofs (disch:=omega)only[W2,dd,Nat.testBit,Nat.reduceAdd,Nat.reduceShiftRight,Nat.reduceAnd,Nat.reduceBNe,Nat.reduceMul,p1,p2,gj]
 generalize hM1:(AMem.put m n _:FM)=M1
 have l1:∀b,b<n->M1 b=m b:=fun b hb=>by rw[<-hM1,dc _ _ _ _ (by omega)]
 have l0:M1 n=some (.cells [.int .i64 (S:Int)] 0 false true):=by rw[<-hM1];exact de _ _ _
 refine di (v169 (h.dF (show n<=n+1 by omega) l1) (by omega) l0 ho) fun r1=>?_
 simp -implicitDefEqProofs (disch:=omega)only[W2,dd,Nat.testBit,Nat.reduceAdd,Nat.reduceShiftRight,Nat.reduceAnd,Nat.reduceBNe,Nat.reduceMul]
end Go.Am.CD
