/- The machine and its runs, part 15. -/
import Derived.Laws.Shifts
import Derived.Test.YtiibhndkoknmnaaGreatDoorB14
set_option linter.unusedVariables false
set_option linter.unusedSimpArgs false
open Go renaming Value→AT,Addr→VD
open Nat renaming reduceAdd→to,zero_le→Tq,eq_zero_or_pos→Ug,testBit→U5,reduceShiftRight→AS,reduceAnd→By,reduceBNe→BY,le_refl→IN,le_trans→Tz,mod→SL,le_succ→Tf,zero_mod→Wa,lt_succ_self→Td,zero_add→TU,beq_refl→UA,mod_eq_of_lt→Vm,beq→SF,ble→Tj,blt→Te,lt_of_lt_of_le→TC,mul_le_mul_right→Yf
open Bool renaming not_true→SY,not_false→SS
open List renaming mem_singleton→SX,range'→TX,append_nil→SN,nodup_range'→YA,length_eq_zero_iff→SV,map_append→Uu,map_cons→Uc,all_cons→WZ,length_append→IT,take_left→XN,length_cons→SA,length_singleton→Tu,append_assoc→S6,length→U9,nil_append→SJ,length_map→SC,getElem_mem→Tb,flatMap_cons→TO
open BitVec renaming ofInt→Ui,ofInt_natCast→Ws,toNat_ofNat→VM
open Go.IntKind renaming wrap→WH,signed→Wp,bits→WI
open Int renaming emod_eq_of_lt→Xd
open Go.Am.AMem renaming put→If
namespace Go.Am.CR
set_option maxRecDepth 100000
open Go Go.Am
variable{Y:Nat->List AT->FM->Nat->OR FM}
variable{n N S b rb a n0 x N' i lb:Nat}{m M M':FM}{v lv cv mv:AT}{vs:List Vo}{bs L full K ns rest:List Nat}
set_option maxHeartbeats 8000000 in
theorem Hf(hT:nK Y)(m:FM)(n:Nat)(c:Cmd)(d:AT)(hF:c.Fit)(hc:jn m n d c.data)(hh:kV c)(hk:c.kind=6):
  Pure (fL PG EL Y 18 [jx c d] m n) m n (.bool (jJ c)):=by
 obtain⟨hNv,hNo,hIn,hOn⟩:=FQ7 hT d hF hc;refine gC e18 rfl rfl ?_;simp only[Ab,jx];rcases hh.2.2 with t4|t4
 all_goals
  have t1:=hh.1;have t2:=hh.2.1;by_cases nv:j5 c.vol
  case neg=>
   rw[iP λh=>nv ((xe hk).1 h).2.1]
   repeat (first|refine fF (by first|exact hOn _ _|exact hNv _ _|exact hNo _ _|exact hIn _ _) λ_=>?_|simp(disch:=omega)only[W_,eu,to,hc.one,hc.len,hc.bel,STs,SY,SS,mz nv])
  by_cases nq:j5 c.oth
  case neg=>
   rw[iP λh=>nq ((xe hk).1 h).2.2.1]
   repeat (first|refine fF (by first|exact hOn _ _|exact hNv _ _|exact hNo _ _|exact hIn _ _) λ_=>?_|simp(disch:=omega)only[W_,eu,to,hc.one,hc.len,hc.bel,STs,SY,SS,iN nv,mz nq])
  by_cases hne:c.oth≠c.vol
  case neg=>
   rw[iP λh=>hne ((xe hk).1 h).2.2.2.1]
   repeat (first|refine fF (by first|exact hOn _ _|exact hNv _ _|exact hNo _ _|exact hIn _ _) λ_=>?_|simp(disch:=omega)only[W_,eu,to,hc.one,hc.len,hc.bel,STs,SY,SS,iN nv,iN nq,decide_eq_true (Classical.not_not.1 hne)])
  rw[vs_6 hh hk nv nq hne]
  repeat (first|refine fF (by first|exact hOn _ _|exact hNv _ _|exact hNo _ _|exact hIn _ _) λ_=>?_|simp(disch:=omega)only[W_,eu,to,hc.one,hc.len,hc.bel,STs,SY,SS,iN nv,iN nq,decide_eq_false hne])
  refine fF (mL _ _ c (LW c) d (.slice none 0 0) (hc.frame (by omega) λb hb=>by simp(disch:=omega)only[W_,eu,to]) (jn.nil _ _) hF.data (Tq _)) λ_=>?_
  repeat (first|refine fF (by first|exact hOn _ _|exact hNv _ _|exact hNo _ _|exact hIn _ _) λ_=>?_|simp(disch:=omega)only[W_,eu,to,hc.one,hc.len,hc.bel,STs,SY,SS,iN nv,iN nq,decide_eq_false hne])
set_option maxHeartbeats 8000000 in
theorem He(hT:nK Y)(m:FM)(n:Nat)(c:Cmd)(d:AT)(hF:c.Fit)(hc:jn m n d c.data)(hh:kV c)(hk:c.kind=7):
  Pure (fL PG EL Y 18 [jx c d] m n) m n (.bool (jJ c)):=by
 obtain⟨hNv,hNo,hIn,hOn⟩:=FQ7 hT d hF hc;refine gC e18 rfl rfl ?_;simp only[Ab,jx];rcases hh.2.2 with t4|t4
 all_goals
  have t1:=hh.1;have t2:=hh.2.1;by_cases nv:j5 c.vol
  case neg=>
   rw[iP λh=>nv ((H4 hk).1 h).2.1]
   repeat (first|refine fF (by first|exact hOn _ _|exact hNv _ _|exact hNo _ _|exact hIn _ _) λ_=>?_|simp(disch:=omega)only[W_,eu,to,hc.one,hc.len,hc.bel,STs,SY,SS,mz nv])
  rw[vs_7 hh hk nv]
  repeat (first|refine fF (by first|exact hOn _ _|exact hNv _ _|exact hNo _ _|exact hIn _ _) λ_=>?_|simp(disch:=omega)only[W_,eu,to,hc.one,hc.len,hc.bel,STs,SY,SS,iN nv])
  refine fF (mL _ _ c (LV c) d (.slice none 0 0) (hc.frame (by omega) λb hb=>by simp(disch:=omega)only[W_,eu,to]) (jn.nil _ _) hF.data (Tq _)) λ_=>?_
  repeat (first|refine fF (by first|exact hOn _ _|exact hNv _ _|exact hNo _ _|exact hIn _ _) λ_=>?_|simp(disch:=omega)only[W_,eu,to,hc.one,hc.len,hc.bel,STs,SY,SS,iN nv])
set_option maxHeartbeats 8000000 in
theorem Hd(hT:nK Y)(m:FM)(n:Nat)(c:Cmd)(d:AT)(hF:c.Fit)(hc:jn m n d c.data)(hh:kV c)(hk:¬(1<=c.kind/\c.kind<=7)):
  Pure (fL PG EL Y 18 [jx c d] m n) m n (.bool (jJ c)):=by
 obtain⟨hNv,hNo,hIn,hOn⟩:=FQ7 hT d hF hc;refine gC e18 rfl rfl ?_;simp only[Ab,jx];rcases hh.2.2 with t4|t4
 all_goals
  have t1:=hh.1;have t2:=hh.2.1;rw[iP (Rr hk)]
  repeat (first|refine fF (by first|exact hOn _ _|exact hNv _ _|exact hNo _ _|exact hIn _ _) λ_=>?_|simp(disch:=omega)only[W_,eu,to,hc.one,hc.len,hc.bel,STs,SY,SS])
set_option maxHeartbeats 8000000 in
theorem Ap(hT:nK Y)(m:FM)(n:Nat)(c:Cmd)(d:AT)(hF:c.Fit)(hc:jn m n d c.data):
  Pure (fL PG EL Y 18 [jx c d] m n) m n (.bool (jJ c)):=by
 by_cases hh:kV c
 case pos=>
  by_cases k1:c.kind=1
  ·exact Hk hT m n c d hF hc hh k1
  by_cases k2:c.kind=2
  ·exact Hj hT m n c d hF hc hh k2
  by_cases k3:c.kind=3
  ·exact Hi hT m n c d hF hc hh k3
  by_cases k4:c.kind=4
  ·exact Hh hT m n c d hF hc hh k4
  by_cases k5:c.kind=5
  ·exact Hg hT m n c d hF hc hh k5
  by_cases k6:c.kind=6
  ·exact Hf hT m n c d hF hc hh k6
  by_cases k7:c.kind=7
  ·exact He hT m n c d hF hc hh k7
  exact Hd hT m n c d hF hc hh (by omega)
 obtain⟨hNv,hNo,hIn,hOn⟩:=FQ7 hT d hF hc;refine gC e18 rfl rfl ?_;simp only[Ab,jx];rw[iP λh=>hh h.1];by_cases t1:c.tag<0
 case pos=>repeat (first|refine fF (by first|exact hOn _ _|exact hNv _ _|exact hNo _ _|exact hIn _ _) λ_=>?_|simp(disch:=omega)only[W_,eu,to,hc.one,dW hc.one,hc.len,hc.bel,STs,SY,SS])
 by_cases t2:2147483647<c.tag
 case pos=>repeat (first|refine fF (by first|exact hOn _ _|exact hNv _ _|exact hNo _ _|exact hIn _ _) λ_=>?_|simp(disch:=omega)only[W_,eu,to,hc.one,dW hc.one,hc.len,hc.bel,STs,SY,SS])
 have t3:¬(c.ord=0\/c.ord=1):=λh=>hh ⟨by omega,by omega,h⟩
 repeat (first|refine fF (by first|exact hOn _ _|exact hNv _ _|exact hNo _ _|exact hIn _ _) λ_=>?_|simp(disch:=omega)only[W_,eu,to,hc.one,dW hc.one,hc.len,hc.bel,STs,SY,SS])
def j6(S:Nat)(M:FM)(N b:Nat)(vs:List Vo):Prop:=b<N/\∃cv mv,M b=some (.cells [cv,mv] 0 false true)/\FamR S M N cv mv vs
def mP(b:Nat):AT:=.pointer (some ⟨b,0,none⟩)
theorem j6.frame{M':FM}{N N' b:Nat}(h:j6 S M N b vs)(hN:N<=N')(hf:∀b,b<N->M' b=M b):j6 S M' N' b vs:=let⟨h1,cv,mv,h2,h3⟩:=h;⟨by omega,cv,mv,(hf b h1).trans h2,h3.frame hN hf⟩
theorem lg(a:VD):nk PG .eql 44 (.pointer (some a)) (.pointer none)=some (.bool false):=by rw[qB (by kernel_rfl)];rfl
theorem Kw{S:Nat}{m:FM}{n b:Nat}(h:j6 S m n b vs)(hI:Inv S vs)(hS:S<=65536){s:ByteArray}{v:Vo}(hv:gK vs s=some v){a:Nat}(ha:a<=v.n):∃t:Nat,t<=S/\Pure (fL PG EL Y 189 [mP b,.string s,.int .i64 (a:Int)] m n) m n (.int .i64 (t:Int)):=by
 obtain⟨hb,cv,mv,hm,hF⟩:=h;have hvo:=hI.found hv;have hn2:=hvo.n2;have o1:=hF.c.one;have o2:=hF.m.one;rcases Ug a with rfl|hp
 ·refine⟨0,Tq _,gC ael rfl rfl ?_⟩;simp only[FB,mP];obtain⟨e,he,r,hx⟩:=GG (Y:=Y) hF (s:=s) (a:=(-1:Int)) (λv' hv'=>⟨(hI.found hv').n2,by omega⟩) (by omega);simp only[fV]at hx;have hI0:((0:Nat):Int)-1=-1:=by omega
  simp(disch:=omega)only[W_,eu,to,U5,AS,By,BY,hm,o1,o2,hI0,hx]
  first|done|rfl
 ·obtain⟨a,rfl⟩:∃j,a=j+1:=⟨a-1,by omega⟩;obtain⟨r,hx⟩:=rE (Y:=Y) hF hv hn2 (a:=a) (by omega);simp only[fV]at hx;have hI1:((a+1:Nat):Int)-1=(a:Int):=by omega
  cases hl:lk v.P a with
  |none=>
   rw[hl,zg]at hx;refine⟨0,Tq _,gC ael rfl rfl ?_⟩;simp only[FB,mP];simp(disch:=omega)only[W_,eu,to,U5,AS,By,BY,hm,o1,o2,hI1,hx]
   first|done|rfl
  |some z=>rw[hl,zg]at hx;have hz:=hvo.sl _ ((oU hvo.sp).1 hl);dsimp only at hz;refine⟨z+1,hz,gC ael rfl rfl ?_⟩;simp only[FB,mP];simp(disch:=omega)only[W_,eu,to,U5,AS,By,BY,hm,o1,o2,hI1,hx]
theorem AN{S:Nat}(hS:S<=65536)(h0:0<S):Kp (fL PG EL Y 11 [.int .i64 (S:Int)] m n) m n λr m' n'=>∃b,r=.tuple #[mP b,.int .i64 0]/\n<=b/\j6 S m' n' b []:=by refine gG (R:=λr m' n'=>∃b,r=.tuple #[mP b,.int .i64 0]/\n<=b/\j6 S m' n' b []) e11 rfl λQ hQ=>?_;simp only[afx];simp(disch:=omega)only[W_,eu,to,U5,AS,By,BY];refine fI (J9 hS h0) λv1 M1 n1 r1 w1 ⟨k1,f1,g1,cv,hv1,F1⟩=>?_;subst hv1;have o1:=F1.c.one;have q1:=F1.c.gU;simp(disch:=omega)only[W_,eu,to,U5,AS,By,BY,fV,o1,q1,dW o1,kc];have ff:∀b,b<n1->(If (If M1 n1 (some (.cells [cv,.map none] 0 false true))) (n1+1) (some (.cells [cv,.map none] 0 false true)):FM) b=M1 b:=λb hb=>(en _ _ _ _ (by omega)).trans (en _ _ _ _ (by omega));exact hQ _ _ _ _ _ (by omega) (λb hb=>(ff b (by omega)).trans (f1 b hb)) (by simp(disch:=omega)only[fB,eS,eR,and_self,g1]) rfl ⟨n1+1,rfl,by omega,by omega,cv,.map none,eB _ _ _,F1.frame (by omega) ff⟩
theorem G3(hU:YUp Y)(hY:jf Y)(hC:Ag Y)(h:j6 S m n b vs)(hI:Inv S vs)(hS:S<=65536)(h0:0<S):Kp (fL PG EL Y 187 [mP b] m n) m n λr m' n'=>∃rv R,r=.tuple #[.agg #[.int .i64 (S:Int),rv],.int .i64 0]/\Exs m' n' rv R/\RL R/\(sL R).Perm (ko S vs):=by
 obtain⟨hb,cv,mv,hm,hF⟩:=h;refine gG (R:=λr m' n'=>∃rv R,r=.tuple #[.agg #[.int .i64 (S:Int),rv],.int .i64 0]/\Exs m' n' rv R/\RL R/\(sL R).Perm (ko S vs)) e187 rfl λQ hQ=>?_;simp only[QB,mP];have o1:=hF.c.one;have o2:=hF.m.one;simp(disch:=omega)only[W_,eu,to,U5,AS,By,BY,hm,o1,o2];have fr:∀b,b<n->(If m n (some (.cells [.int .i64 0,.slice none 0 0] 0 false true)):FM) b=m b:=λb hb=>gu;have t0:=eB m n (some (.cells [.int .i64 0,.slice none 0 0] 0 false true));have F0:=hF.frame (N':=n+1) (by omega) fr;have m0:=(fr b hb).trans hm;revert fr t0 F0 m0;generalize (If m n (some (.cells [.int .i64 0,.slice none 0 0] 0 false true)):FM)=M0;intro fr t0 F0 m0;refine fF (DA F0) λr1=>?_;simp(disch:=omega)only[W_,eu,to,U5,AS,By,BY];refine fI (Ka (S:=S) hS h0) λv2 M2 n2 r2 w2 ⟨k2,f2,g2,rv2,hv2,E2⟩=>?_;subst hv2;have oe:=E2.one;have qe:=E2.gU;have qea:=E2.gO;simp(disch:=omega)only[W_,eu,to,U5,AS,By,BY,oe,qe,qea,dW oe];have f3:∀b,b<n2->(If M2 n2 (some (.cells [.int .i64 (S:Int),rv2] 0 false true)):FM) b=M2 b:=λb hb=>gu;have t3:=eB M2 n2 (some (.cells [.int .i64 (S:Int),rv2] 0 false true));have E3:=E2.frame (N':=n2+1) (by omega) f3;have F3:=(F0.frame k2 f2).frame (N':=n2+1) (by omega) f3;have m3:=(f3 b (by omega)).trans ((f2 b (by omega)).trans m0);have z3:=(f3 n (by omega)).trans ((f2 n (by omega)).trans t0);have ff3:∀b,b<n->(If M2 n2 (some (.cells [.int .i64 (S:Int),rv2] 0 false true)):FM) b=m b:=λb hb=>(f3 b (by omega)).trans ((f2 b (by omega)).trans (fr b hb));revert f3 t3 E3 F3 m3 z3 ff3;generalize (If M2 n2 (some (.cells [.int .i64 (S:Int),rv2] 0 false true)):FM)=M3;intro f3 t3 E3 F3 m3 z3 ff3;have q3:=E3.gU;have hR1:RL [⟨0,S,0⟩]:=λx hx=>by obtain rfl:=SX.1 hx;exact⟨h0,by dsimp only;omega,rfl⟩
 have hs1:sL [⟨0,S,0⟩]=TX 0 S:=by rw[iM,lI,SN,iz]
 refine gP (Gc E3 (by simp)) λv4 M4 n4 r4 w4 ⟨k4,f4,g4,E4⟩=>?_;have o4:=E4.one;have q4a:=E4.gO;have q4:=E4.gU;have La:=gE (g4 (n2+1) (IN _)) (show n2<n2+1 by omega);have E3':=E3.frame k4 f4;have q5:=E3'.gU;have q5a:=E3'.gO;simp(disch:=omega)only[W_,eu,to,U5,AS,By,BY,o4,q4,q4a,q5,q5a,La];refine gP (AV hY (S:=S) E4 E3' hR1 (by rw[hs1];exact YA) (by rw[gH,jC];omega) hS (λx hx=>by obtain rfl:=SX.1 hx;exact⟨h0,by dsimp only;omega,rfl⟩) (by rw[hs1];exact YA) (λs hs=>hs)) λv5 M5 n5 r5 w5 ⟨k5,f5,g5,rv5,R5,hv5,E5,L5,P5⟩=>?_;subst hv5;have o5:=E5.one;have q6:=E5.gU;have q6a:=E5.gO;have t5:=(f5 n2 (by omega)).trans ((f4 n2 (by omega)).trans t3);have Lb:=gE (g5 (n2+1) (by omega)) (show n2<n2+1 by omega);have m5:=(f5 b (by omega)).trans ((f4 b (by omega)).trans m3);have F5:=(F3.frame k4 f4).frame k5 f5;have qc:=F5.c.gU;have qm:=F5.m.gU;have z5:=(f5 n (by omega)).trans ((f4 n (by omega)).trans z3);simp(disch:=omega)only[W_,eu,to,U5,AS,By,BY,o5,q6,q6a,t5,m5,o1,o2,qc,qm,La,Lb,iS,jl,iT,dW o5];have E6:=E5.rn (M':=If M5 n2 (some (.cells [.int .i64 (S:Int),rv5] 0 false true))) t5 (by simp) (λb hb=>en _ _ _ _ hb) (IN _);have t6:=eB M5 n2 (some (.cells [.int .i64 (S:Int),rv5] 0 false true));have f6:∀b,b<n+1->(If M5 n2 (some (.cells [.int .i64 (S:Int),rv5] 0 false true)):FM) b=M3 b:=λb hb=>gJ (by omega) ((f5 b (by omega)).trans (f4 b (by omega)));have F6:FamR S (If M5 n2 (some (.cells [.int .i64 (S:Int),rv5] 0 false true))) n5 cv mv vs:=hF.frame (by omega) λb hb=>(f6 b (by omega)).trans (ff3 b hb);revert E6 t6 f6 F6;generalize (If M5 n2 (some (.cells [.int .i64 (S:Int),rv5] 0 false true)):FM)=M6;intro E6 t6 f6 F6;have hs5:sL R5=[]:=by have:=P5.length_eq;rw[hs1,List.filter_eq_nil_iff.2 (λs hs=>by simp[hs])]at this;exact SV.1 this
 refine gP (zr hY F6 hS) λv7 M7 n7 r7 w7 ⟨k7,f7,g7,R7,E7,N7,S7⟩=>?_;have o7:=E7.one;have q7:=E7.gU;have q7a:=E7.gO;have E6':=E6.frame k7 f7;have q8:=E6'.gU;have Lc:=gE (g7 n5 (IN _)) (show n2<n5 by omega);have Ld:=gE (g7 n5 (IN _)) (show b<n5 by omega);simp(disch:=omega)only[W_,eu,to,U5,AS,By,BY,o7,q7,q7a,q8,Lc,Ld];have hfl:∀s∈ko S vs,s<S:=λs hs=>List.mem_range.1 (List.mem_filter.1 hs).1;have hfn:(ko S vs).Nodup:=List.nodup_range.filter _;have hlen7:lens R7<=65536:=by rw[<-iY,S7];have:=List.length_filter_le (λs=>(slv vs).count s==0) (List.range S);rw[List.length_range]at this;exact Tz this hS
 have hlen5:lens R5=0:=by rw[<-iY,hs5];rfl
 refine gP (KA hY hC (S:=S) E7 E6' L5 hS (λx hx=>by
  have h1:=N7.1 x hx;have h2:x.s+x.n-1∈slo x.pr:=by rw[oS];omega
  have h3:=hfl _ (S7▸(FQ hx).subset h2)
  omega) (by rw[hs5,S7];exact hfn) (by omega)) λv8 M8 n8 r8 w8 ⟨k8,f8,g8,rv8,R8,hv8,E8,L8,D8,P8⟩=>?_
 subst hv8;have o8:=E8.one;have q9:=E8.gU;have q9a:=E8.gO;have z8:=(f8 n (by omega)).trans ((f7 n (by omega)).trans ((f6 n (by omega)).trans z3));have Le:=gE (g8 n5 (by omega)) (show n2<n5 by omega);have Lf:=gE (g8 n5 (by omega)) (show b<n5 by omega);have Lg:=gE (g7 n5 (IN _)) (show n<n5 by omega);have Lh:=gE (g8 n5 (by omega)) (show n<n5 by omega);simp(disch:=omega)only[W_,eu,to,U5,AS,By,BY,o8,q9,q9a,z8,Lc,Ld,Le,Lf,Lg,Lh,iS,jl,iT,dW o8];refine hQ _ _ _ _ _ (by omega) (λb hb=>gJ (by omega) ((f8 b (by omega)).trans ((f7 b (by omega)).trans ((f6 b (by omega)).trans (ff3 b hb))))) (by simp(disch:=omega)only[fB,eS,eR,and_self,g2,g4,g5,g7,g8]) rfl ⟨rv8,R8,rfl,E8.rn z8 (by simp) (λb hb=>en _ _ _ _ hb) (IN _),L8,?_⟩;rw[hs5,S7]at P8;exact P8
def byC(l:List Nat):List AT:=l.map λb:Nat=>Value.int .u8 (b:Int)
theorem pc(l:List Nat):(byC l).length=l.length*1:=by simp[byC]
theorem abB(a b:List Nat):byC (a++b)=byC a++byC b:=Uu ..
theorem xz:∀l:List Nat,(byC l).all Am.one=true
 |[]=>rfl
 |x::xs=>by have:=xz xs;simp only[byC,Uc,WZ]at this ⊢;rw[this];rfl
def Bts(M:FM)(N:Nat)(v:AT)(L:List Nat):Prop:=(L=[]/\v=.slice none 0 0)\/∃b k rest opn wr,v=.slice (some ⟨b,0,none⟩) L.length k/\b<N/\M b=some (.cells (byC L++rest) 1 opn wr)
theorem Bts.nil(M:FM)(N:Nat):Bts M N (.slice none 0 0) []:=.inl ⟨rfl,rfl⟩
theorem Bts.frame{M':FM}{N N':Nat}(h:Bts M N v L)(hN:N<=N')(hf:∀b,b<N->M' b=M b):Bts M' N' v L:=h.imp id λ⟨b,k,rest,opn,wr,h1,h2,h3⟩=>⟨b,k,rest,opn,wr,h1,by omega,(hf b h2).trans h3⟩
theorem Bts.len(h:Bts M N v L):qR false v=some (.int .i64 (L.length:Int)):=by rcases h with⟨rfl,rfl⟩|⟨b,k,rest,opn,wr,rfl,_⟩<;>rfl
theorem Bts.one(h:Bts M N v L):Am.one v=true:=by rcases h with⟨rfl,rfl⟩|⟨b,k,rest,opn,wr,rfl,_⟩<;>rfl
theorem SlZ.bts(h:SlZ 1 M n0 N v L.length (byC L)):Bts M N v L:=by
 rcases h with⟨h0,_,rfl⟩|⟨_,_,b,rfl,_,hb,hm⟩
 ·exact .inl ⟨SV.1 h0,rfl⟩
 ·exact .inr ⟨b,_,[],true,true,rfl,hb,by rw[SN];exact hm⟩
theorem CQ{K:List Nat}(h:SlZ 1 M n0 N v L.length (byC L))(ya:Option VD)(yc ry:Nat)(h0:n0<=N)(hl:L.length+K.length<=1000000):
  Rt (nl 1 1 M N v (.slice ya K.length yc) (shown M N 1 v) (some (byC K,ry))) λv' M' N' w=>N<=N'/\N'<=N+1/\SlZ 1 M' n0 N' v' (L++K).length (byC (L++K))/\(∀b,b<n0->M' b=M b)/\(∀j,j<=n0->SL w (bit j)=0)/\(∀b,b<N->lP v b->M' b=M b)/\(∀b,b<N->lP v b->lP v' b):=by
 rcases h with⟨hL0,hE,rfl⟩|⟨hp,hcl,bx,rfl,hbx,hbN,hM⟩
 ·obtain rfl:=SV.1 hL0;rw[mg,j9,j8,show(byC K,ry).1.all Am.one=true from xz K,gI (show 0<1 by omega),iq (show(0+K.length)*1<=140737488355328 by omega)];rcases Ug K.length with h1|h1
  ·obtain rfl:=SV.1 h1;exact⟨IN _,Tf _,.inl ⟨rfl,rfl,rfl⟩,λ_ _=>rfl,λj _=>Wa _,λ_ _ _=>rfl,λ_ _ h=>h⟩
  ·show Rt (xd M N 1 0 K.length 0 [] (byC K) _ none) _;rw[nu h1];refine⟨Tf _,IN _,.inr ⟨by simpa using h1,pc _,N,?_,h0,Td _,?_⟩,λb hb=>gu,λj hj=>eS (by omega),λb hb _=>gu,λb hb _ l k e=>?_⟩
   ·rw[TU];rfl
   ·exact eB _ _ _
   ·injection e with e;injection e with e;injection e with e;omega
 ·rw[jL hp,ig hbN,hM,jr,UA,ja,kT,lD hcl.symm];show Rt (nl 1 1 M N _ _ (some (byC L,bit bx)) _) _;rw[j9,j8,show(byC K,ry).1.all Am.one=true from xz K,gI (show 0<1 by omega),iq (show(L.length+K.length)*1<=140737488355328 by omega),np,ig hbN,hM,pd];refine⟨Tf _,IN _,.inr ⟨by rw[IT];omega,pc _,N,by rw[IT],h0,Td _,by rw[abB];exact eB _ _ _⟩,λb hb=>by rw[en _ _ _ _ (by omega),en _ _ _ _ (by omega)],λj hj=>(by simp(disch:=omega)only[fB,eS,eR,and_self]),λb hb hk=>by rw[en _ _ _ _ (by omega),en _ _ _ _ (by rintro rfl;exact hk _ _ rfl)],λb hb _ l k e=>?_⟩;injection e with e;injection e with e;injection e with e;omega
theorem NN:mA PG 47=true:=by kernel_rfl
theorem wI(h:Bts m n v L)(hne:L=[]->v=.slice none 0 0)(hl:L.length<=1000000):Rt (fL PG EL Y 94 [v] m n) λv' m' n' w=>n<=n'/\(∀b,b<n->m' b=m b)/\(∀j,j<=n->SL w (bit j)=0)/\SlZ 1 m' n n' v' L.length (byC L):=by
 refine mT (R:=λv' m' n'=>SlZ 1 m' n n' v' L.length (byC L)) e94 rfl λQ hQ=>?_;simp only[aeK];have o:=h.one;rcases h with⟨rfl,rfl⟩|⟨b,k,rest,opn,wr,rfl,hb,hm⟩
 ·simp(disch:=omega)only[W_,eu,to,mU NN,isNone_none];exact hQ _ _ _ _ _ (IN _) (λ_ _=>rfl) (by simp(disch:=omega)only[fB,eS,eR,and_self]) (λ_=>.inl ⟨rfl,rfl,rfl⟩) (λ_=>.inl ⟨rfl,rfl,rfl⟩)
 ·have h0:0<L.length:=by
   rcases Ug L.length with h0|h0
   ·have:=hne (SV.1 h0);cases this
   ·exact h0
  simp(disch:=omega)only[W_,eu,to,mU NN,isNone_some]
  have hsh:∃ry,pW 1 0 L.length b (m b)=some (byC L,ry):=by
   rw[hm,jr,UA,ja,kT];have:lS (byC L++rest) (L.length*1)=some (byC L):=by rw[jT,if_pos (by rw[IT,pc];omega),<-pc,XN]
   rw[this];exact⟨_,rfl⟩
  obtain⟨ry,hsh⟩:=hsh;rw[hsh];refine fI (CP (n0:=n) (by omega) (eB _ _ _) (xz L) (by omega) (by omega) (by omega) (pc L)) λv2 M2 N2 r2 w2 ⟨k2,f2,g2,b2,c2,opn2,hv2,h3,h4,h5,h6⟩=>?_;obtain⟨rfl,rfl⟩:=h6 h0;subst hv2;simp(disch:=omega)only[W_,eu,to];refine hQ _ _ _ _ _ (by omega) (λb hb=>(f2 b hb).trans (en _ _ _ _ (by omega))) (by simp(disch:=omega)only[fB,eS,eR,and_self,g2]) (λ_=>.inr ⟨h0,pc L,b2,rfl,h3,h4,h5⟩) (λh=>by cases h)
theorem AG(op:BinOp)(t:Nat)(x y:Opd)(e:List AT)(m:FM)(n:Nat):gV PG (fL PG EL Y) e m n (.pur (.bit op t) [x,y])=iK m n (vQ PG op t (ev e x) (ev e y)):=rfl
theorem shift_shr_any(k:IntKind)(x:Int)(yk:IntKind)(y:Int)(hy:0<=y):(Op.shift .shr k x yk y)=pure (.int k (x.fdiv (2 ^ min y.toNat k.bits))):=by unfold Op.shift;rw[if_neg (by omega)]
theorem shr7(k:Nat):vQ PG .shr 91 (.int .u64 (k:Int)) (.int .u64 7)=some (.int .u64 ((k / 128:Nat):Int)):=by show oX (gM PG (eqGuard .shr 91 (.tmp 0) (.tmp 0) (.int .u64 (k:Int)) (.int .u64 7) >>= λ_=>Op.shift .shr .u64 (k:Int) .u64 7))=_;rw[shift_shr_any .u64 (k:Int) .u64 7 (by decide)];show some (Value.int .u64 ((k:Int).fdiv (2 ^ min (7:Int).toNat 64)))=_;rw[show(2:Int) ^ min (7:Int).toNat 64=((128:Nat):Int) by decide,Int.fdiv_eq_ediv_of_nonneg _ (by omega)];rfl
theorem adP(a b:Int):vQ PG .or 5 (.int .u8 a) (.int .u8 b)=some (.int .u8 (IntKind.u8.wrap ((Ui 8 a ||| Ui 8 b).toNat:Int))):=rfl
theorem aaa:∀x:Fin 256,IntKind.u8.wrap ((Ui 8 (x.val:Int) ||| Ui 8 128).toNat:Int)=((x.val % 128+128:Nat):Int):=by decide
theorem or8{x:Nat}(h:x<256):vQ PG .or 5 (.int .u8 (x:Int)) (.int .u8 128)=some (.int .u8 ((x % 128+128:Nat):Int)):=by rw[adP,aaa ⟨x,h⟩]
theorem cv8(k:Nat):pP .u8 (.int .u64 (k:Int))=some (.int .u8 ((k % 256:Nat):Int)):=by
 show some (Value.int .u8 (mu .u8 (k:Int)))=_;rw[jo];have e:∀a:Int,IntKind.u8.wrap a=a % 256:=λa=>by simp[WH,Wp,WI]
 rw[e];rfl
def gL(n:Nat):List Nat:=if h:n<128 then[n]else(n % 128+128)::gL (n / 128)
termination_by n
decreasing_by omega
theorem oZ(h:n<128):gL n=[n]:=by rw[gL,dif_pos h]
theorem tc(h:¬n<128):gL n=(n % 128+128)::gL (n / 128):=by rw[gL,dif_neg h]
theorem zz(n:Nat):(gL n).length<=n+1:=by
 induction n using Nat.strongRecOn with
 |_ n ih=>
  by_cases h:n<128
  ·rw[oZ h];simp
  ·rw[tc h,SA];have:=ih (n / 128) (by omega);omega
theorem abJ(hl:bs.length<=100000)(e2 e3 e4 e5:AT):
  ∀(f k:Nat) (out:List Nat) (v:AT) (M:FM) (N:Nat),k<=f->k<=500000->out.length+k<=900000->n<=N->(∀b,b<n->M b=m b)->SlZ 1 M n N v out.length (byC out)->
  Gv (gD PG EL Y zW [.int .u64 (k:Int),v,e2,e3,e4,e5] M N) λX e M' N' w=>(∃(k':Nat) (out':List Nat) (v':AT),X=.exit 0/\e=[.int .u64 (k':Int),v',e2,e3,e4,e5]/\k'<128/\out'++[k']=out++gL k/\SlZ 1 M' n N' v' out'.length (byC out'))/\N<=N'/\(∀b,b<n->M' b=m b)/\SL w (bit n)=0:=by
 intro f
 induction f with
 |zero=>
  intro k out v M N hf hk ho hN hM hO;obtain rfl:k=0:=by omega
  have o:=hO.one;refine gA (L:=zW) (b:=qG) rfl ?_;simp only[qG];simp(disch:=omega)only[W_,eu,to,o];exact⟨⟨0,out,v,rfl,by omega,by rw[oZ (by omega)],hO⟩,IN _,hM⟩
 |succ f ih=>
  intro k out v M N hf hk ho hN hM hO;have o:=hO.one;by_cases c:k<128
  ·refine gA (L:=zW) (b:=qG) rfl ?_;simp only[qG];simp(disch:=omega)only[W_,eu,to,o];exact⟨⟨k,out,v,rfl,c,by rw[oZ c],hO⟩,IN _,hM⟩
  ·have h1:=cv8 k;have h2:=or8 (x:=k % 256) (by omega);have h3:=shr7 k;rw[show k % 256 % 128=k % 128 by omega]at h2;refine gA (L:=zW) (b:=qG) rfl ?_;simp only[qG];simp(disch:=omega)only[W_,eu,to,o,h1,AG,h2];refine fI (CQ (K:=[k % 128+128]) (SlZ.frame hO (N':=N+1) (M':=If M N (some (.cells [.int .u8 ((k % 128+128:Nat):Int)] 1 false true))) (by omega) λb _ hb=>gu) _ _ _ (by omega) (by simp;omega)) λv5 M5 n5 r5 w5 ⟨k5,k6,D5,f5,g5,_,_⟩=>?_;have o5:=D5.one;simp(disch:=omega)only[W_,eu,to,o5,AG,h3];refine gR (ih (k / 128) (out++[k % 128+128]) v5 M5 n5 (by omega) (by omega) (by rw[IT,Tu];omega) (by omega) (λb hb=>(f5 b hb).trans ((en _ _ _ _ (by omega)).trans (hM b hb))) D5) λX e m n w ⟨⟨k',out',v',p1,p2,p3,p4,p5⟩,q2,q3,q4⟩=>⟨⟨k',out',v',p1,p2,p3,by rw[p4,tc c,S6];rfl,p5⟩,by omega,q3,(by simp(disch:=omega)only[fB,eS,eR,and_self,g5,q4])⟩
theorem vT{k:Nat}(h:Bts m n v bs)(hne:bs=[]->v=.slice none 0 0)(hl:bs.length<=100000)(hk:k<=500000):Rt (fL PG EL Y 93 [v,.int .u64 (k:Int)] m n) λv' m' n' w=>n<=n'/\(∀b,b<n->m' b=m b)/\(∀j,j<=n->SL w (bit j)=0)/\SlZ 1 m' n n' v' (bs++gL k).length (byC (bs++gL k)):=by
 refine gN (R:=λv' m' n'=>SlZ 1 m' n n' v' (bs++gL k).length (byC (bs++gL k))) e93 rfl ?_ λQ hQ=>?_
 ·rintro v' m' n' hv h;rcases h with h|⟨_,_,b,rfl,_⟩
  ·exact .inl h
  ·cases hv
 simp only[aeL];have o:=h.one;simp(disch:=omega)only[W_,eu,to,o];refine fI (wI h hne (by omega)) λv1 M1 n1 r1 w1 ⟨k1,f1,g1,E1⟩=>?_;have o1:=E1.one;simp(disch:=omega)only[W_,eu,to,o1];refine ic (abJ hl v1 (.slice none 0 0) v (.int .u64 (k:Int)) k k bs v1 M1 n1 (IN _) hk (by omega) k1 f1 E1) λX e M' N' r w ⟨⟨k',out',v',hX,he,p3,p4,p5⟩,q2,q3,q4⟩=>?_;subst hX he;have o2:=p5.one;have h1:=cv8 k';rw[Vm (show k'<256 by omega)]at h1;have hol:out'.length<=900000:=by have:=congrArg U9 p4;rw[IT,IT,Tu]at this;have:=zz k;omega
 simp(disch:=omega)only[W_,eu,to,o2,h1];refine fI (CQ (K:=[k']) (SlZ.frame p5 (N':=N'+1) (M':=If M' N' (some (.cells [.int .u8 (k':Int)] 1 false true))) (by omega) λb _ hb=>gu) _ _ _ (by omega) (by simp only[Tu];omega)) λv5 M5 n5 r5 w5 ⟨k5,k6,D5,f5,g5,_,_⟩=>?_;rw[p4]at D5;have o5:=D5.one;simp(disch:=omega)only[W_,eu,to,o5];exact hQ _ _ _ _ _ (by omega) (λb hb=>(f5 b hb).trans ((en _ _ _ _ (by omega)).trans (q3 b hb))) (by simp(disch:=omega)only[fB,eS,eR,and_self,g1,q4,g5]) D5
theorem Bts.shown(h:Bts M N v L):∃a k ry,v=.slice a L.length k/\Am.shown M N 1 v=some (byC L,ry):=by
 rcases h with⟨rfl,rfl⟩|⟨b,k,rest,opn,wr,rfl,hb,hm⟩
 ·exact⟨_,_,_,rfl,rfl⟩
 ·refine⟨some ⟨b,0,none⟩,k,?_⟩;rcases Ug L.length with h0|h0
  ·obtain rfl:=SV.1 h0;exact⟨_,rfl,rfl⟩
  ·rw[jL h0,ig hb,hm,jr,UA,ja,kT];have:lS (byC L++rest) (L.length*1)=some (byC L):=by rw[jT,if_pos (by rw[IT,pc];omega),<-pc,XN]
   rw[this];exact⟨_,rfl,rfl⟩
theorem Bv{xv:AT}{xs:List Nat}(h:Bts m n v bs)(hx:Bts m n xv xs)(hne:bs=[]->v=.slice none 0 0)(hl:bs.length<=100000)(hk:xs.length<=100000):Rt (fL PG EL Y 87 [v,xv] m n) λv' m' n' w=>n<=n'/\(∀b,b<n->m' b=m b)/\(∀j,j<=n->SL w (bit j)=0)/\SlZ 1 m' n n' v' (bs++gL xs.length++xs).length (byC (bs++gL xs.length++xs)):=by
 refine gN (R:=λv' m' n'=>SlZ 1 m' n n' v' (bs++gL xs.length++xs).length (byC (bs++gL xs.length++xs))) e87 rfl ?_ λQ hQ=>?_
 ·rintro v' m' n' hv h;rcases h with h|⟨_,_,b,rfl,_⟩
  ·exact .inl h
  ·cases hv
 simp only[aeR];have o:=h.one;have ox:=hx.one;have lx:=hx.len
 have hcv:pP .u64 (.int .i64 (xs.length:Int))=some (.int .u64 (xs.length:Int)):=by
  show some (Value.int .u64 (mu .u64 (xs.length:Int)))=_;have e:∀a:Int,IntKind.u64.wrap a=a % 18446744073709551616:=λa=>by simp[WH,Wp,WI]
  rw[jo,e,Xd (by omega) (by omega)]
 simp(disch:=omega)only[W_,eu,to,o,ox,lx,hcv];refine fI (vT h hne hl (by omega)) λv1 M1 n1 r1 w1 ⟨k1,f1,g1,E1⟩=>?_;have o1:=E1.one;obtain⟨ya,yc,ry,e4,e5⟩:=(hx.frame k1 f1).shown;have hap:=CQ (K:=xs) (SlZ.frame E1 (IN _) λb _ _=>rfl) ya yc ry (by omega) (by have:=zz xs.length;rw[IT];omega);rw[<-e4,<-e5]at hap;simp(disch:=omega)only[W_,eu,to,o1];refine fI hap λv6 M6 n6 r6 w6 ⟨k6,k7,C,f6,g6,_,_⟩=>?_;have oc:=C.one;simp(disch:=omega)only[W_,eu,to,oc];exact hQ _ _ _ _ _ (by omega) (λb hb=>(f6 b (by omega)).trans (f1 b hb)) (by simp(disch:=omega)only[fB,eS,eR,and_self,g1,g6]) C
def kN(s:ByteArray):List Nat:=s.data.toList.map UInt8.toNat
theorem jb(s:ByteArray):(kN s).length=s.size:=by simp[kN]
theorem zM(s:ByteArray):bytesOf s=byC (kN s):=by unfold bytesOf byC kN;rw[List.map_map];rfl
theorem Cu(k:Nat):gL k≠[]:=by
 by_cases h:k<128
 ·rw[oZ h];simp
 ·rw[tc h];simp
def jD(k:Nat)(s:ByteArray):List Nat:=gL k++gL s.size++kN s
theorem kI(k:Nat)(s:ByteArray):jD k s≠[]:=by unfold jD;simp[Cu]
theorem jB{k:Nat}{s:ByteArray}(hk:k<=1000)(hs:s.size<=1000):Kp (fL PG EL Y 37 [.int .u64 (k:Int),.string s] m n) m n λv m' n'=>Bts m' n' v (jD k s):=by
 refine gG (R:=λv m' n'=>Bts m' n' v (jD k s)) e37 rfl λQ hQ=>?_;simp only[afh];simp(disch:=omega)only[W_,eu,to];refine fI (vT (Bts.nil _ _) (λ_=>rfl) (by simp) (by omega)) λv1 M1 n1 r1 w1 ⟨k1,f1,g1,E1⟩=>?_;have o1:=E1.one;simp(disch:=omega)only[W_,eu,to,o1,mE,yE];have f2:∀b,b<n1->(If M1 n1 (some (.cells (bytesOf s) 1 false false)):FM) b=M1 b:=λb hb=>gu;have X2:Bts (If M1 n1 (some (.cells (bytesOf s) 1 false false))) (n1+1) (.slice (some ⟨n1,0,none⟩) s.size UNK) (kN s):=.inr ⟨n1,UNK,[],false,false,by rw[jb],by omega,by rw[SN,<-zM];exact eB _ _ _⟩;have E2:=(SlZ.bts E1).frame (N':=n1+1) (by omega) f2;have hek:=zz k;refine fI (Bv E2 X2 (λh=>absurd h (by simp[Cu])) (by rw[SJ];omega) (by rw[jb];omega)) λv3 M3 n3 r3 w3 ⟨k3,f3,g3,E3⟩=>?_;have o3:=E3.one;simp(disch:=omega)only[W_,eu,to,o3];rw[jb,SJ]at E3;rcases E3 with⟨h0,_⟩|⟨a1,a2,b,rfl,a3,a4,a5⟩
 ·exact absurd (SV.1 h0) (kI k s)
 ·exact hQ _ _ _ _ _ (by omega) (λb hb=>(f3 b (by omega)).trans ((f2 b (by omega)).trans (f1 b hb))) (by simp(disch:=omega)only[fB,eS,eR,and_self,g1,g3]) rfl (SlZ.bts (.inr ⟨a1,a2,b,rfl,a3,a4,a5⟩))
theorem uu(h:Bts m n v bs):Kp (fL PG EL Y 35 [v,.int .i64 0] m n) m n λr m' n'=>r=.tuple #[v,.int .i64 0]/\Bts m' n' v bs:=by
 refine gN (R:=λr m' n'=>r=.tuple #[v,.int .i64 0]/\Bts m' n' v bs) e35 rfl ?_ λQ hQ=>?_
 ·rintro r m' n' hv ⟨rfl,h'⟩;exact⟨rfl,h⟩
 simp only[ab8];have o:=h.one;simp(disch:=omega)only[W_,eu,to,o];exact hQ _ _ _ _ _ (IN _) (λ_ _=>rfl) (by simp(disch:=omega)only[fB,eS,eR,and_self]) ⟨rfl,h⟩
theorem nY{e:Int}(o:Am.one v=true)(he:e≠0):Pure (fL PG EL Y 35 [v,.int .i64 e] m n) m n (.tuple #[.slice none 0 0,.int .i64 e]):=by refine gC e35 rfl rfl ?_;simp only[ab8];simp(disch:=omega)only[W_,eu,to,o,he]
theorem cvU{k:Nat}(h:k<=1000000000):pP .u64 (.int .i64 (k:Int))=some (.int .u64 (k:Int)):=by
 show some (Value.int .u64 (mu .u64 (k:Int)))=_;have e:∀a:Int,IntKind.u64.wrap a=a % 18446744073709551616:=λa=>by simp[WH,Wp,WI]
 rw[jo,e,Xd (by omega) (by omega)]
theorem Cts.at{cs:List Int}(h:Cts M N v cs):∃b opn wr,(∀j,j<cs.length->vJ 1 j v=some (.pointer (some ⟨b,j,none⟩)))/\b<N/\M b=some (.cells (ma cs) 1 opn wr):=by obtain⟨b,k,opn,wr,rfl,hb,hm⟩:=h;exact⟨b,opn,wr,λj hj=>by rw[rG hj,TU,Nat.mul_one],hb,hm⟩
theorem aaf(hc:Cts m n lv (ns.map Int.ofNat))(hn:∀k∈ns,k<=10000000)(hl:ns.length<=100)(e4 e5:AT):
  ∀(d j:Nat),j+d=ns.length->∀(v x2:AT) (bs:List Nat) (M:FM) (N:Nat),n<=N->(∀b,b<n->M b=m b)->Bts M N v bs->bs≠[]->bs.length+d*1000<=100000->(∀k∈ns,k<=500000/\(gL k).length<=1000)->
  Gv (gD PG EL Y CZ [v,.int .i64 (j:Int),x2,.int .i64 (ns.length:Int),e4,e5,lv] M N) λX e M' N' w=>(∃v' z1 z2,X=.exit 0/\e=[v',z1,z2,e4,e5,lv]/\Bts M' N' v' (bs++(ns.drop j).flatMap gL))/\N<=N'/\(∀b,b<n->M' b=m b)/\SL w (bit n)=0:=by
 have o2:=hc.one;intro d
 induction d with
 |zero=>intro j hj v x2 bs M N hN hf hB hne hlen hk;have o:=hB.one;refine gA (L:=CZ) (b:=vg) rfl ?_;simp only[vg];simp(disch:=omega)only[W_,eu,to,o];exact⟨⟨_,_,_,rfl,by rw[List.drop_of_length_le (by omega),List.flatMap_nil,SN];exact hB⟩,IN _,hf⟩
 |succ d ih=>
  intro j hj v x2 bs M N hN hf hB hne hlen hk;have o:=hB.one;obtain⟨b,opn,wr,hi,hb,hm⟩:=hc.at;have hmM:=(hf b hb).trans hm;have hg:lC (ma (ns.map Int.ofNat)) j=some (.int .i64 ((ns[j]:Nat):Int)):=by rw[oi (by rw[SC];omega),List.getElem_map];rfl
  have h1:=hk ns[j] (Tb _);have hcv:=cvU (k:=ns[j]) (by omega);refine gA (L:=CZ) (b:=vg) rfl ?_;simp only[vg];simp(disch:=omega)only[W_,eu,to,o,o2,hi j (by rw[SC];omega),hmM,hg,hcv];refine fI (vT hB (λh=>absurd h hne) (by omega) (by omega)) λv1 M1 n1 r1 w1 ⟨k1,f1,g1,E1⟩=>?_;have o1:=E1.one;simp(disch:=omega)only[W_,eu,to,o1];refine gR (ih (j+1) (by omega) _ _ (bs++gL ns[j]) M1 n1 (by omega) (λb hb=>(f1 b (by omega)).trans (hf b hb)) (SlZ.bts E1) (by simp[hne]) (by rw[IT];omega) hk) λX e m n w ⟨⟨v',z1,z2,p1,p2,p3⟩,q2,q3,q4⟩=>⟨⟨v',z1,z2,p1,p2,by rw[List.drop_eq_getElem_cons (by omega),TO,<-S6];exact p3⟩,by omega,q3,(by simp(disch:=omega)only[fB,eS,eR,and_self,g1,q4])⟩
theorem jk{k:Nat}(h:k<2097152):(gL k).length<=3:=by
 by_cases h1:k<128
 ·rw[oZ h1];simp
 ·rw[tc h1];by_cases h2:k / 128<128
  ·rw[oZ h2];simp
  ·rw[tc h2,oZ (by omega)];simp
theorem AM{lv:AT}{ns:List Nat}(h:Bts m n v bs)(hb:bs≠[])(hc:Cts m n lv (ns.map Int.ofNat))(hn:∀k∈ns,k<=500000)(hl:bs.length<=1000)(hl2:ns.length<=5):Rt (fL PG EL Y 36 [v,lv] m n) λv' m' n' w=>n<=n'/\(∀b,b<n->m' b=m b)/\(∀j,j<=n->SL w (bit j)=0)/\Bts m' n' v' (bs++ns.flatMap gL):=by
 refine gN (R:=λv' m' n'=>Bts m' n' v' (bs++ns.flatMap gL)) e36 rfl ?_ λQ hQ=>?_
 ·rintro v' m' n' hv h';rcases h' with h|⟨b,k,rest,opn,wr,rfl,_⟩
  ·exact .inl h
  ·cases hv
 simp only[afi];have o:=h.one;have o2:=hc.one;have l2:=hc.len;rw[SC]at l2;simp(disch:=omega)only[W_,eu,to,o,o2,l2];refine ic (aaf hc (λk hk=>by have:=hn k hk;omega) (by omega) (.slice none 0 0) v ns.length 0 (by omega) v (.int .i64 0) bs m n (IN _) (λ_ _=>rfl) h hb (by omega) (λk hk=>⟨hn k hk,by have:=jk (k:=k) (by have:=hn k hk;omega);omega⟩)) λX e M' N' r w ⟨⟨v',z1,z2,hX,he,p3⟩,q2,q3,q4⟩=>?_;subst hX he;have o3:=p3.one;rw[List.drop_zero]at p3;simp(disch:=omega)only[W_,eu,to,o3];exact hQ _ _ _ _ _ q2 q3 (by simp(disch:=omega)only[fB,eS,eR,and_self,q4]) p3
def Af(ok:Prop)(bs:List Nat)(res:AT)(M:FM)(N:Nat):Prop:=(∃e:Int,e≠0/\res=.tuple #[.slice none 0 0,.int .i64 e])\/(ok/\∃nv,res=.tuple #[nv,.int .i64 0]/\Bts M N nv bs)
theorem Af.flat{ok:Prop}{res:AT}(hf:gy res=true)(h:Af ok bs res M N):Af ok bs res M' N':=by
 rcases h with h|⟨h1,nv,rfl,h2⟩
 ·exact .inl h
 ·have hf:(Am.flat nv&&(Am.flat (.int .i64 0)&&true))=true:=hf;rw[Bool.and_eq_true]at hf;refine .inr ⟨h1,nv,rfl,?_⟩;rcases h2 with h|⟨b,k,rest,opn,wr,rfl,_⟩
  ·exact .inl h
  ·cases hf.1
theorem kL{k:Nat}{s:ByteArray}(hk:k<=100)(hs:s.size<=16):(jD k s).length<=30:=by have h1:=jk (k:=k) (by omega);have h2:=jk (k:=s.size) (by omega);unfold jD;rw[IT,IT,jb];omega
theorem ub{a b:Nat}(h:Bts m n v bs)(hb:bs≠[])(hl:bs.length<=1000)(ha:a<=500000)(hb2:b<=500000){lb:Nat}(hlb:lb<n){opn wr:Bool}(hm:m lb=some (.cells [.int .i64 (a:Int),.int .i64 (b:Int)] 1 opn wr))(k:Nat):Rt (fL PG EL Y 36 [v,.slice (some ⟨lb,0,none⟩) 2 k] m n) λv' m' n' w=>n<=n'/\(∀b,b<n->m' b=m b)/\(∀j,j<=n->SL w (bit j)=0)/\Bts m' n' v' (bs++(gL a++gL b)):=by have:=AM (Y:=Y) (ns:=[a,b]) (lv:=.slice (some ⟨lb,0,none⟩) 2 k) h hb ⟨lb,k,opn,wr,rfl,hlb,hm⟩ (by simp;omega) hl (by simp);simpa[TO]using this
theorem uJ(hU:YUp Y)(hC:me Y)(hN:qS Y)(hY:jf Y)(hM:lL Y 164)(h:j6 S m n b vs)(hI:Inv S vs)(hS:S<=65536){s:ByteArray}(hs:nameOk s){k r:Nat}(h1:1<=k)(h2:k<=65536)(h3:r<=k):Kp (fL PG EL Y 12 [mP b,.string s,.int .i64 (k:Int),.int .i64 (r:Int)] m n) m n λres m' n'=>Af (kW vs s=0/\enE r (room S vs)=0) (jD 3 s++(gL k++gL r)) res m' n'/\(kW vs s=0/\enE r (room S vs)=0->∃nv,res=.tuple #[nv,.int .i64 0]):=by
 obtain⟨hb,cv,mv,hm,hF⟩:=h;have hfew:=hI.few;refine gN (R:=λres m' n'=>Af (kW vs s=0/\enE r (room S vs)=0) (jD 3 s++(gL k++gL r)) res m' n'/\(kW vs s=0/\enE r (room S vs)=0->∃nv,res=.tuple #[nv,.int .i64 0])) e12 rfl (λ_ _ _ hf h=>⟨h.1.flat hf,h.2⟩) λQ hQ=>?_;simp only[afw,mP];have o1:=hF.c.one;have o2:=hF.m.one;simp(disch:=omega)only[W_,eu,to,lg,hm,o1,o2];refine fI (wF hM hF (by omega) hs h1 h2 h3) λv1 M1 n1 r1 w1 ⟨k1,f1,g1,hres⟩=>?_;rcases hres with⟨hz,mv1,hv1,F1⟩|⟨hz,hv1⟩
 ·subst hv1;have o3:=F1.m.one;have q1:=F1.c.gU;have q3:=F1.m.gU;have m1:=(f1 b hb).trans hm;have H1:=hF.frame k1 f1;simp(disch:=omega)only[W_,eu,to,fV,o1,o3,q1,q3,m1,o2,dW o1,dW o3];have f2:∀b,b<n1->(If M1 n1 (some (.cells [cv,mv1] 0 false true)):FM) b=M1 b:=λb hb=>gu;refine fF (zI hU hC hN hY (H1.frame (N':=n1+1) (by omega) f2) hI hS h1 h2 h3) λr2=>?_;have hhl:=kL (k:=3) (s:=s) (by omega) hs.s2;have hs2:=hs.s2;simp(disch:=omega)only[W_,eu,to];refine fI (jB (k:=3) (s:=s) (by omega) (by omega)) λv3 M3 n3 r3 w3 ⟨k3,f3,g3,E3⟩=>?_;have o5:=E3.one;simp(disch:=omega)only[W_,eu,to,o5];have f4:∀b,b<n3->(If M3 n3 (some (.cells [.int .i64 (k:Int),.int .i64 (r:Int)] 1 false true)):FM) b=M3 b:=λb hb=>gu;refine fI (ub (E3.frame (N':=n3+1) (by omega) f4) (kI 3 s) (by omega) (a:=k) (b:=r) (by omega) (by omega) (lb:=n3) (by omega) (eB _ _ _) _) λv5 M5 n5 r5 w5 ⟨k5,f5,g5,E5⟩=>?_;have o6:=E5.one;by_cases he:enE r (room S vs)=0
  ·rw[he];simp(disch:=omega)only[W_,eu,to,o6];refine fI (uu E5) λv7 M7 n7 r7 w7 ⟨k7,f7,g7,hv7,E7⟩=>?_;subst hv7;simp(disch:=omega)only[W_,eu,to,o6];exact hQ _ _ _ _ _ (by omega) (λb hb=>(f7 b (by omega)).trans ((f5 b (by omega)).trans ((f4 b (by omega)).trans ((f3 b (by omega)).trans ((f2 b (by omega)).trans (f1 b hb)))))) (by simp(disch:=omega)only[fB,eS,eR,and_self,g1,g3,g5,g7]) ⟨.inr ⟨⟨hz,he⟩,v5,rfl,E7⟩,λ_=>⟨_,rfl⟩⟩
  ·simp(disch:=omega)only[W_,eu,to,o6];refine fF (nY o6 he) λr7=>?_;simp(disch:=omega)only[W_,eu,to];exact hQ _ _ _ _ _ (by omega) (λb hb=>(f5 b (by omega)).trans ((f4 b (by omega)).trans ((f3 b (by omega)).trans ((f2 b (by omega)).trans (f1 b hb))))) (by simp(disch:=omega)only[fB,eS,eR,and_self,g1,g3,g5]) ⟨.inl ⟨_,he,rfl⟩,λh=>absurd h.2 he⟩
 ·subst hv1;have hhl:=kL (k:=3) (s:=s) (by omega) hs.s2;have hs2:=hs.s2;simp(disch:=omega)only[W_,eu,to,fV,kc,hz];have f2:∀b,b<n1->(If M1 n1 (some (.cells [.slice none 0 0,.map none] 0 false true)):FM) b=M1 b:=λb hb=>gu;refine fI (jB (k:=3) (s:=s) (by omega) (by omega)) λv3 M3 n3 r3 w3 ⟨k3,f3,g3,E3⟩=>?_;have o5:=E3.one;simp(disch:=omega)only[W_,eu,to,o5];have f4:∀b,b<n3->(If M3 n3 (some (.cells [.int .i64 (k:Int),.int .i64 (r:Int)] 1 false true)):FM) b=M3 b:=λb hb=>gu;refine fI (ub (E3.frame (N':=n3+1) (by omega) f4) (kI 3 s) (by omega) (a:=k) (b:=r) (by omega) (by omega) (lb:=n3) (by omega) (eB _ _ _) _) λv5 M5 n5 r5 w5 ⟨k5,f5,g5,E5⟩=>?_;have o6:=E5.one;simp(disch:=omega)only[W_,eu,to,o6];refine fF (nY o6 hz) λr7=>?_;simp(disch:=omega)only[W_,eu,to];exact hQ _ _ _ _ _ (by omega) (λb hb=>(f5 b (by omega)).trans ((f4 b (by omega)).trans ((f3 b (by omega)).trans ((f2 b (by omega)).trans (f1 b hb))))) (by simp(disch:=omega)only[fB,eS,eR,and_self,g1,g3,g5]) ⟨.inl ⟨_,hz,rfl⟩,λh=>absurd h.1 hz⟩
theorem Ez(h:FamR S m n cv mv vs){s:ByteArray}(hv:gK vs s=none):Kp (fL PG EL Y 108 [fV cv mv,.string s] m n) m n λr m' n'=>r=.tuple #[wX,.slice none 0 0,.int .i64 9]:=by refine gG (R:=λr m' n'=>r=.tuple #[wX,.slice none 0 0,.int .i64 9]) e108 rfl λQ hQ=>?_;simp only[Jg,fV];have o1:=h.c.one;have o2:=h.m.one;simp(disch:=omega)only[W_,eu,to,o1,o2,dW o1,dW o2];obtain⟨fr,t0,t1⟩:=iu (m:=m) (n:=n) (a:=.cells [cv,mv] 0 false true) (b:=.cells [.slice none 0 0,.map none] 0 false true);revert fr t0 t1;generalize (If (If m n (some (.cells [cv,mv] 0 false true))) (n+1) (some (.cells [.slice none 0 0,.map none] 0 false true)):FM)=M0;intro fr t0 t1;have H0:=h.frame (N':=n+2) (by omega) fr;obtain⟨r,hl⟩:=sY H0.m hv;simp(disch:=omega)only[W_,eu,to,mE,hl,t1,kc];exact hQ _ _ _ _ _ (by omega) (λb hb=>(en _ _ _ _ (by omega)).trans ((en _ _ _ _ (by omega)).trans (fr b hb))) (by simp(disch:=omega)only[fB,eS,eR,and_self]) rfl rfl
theorem Cv(hU:YUp Y)(hC:me Y)(hY:jf Y)(hM:lL Y 164)(h:j6 S m n b vs)(hI:Inv S vs)(hS:S<=65536)(h0:0<S){s:ByteArray}(hs:nameOk s):Kp (fL PG EL Y 121 [mP b,.string s] m n) m n λres m' n'=>Af (gK vs s≠none) (jD 5 s) res m' n':=by
 obtain⟨hb,cv,mv,hm,hF⟩:=h;have hs2:=hs.s2;refine gN (R:=λres m' n'=>Af (gK vs s≠none) (jD 5 s) res m' n') e121 rfl (λ_ _ _ hf h=>h.flat hf) λQ hQ=>?_;simp only[QT,mP];have o1:=hF.c.one;have o2:=hF.m.one;simp(disch:=omega)only[W_,eu,to,lg,hm,o1,o2]
 cases hv:gK vs s with
 |none=>refine fI (Ez hF hv) λv1 M1 n1 r1 w1 ⟨k1,f1,g1,hv1⟩=>?_;subst hv1;simp(disch:=omega)only[W_,eu,to,wX,fV,kc];have f2:∀b,b<n1->(If M1 n1 (some (.cells [.slice none 0 0,.map none] 0 false true)):FM) b=M1 b:=λb hb=>gu;refine fI (jB (k:=5) (s:=s) (by omega) (by omega)) λv3 M3 n3 r3 w3 ⟨k3,f3,g3,E3⟩=>?_;have o5:=E3.one;simp(disch:=omega)only[W_,eu,to,o5];refine fF (nY o5 (by decide)) λr7=>?_;simp(disch:=omega)only[W_,eu,to];exact hQ _ _ _ _ _ (by omega) (λb hb=>(f3 b (by omega)).trans ((f2 b (by omega)).trans (f1 b hb))) (by simp(disch:=omega)only[fB,eS,eR,and_self,g1,g3]) (.inl ⟨_,by decide,rfl⟩)
 |some v=>refine fI (uI hU hY hM hC hF hI hS h0 hv) λv1 M1 n1 r1 w1 ⟨k1,f1,g1,cv',mv',fv,F,hv1,F1,X1⟩=>?_;subst hv1;have o3:=F1.c.one;have o4:=F1.m.one;have q3:=F1.c.gU;have q4:=F1.m.gU;have ox:=X1.one;simp(disch:=omega)only[W_,eu,to,fV,o3,o4,q3,q4,ox,dW o3,dW o4];have f2:∀b,b<n1->(If M1 n1 (some (.cells [cv',mv'] 0 false true)):FM) b=M1 b:=λb hb=>gu;refine fI (jB (k:=5) (s:=s) (by omega) (by omega)) λv3 M3 n3 r3 w3 ⟨k3,f3,g3,E3⟩=>?_;have o5:=E3.one;simp(disch:=omega)only[W_,eu,to,o5];refine fI (uu E3) λv7 M7 n7 r7 w7 ⟨k7,f7,g7,hv7,E7⟩=>?_;subst hv7;simp(disch:=omega)only[W_,eu,to,o5];exact hQ _ _ _ _ _ (by omega) (λb hb=>(f7 b (by omega)).trans ((f3 b (by omega)).trans ((f2 b (by omega)).trans (f1 b hb)))) (by simp(disch:=omega)only[fB,eS,eR,and_self,g1,g3,g7]) (.inr ⟨by rw[hv];simp,v3,rfl,E7⟩)
theorem JB(h:FamR S m n cv mv vs){s:ByteArray}{k:Nat}(ha:a+k<=65536)(hvn:∀v,gK vs s=some v->v.n<=65536/\v.n<a+k):Kp (fL PG EL Y 103 [fV cv mv,.string s,.int .i64 (a:Int),.int .i64 (k:Int)] m n) m n λr m' n'=>∃e:Int,e≠0/\r=.tuple #[wX,.slice none 0 0,.int .i64 e]:=by
 refine gG (R:=λr m' n'=>∃e:Int,e≠0/\r=.tuple #[wX,.slice none 0 0,.int .i64 e]) e103 rfl λQ hQ=>?_;simp only[Ji,fV];have o1:=h.c.one;have o2:=h.m.one;simp(disch:=omega)only[W_,eu,to,o1,o2,dW o1,dW o2];obtain⟨fr,t0,t1⟩:=iu (m:=m) (n:=n) (a:=.cells [cv,mv] 0 false true) (b:=.cells [.slice none 0 0,.map none] 0 false true);revert fr t0 t1;generalize (If (If m n (some (.cells [cv,mv] 0 false true))) (n+1) (some (.cells [.slice none 0 0,.map none] 0 false true)):FM)=M0;intro fr t0 t1;have H0:=h.frame (N':=n+2) (by omega) fr;refine fI (uF H0 (λv hv=>(hvn v hv).1) (a:=(a:Int)) (k:=(k:Int)) (by omega) (λv hv=>by have:=(hvn v hv).2;omega)) λv1 M1 n1 r1 w1 ⟨k1,f1,g1,e,hv1,he⟩=>?_;subst hv1;have he0:e≠0:=by rcases he with⟨_,rfl⟩|⟨_,rfl⟩<;>decide
 have e1:=(f1 (n+1) (by omega)).trans t1;simp(disch:=omega)only[W_,eu,to,he0,e1,kc];exact hQ _ _ _ _ _ (by omega) (λb hb=>(en _ _ _ _ (by omega)).trans ((en _ _ _ _ (by omega)).trans ((f1 b (by omega)).trans (fr b hb)))) (by simp(disch:=omega)only[fB,eS,eR,and_self,g1]) rfl ⟨e,he0,rfl⟩
theorem FO(hY:jf Y)(hM:lL Y 164)(h:j6 S m n b vs)(hI:Inv S vs)(hS:S<=65536)(h0:0<S){s:ByteArray}(hs:nameOk s){a k:Nat}(ha:a+k<=65536):Kp (fL PG EL Y 119 [mP b,.string s,.int .i64 (a:Int),.int .i64 (k:Int)] m n) m n λres m' n'=>Af (∃v,gK vs s=some v/\a+k<=v.n) (jD 2 s++(gL a++gL k)) res m' n':=by
 obtain⟨hb,cv,mv,hm,hF⟩:=h;have hs2:=hs.s2;have hhl:=kL (k:=2) (s:=s) (by omega) hs.s2;refine gN (R:=λres m' n'=>Af (∃v,gK vs s=some v/\a+k<=v.n) (jD 2 s++(gL a++gL k)) res m' n') e119 rfl (λ_ _ _ hf h=>h.flat hf) λQ hQ=>?_;simp only[QV,mP];have o1:=hF.c.one;have o2:=hF.m.one;simp(disch:=omega)only[W_,eu,to,lg,hm,o1,o2];by_cases hv:∃v,gK vs s=some v/\a+k<=v.n
 ·obtain⟨v,hv,hvk⟩:=hv;refine fI (yg hY hM hF hI hS h0 hv hvk) λv1 M1 n1 r1 w1 ⟨k1,f1,g1,cv',mv',fv,F,hv1,F1,X1⟩=>?_;subst hv1;have o3:=F1.c.one;have o4:=F1.m.one;have q3:=F1.c.gU;have q4:=F1.m.gU;have ox:=X1.one;simp(disch:=omega)only[W_,eu,to,fV,o3,o4,q3,q4,ox,dW o3,dW o4];have f2:∀b,b<n1->(If M1 n1 (some (.cells [cv',mv'] 0 false true)):FM) b=M1 b:=λb hb=>gu;refine fI (jB (k:=2) (s:=s) (by omega) (by omega)) λv3 M3 n3 r3 w3 ⟨k3,f3,g3,E3⟩=>?_;have o5:=E3.one;simp(disch:=omega)only[W_,eu,to,o5];have f4:∀b,b<n3->(If M3 n3 (some (.cells [.int .i64 (a:Int),.int .i64 (k:Int)] 1 false true)):FM) b=M3 b:=λb hb=>gu;refine fI (ub (E3.frame (N':=n3+1) (by omega) f4) (kI 2 s) (by omega) (a:=a) (b:=k) (by omega) (by omega) (lb:=n3) (by omega) (eB _ _ _) _) λv5 M5 n5 r5 w5 ⟨k5,f5,g5,E5⟩=>?_;have o6:=E5.one;simp(disch:=omega)only[W_,eu,to,o6];refine fI (uu E5) λv7 M7 n7 r7 w7 ⟨k7,f7,g7,hv7,E7⟩=>?_;subst hv7;simp(disch:=omega)only[W_,eu,to,o6];exact hQ _ _ _ _ _ (by omega) (λb hb=>(f7 b (by omega)).trans ((f5 b (by omega)).trans ((f4 b (by omega)).trans ((f3 b (by omega)).trans ((f2 b (by omega)).trans (f1 b hb)))))) (by simp(disch:=omega)only[fB,eS,eR,and_self,g1,g3,g5,g7]) (.inr ⟨⟨v,hv,hvk⟩,v5,rfl,E7⟩)
 ·refine fI (JB hF ha λv' hv'=>⟨(hI.found hv').n2,Nat.lt_of_not_le λhle=>hv ⟨v',hv',hle⟩⟩) λv1 M1 n1 r1 w1 ⟨k1,f1,g1,e,he0,hv1⟩=>?_;subst hv1;simp(disch:=omega)only[W_,eu,to,wX,fV,kc];have f2:∀b,b<n1->(If M1 n1 (some (.cells [.slice none 0 0,.map none] 0 false true)):FM) b=M1 b:=λb hb=>gu;refine fI (jB (k:=2) (s:=s) (by omega) (by omega)) λv3 M3 n3 r3 w3 ⟨k3,f3,g3,E3⟩=>?_;have o5:=E3.one;simp(disch:=omega)only[W_,eu,to,o5];have f4:∀b,b<n3->(If M3 n3 (some (.cells [.int .i64 (a:Int),.int .i64 (k:Int)] 1 false true)):FM) b=M3 b:=λb hb=>gu;refine fI (ub (E3.frame (N':=n3+1) (by omega) f4) (kI 2 s) (by omega) (a:=a) (b:=k) (by omega) (by omega) (lb:=n3) (by omega) (eB _ _ _) _) λv5 M5 n5 r5 w5 ⟨k5,f5,g5,E5⟩=>?_;have o6:=E5.one;simp(disch:=omega)only[W_,eu,to,o6];refine fF (nY o6 he0) λr7=>?_;simp(disch:=omega)only[W_,eu,to];exact hQ _ _ _ _ _ (by omega) (λb hb=>(f5 b (by omega)).trans ((f4 b (by omega)).trans ((f3 b (by omega)).trans ((f2 b (by omega)).trans (f1 b hb))))) (by simp(disch:=omega)only[fB,eS,eR,and_self,g1,g3,g5]) (.inl ⟨_,he0,rfl⟩)
theorem Hn(h:FamR S m n cv mv vs){s t:ByteArray}(hv:gK vs s=none):Kp (fL PG EL Y 106 [fV cv mv,.string s,.string t] m n) m n λr m' n'=>r=.tuple #[wX,.int .i64 9]:=by refine gG (R:=λr m' n'=>r=.tuple #[wX,.int .i64 9]) e106 rfl λQ hQ=>?_;simp only[Jh,fV];have o1:=h.c.one;have o2:=h.m.one;simp(disch:=omega)only[W_,eu,to,o1,o2,dW o1,dW o2];obtain⟨fr,t0,t1⟩:=iu (m:=m) (n:=n) (a:=.cells [cv,mv] 0 false true) (b:=.cells [.slice none 0 0,.map none] 0 false true);revert fr t0 t1;generalize (If (If m n (some (.cells [cv,mv] 0 false true))) (n+1) (some (.cells [.slice none 0 0,.map none] 0 false true)):FM)=M0;intro fr t0 t1;have H0:=h.frame (N':=n+2) (by omega) fr;obtain⟨r,hl⟩:=sY H0.m hv;simp(disch:=omega)only[W_,eu,to,mE,hl,t1,kc];exact hQ _ _ _ _ _ (by omega) (λb hb=>(en _ _ _ _ (by omega)).trans ((en _ _ _ _ (by omega)).trans (fr b hb))) (by simp(disch:=omega)only[fB,eS,eR,and_self]) rfl rfl
theorem rL(h:Bts m n v bs)(hb:bs≠[])(hl:bs.length<=1000){t:ByteArray}(ht:t.size<=1000){lb:Nat}(hlb:lb<n)(hm:m lb=some (.cells (bytesOf t) 1 false false)):Rt (fL PG EL Y 87 [v,.slice (some ⟨lb,0,none⟩) t.size UNK] m n) λv' m' n' w=>n<=n'/\(∀b,b<n->m' b=m b)/\(∀j,j<=n->SL w (bit j)=0)/\Bts m' n' v' (bs++gL t.size++kN t):=by have X2:Bts m n (.slice (some ⟨lb,0,none⟩) t.size UNK) (kN t):=.inr ⟨lb,UNK,[],false,false,by rw[jb],hlb,by rw[SN,<-zM];exact hm⟩;have:=Bv (Y:=Y) h X2 (λe=>absurd e hb) (by omega) (by rw[jb];omega);rw[jb]at this;exact Rt.mono this λv' m' n' w ⟨a,b,c,d⟩=>⟨a,b,c,SlZ.bts d⟩
theorem EU(hU:YUp Y)(hC:me Y)(hN:qS Y)(hY:jf Y)(hM:lL Y 164)(h:j6 S m n b vs)(hI:Inv S vs)(hS:S<=65536)(h0:0<S){s t:ByteArray}(hs:nameOk s)(ht:nameOk t):Kp (fL PG EL Y 120 [mP b,.string s,.string t] m n) m n λres m' n'=>Af (∃v,gK vs s=some v/\kW vs t=0) (jD 4 s++gL t.size++kN t) res m' n':=by
 obtain⟨hb,cv,mv,hm,hF⟩:=h;have hs2:=hs.s2;have ht2:=ht.s2;have hhl:=kL (k:=4) (s:=s) (by omega) hs.s2;refine gN (R:=λres m' n'=>Af (∃v,gK vs s=some v/\kW vs t=0) (jD 4 s++gL t.size++kN t) res m' n') e120 rfl (λ_ _ _ hf h=>h.flat hf) λQ hQ=>?_;simp only[QU,mP];have o1:=hF.c.one;have o2:=hF.m.one;simp(disch:=omega)only[W_,eu,to,lg,hm,o1,o2]
 cases hv:gK vs s with
 |none=>refine fI (Hn hF hv) λv1 M1 n1 r1 w1 ⟨k1,f1,g1,hv1⟩=>?_;subst hv1;simp(disch:=omega)only[W_,eu,to,wX,fV,kc];have f2:∀b,b<n1->(If M1 n1 (some (.cells [.slice none 0 0,.map none] 0 false true)):FM) b=M1 b:=λb hb=>gu;refine fI (jB (k:=4) (s:=s) (by omega) (by omega)) λv3 M3 n3 r3 w3 ⟨k3,f3,g3,E3⟩=>?_;have o5:=E3.one;simp(disch:=omega)only[W_,eu,to,o5,mE,yE];have f4:∀b,b<n3->(If M3 n3 (some (.cells (bytesOf t) 1 false false)):FM) b=M3 b:=λb hb=>gu;refine fI (rL (E3.frame (N':=n3+1) (by omega) f4) (kI 4 s) (by omega) (t:=t) (by omega) (lb:=n3) (by omega) (eB _ _ _)) λv5 M5 n5 r5 w5 ⟨k5,f5,g5,E5⟩=>?_;have o6:=E5.one;simp(disch:=omega)only[W_,eu,to,o6];refine fF (nY o6 (by decide)) λr7=>?_;simp(disch:=omega)only[W_,eu,to];exact hQ _ _ _ _ _ (by omega) (λb hb=>(f5 b (by omega)).trans ((f4 b (by omega)).trans ((f3 b (by omega)).trans ((f2 b (by omega)).trans (f1 b hb))))) (by simp(disch:=omega)only[fB,eS,eR,and_self,g1,g3,g5]) (.inl ⟨_,by decide,rfl⟩)
 |some v=>
  refine fI (wH hU hM hC hF hI hS h0 hv ht) λv1 M1 n1 r1 w1 ⟨k1,f1,g1,hres⟩=>?_;rcases hres with⟨hz,cv',mv',hv1,F1⟩|⟨hz,hv1⟩
  ·subst hv1;have o3:=F1.c.one;have o4:=F1.m.one;have q3:=F1.c.gU;have q4:=F1.m.gU;have m1:=(f1 b hb).trans hm;simp(disch:=omega)only[W_,eu,to,fV,o1,o2,o3,o4,q3,q4,m1,dW o3,dW o4];have f2:∀b,b<n1->(If M1 n1 (some (.cells [cv',mv'] 0 false true)):FM) b=M1 b:=λb hb=>gu;refine fF (Ar hU hC hN hY ((hF.frame k1 f1).frame (N':=n1+1) (by omega) f2) hI hS hv) λr2=>?_;simp(disch:=omega)only[W_,eu,to];refine fI (jB (k:=4) (s:=s) (by omega) (by omega)) λv3 M3 n3 r3 w3 ⟨k3,f3,g3,E3⟩=>?_;have o5:=E3.one;simp(disch:=omega)only[W_,eu,to,o5,mE,yE];have f4:∀b,b<n3->(If M3 n3 (some (.cells (bytesOf t) 1 false false)):FM) b=M3 b:=λb hb=>gu;refine fI (rL (E3.frame (N':=n3+1) (by omega) f4) (kI 4 s) (by omega) (t:=t) (by omega) (lb:=n3) (by omega) (eB _ _ _)) λv5 M5 n5 r5 w5 ⟨k5,f5,g5,E5⟩=>?_;have o6:=E5.one;by_cases he:enE ((v.r-ix vs v:Nat):Int) (room S vs)=0
   ·rw[he];simp(disch:=omega)only[W_,eu,to,o6];refine fI (uu E5) λv7 M7 n7 r7 w7 ⟨k7,f7,g7,hv7,E7⟩=>?_;subst hv7;simp(disch:=omega)only[W_,eu,to,o6];exact hQ _ _ _ _ _ (by omega) (λb hb=>(f7 b (by omega)).trans ((f5 b (by omega)).trans ((f4 b (by omega)).trans ((f3 b (by omega)).trans ((f2 b (by omega)).trans (f1 b hb)))))) (by simp(disch:=omega)only[fB,eS,eR,and_self,g1,g3,g5,g7]) (.inr ⟨⟨v,hv,hz⟩,v5,rfl,E7⟩)
   ·simp(disch:=omega)only[W_,eu,to,o6];refine fF (nY o6 he) λr7=>?_;simp(disch:=omega)only[W_,eu,to];exact hQ _ _ _ _ _ (by omega) (λb hb=>(f5 b (by omega)).trans ((f4 b (by omega)).trans ((f3 b (by omega)).trans ((f2 b (by omega)).trans (f1 b hb))))) (by simp(disch:=omega)only[fB,eS,eR,and_self,g1,g3,g5]) (.inl ⟨_,he,rfl⟩)
  ·subst hv1;simp(disch:=omega)only[W_,eu,to,wX,fV,kc,hz];have f2:∀b,b<n1->(If M1 n1 (some (.cells [.slice none 0 0,.map none] 0 false true)):FM) b=M1 b:=λb hb=>gu;refine fI (jB (k:=4) (s:=s) (by omega) (by omega)) λv3 M3 n3 r3 w3 ⟨k3,f3,g3,E3⟩=>?_;have o5:=E3.one;simp(disch:=omega)only[W_,eu,to,o5,mE,yE];have f4:∀b,b<n3->(If M3 n3 (some (.cells (bytesOf t) 1 false false)):FM) b=M3 b:=λb hb=>gu;refine fI (rL (E3.frame (N':=n3+1) (by omega) f4) (kI 4 s) (by omega) (t:=t) (by omega) (lb:=n3) (by omega) (eB _ _ _)) λv5 M5 n5 r5 w5 ⟨k5,f5,g5,E5⟩=>?_;have o6:=E5.one;simp(disch:=omega)only[W_,eu,to,o6];refine fF (nY o6 hz) λr7=>?_;simp(disch:=omega)only[W_,eu,to];exact hQ _ _ _ _ _ (by omega) (λb hb=>(f5 b (by omega)).trans ((f4 b (by omega)).trans ((f3 b (by omega)).trans ((f2 b (by omega)).trans (f1 b hb))))) (by simp(disch:=omega)only[fB,eS,eR,and_self,g1,g3,g5]) (.inl ⟨_,hz,rfl⟩)
def inC(l:List Nat):List AT:=l.map λz:Nat=>Value.int .i64 (z:Int)
theorem IJ(l:List Nat):(inC l).length=l.length*1:=by simp[inC]
theorem aaO(a b:List Nat):inC (a++b)=inC a++inC b:=Uu ..
theorem Cp:∀l:List Nat,(inC l).all Am.one=true
 |[]=>rfl
 |x::xs=>by have:=Cp xs;simp only[inC,Uc,WZ]at this ⊢;rw[this];rfl
theorem abH{K:List Nat}(h:SlZ 1 M n0 N v L.length (inC L))(ya:Option VD)(yc ry:Nat)(h0:n0<=N)(hl:L.length+K.length<=1000000):
  Rt (nl 1 8 M N v (.slice ya K.length yc) (shown M N 1 v) (some (inC K,ry))) λv' M' N' w=>N<=N'/\N'<=N+1/\SlZ 1 M' n0 N' v' (L++K).length (inC (L++K))/\(∀b,b<n0->M' b=M b)/\(∀j,j<=n0->SL w (bit j)=0)/\(∀b,b<N->lP v b->M' b=M b)/\(∀b,b<N->lP v b->lP v' b):=by
 rcases h with⟨hL0,hE,rfl⟩|⟨hp,hcl,bx,rfl,hbx,hbN,hM⟩
 ·obtain rfl:=SV.1 hL0;rw[mg,j9,j8,show(inC K,ry).1.all Am.one=true from Cp K,gI (show 0<1 by omega),gI (show 0<8 by omega),iq (show(0+K.length)*8<=140737488355328 by omega)];rcases Ug K.length with h1|h1
  ·obtain rfl:=SV.1 h1;exact⟨IN _,Tf _,.inl ⟨rfl,rfl,rfl⟩,λ_ _=>rfl,λj _=>Wa _,λ_ _ _=>rfl,λ_ _ h=>h⟩
  ·show Rt (xd M N 1 0 K.length 0 [] (inC K) _ none) _;rw[nu h1];refine⟨Tf _,IN _,.inr ⟨by simpa using h1,IJ _,N,?_,h0,Td _,?_⟩,λb hb=>gu,λj hj=>eS (by omega),λb hb _=>gu,λb hb _ l k e=>?_⟩
   ·rw[TU];rfl
   ·exact eB _ _ _
   ·injection e with e;injection e with e;injection e with e;omega
 ·rw[jL hp,ig hbN,hM,jr,UA,ja,kT,lD hcl.symm];show Rt (nl 1 8 M N _ _ (some (inC L,bit bx)) _) _;rw[j9,j8,show(inC K,ry).1.all Am.one=true from Cp K,gI (show 0<1 by omega),gI (show 0<8 by omega),iq (show(L.length+K.length)*8<=140737488355328 by omega),np,ig hbN,hM,pd];refine⟨Tf _,IN _,.inr ⟨by rw[IT];omega,IJ _,N,by rw[IT],h0,Td _,by rw[aaO];exact eB _ _ _⟩,λb hb=>by rw[en _ _ _ _ (by omega),en _ _ _ _ (by omega)],λj hj=>(by simp(disch:=omega)only[fB,eS,eR,and_self]),λb hb hk=>by rw[en _ _ _ _ (by omega),en _ _ _ _ (by rintro rfl;exact hk _ _ rfl)],λb hb _ l k e=>?_⟩;injection e with e;injection e with e;injection e with e;omega
def Own(M:FM)(n0 N:Nat)(v:AT)(l:List Nat):Prop:=SlZ 1 M n0 N v l.length (inC l)
theorem Own.lP{k:Nat}{l:List Nat}{c:List AT}{o w:Bool}(h:Own M n0 N v l)(hk:M k=some (.cells c 0 o w)):lP v k:=by
 rintro a b rfl;rcases h with⟨_,_,e⟩|⟨_,_,b',e,_,hb',hm⟩
 ·cases e
 ·injection e with e;injection e with e;injection e with e
  subst e;rw[hk]at hm;injection hm with hm
  injection hm with _ hm
  cases hm
theorem Mw{n xb:Nat}{x:Ex}{m:FM}(hx:x.s+x.n<=65536)(p1 u6 u7 u8 u9 u10 u11 u12 e4 e5 lv:AT)(pre:List Nat)(hp:pre.length<=800000):
  ∀(d i:Nat),i+d=x.n->∀(ov u2:AT) (M:FM) (N:Nat),n<=N->n<=xb->xb<N->M xb=some (.cells [.int .i64 (x.a:Int),.int .i64 (x.n:Int),.int .i64 (x.s:Int)] 0 false true)->(∀b,b<n->M b=m b)->Own M n N ov (pre++TX x.s i)->
  Gv (gD PG EL Y xP [ov,.int .i64 (i:Int),u2,.int .i64 (x.n:Int),p1,.pointer (some ⟨xb,0,none⟩),u6,u7,u8,u9,u10,u11,u12,e4,e5,lv] M N) λX e M' N' w=>(∃ov' z1 z2 z3,X=.exit 2/\e=[ov',z1,z2,z3,p1,.pointer (some ⟨xb,0,none⟩),u6,u7,u8,u9,u10,u11,u12,e4,e5,lv]/\Own M' n N' ov' (pre++TX x.s x.n))/\N<=N'/\(∀b,b<n->M' b=m b)/\SL w (bit n)=0:=by
 intro d
 induction d with
 |zero=>
  intro i hi ov u2 M N hN hxb1 hxb hm hf hO;have oo:=SlZ.one hO;refine gA (L:=xP) (b:=sn) rfl ?_;simp only[sn];obtain rfl:i=x.n:=by omega
  simp(disch:=omega)only[W_,eu,to,oo];exact⟨⟨_,_,_,_,rfl,hO⟩,IN _,hf⟩
 |succ d ih=>
  intro i hi ov u2 M N hN hxb1 hxb hm hf hO;have oo:=SlZ.one hO;refine gA (L:=xP) (b:=sn) rfl ?_;simp only[sn];simp(disch:=omega)only[W_,eu,to,oo,hm];have fN:∀b,b<N->(If M N (some (.cells [.int .i64 ((x.s+i:Nat):Int)] 1 false true)):FM) b=M b:=λb hb=>gu;refine fI (abH (K:=[x.s+i]) (SlZ.frame hO (N':=N+1) (M':=If M N (some (.cells [.int .i64 ((x.s+i:Nat):Int)] 1 false true))) (by omega) λb _ hb=>fN b hb) _ _ _ (by omega) (by rw[IT,List.length_range',Tu];omega)) λv5 M5 n5 r5 w5 ⟨k5,k6,D5,f5,g5,t5,_⟩=>?_
  have hO5:Own M5 n n5 v5 (pre++TX x.s (i+1)):=by
   have e:TX x.s (i+1)=TX x.s i++[x.s+i]:=by rw[List.range'_concat];simp
   rw[e,<-S6];exact D5
  have o5:=SlZ.one hO5;simp(disch:=omega)only[W_,eu,to,o5];exact gR (ih (i+1) (by omega) _ _ M5 n5 (by omega) hxb1 (by omega) ((t5 xb (by omega) (hO.lP hm)).trans ((fN xb hxb).trans hm)) (λb hb=>(f5 b hb).trans ((fN b (by omega)).trans (hf b hb))) hO5) λX e m n w ⟨q1,q2,q3,q4⟩=>⟨q1,by omega,q3,(by simp(disch:=omega)only[fB,eS,eR,and_self,g5,q4])⟩
theorem Mv{L:List Ex}(hL:Exs m n lv L)(hs:∀x∈L,x.s+x.n<=65536)(hB:L.length<=100000)(hl:lens L<=65536)(e4 e5:AT):
  ∀(d j:Nat),j+d=L.length->∀(ov x2:AT) (M:FM) (N:Nat),n<=N->(∀b,b<n->M b=m b)->Own M n N ov (sL (L.take j))->
  Gv (gD PG EL Y xO [ov,.int .i64 (j:Int),x2,.int .i64 (L.length:Int),e4,e5,lv] M N) λX e M' N' w=>(∃ov' z1 z2,X=.exit 0/\e=[ov',z1,z2,e4,e5,lv]/\Own M' n N' ov' (sL L))/\N<=N'/\(∀b,b<n->M' b=m b)/\SL w (bit n)=0:=by
 have q:=hL.gO;have o:=hL.one;intro d
 induction d with
 |zero=>
  intro j hj ov x2 M N hN hf hO;have oo:=SlZ.one hO;refine gA (L:=xO) (b:=sk) rfl ?_;simp only[sk];obtain rfl:j=L.length:=by omega
  rw[List.take_length]at hO;simp(disch:=omega)only[W_,eu,to,oo];exact⟨⟨_,_,_,rfl,hO⟩,IN _,hf⟩
 |succ d ih=>
  intro j hj ov x2 M N hN hf hO;obtain⟨b,rest,opn,wr,hi,hb,hm⟩:=hL.at (by omega);have hmM:=(hf b hb).trans hm;obtain⟨c1,c2,c3,c4⟩:=jF (l:=L) (j:=j) rest (by omega);have oo:=SlZ.one hO;have hx:=hs L[j] (Tb _);have htk:sL (L.take (j+1))=sL (L.take j)++TX L[j].s L[j].n:=by rw[List.take_succ_eq_append_getElem (by omega),jt,iM,lI,SN,iz]
  have hlt:(sL (L.take j)).length<=65536:=by
   rw[iY];have h1:lens L=lens (L.take j)+lens (L.drop j):=by rw[<-gF,List.take_append_drop]
   omega
  refine gA (L:=xO) (b:=sk) rfl ?_;simp only[sk];simp(disch:=omega)only[W_,eu,to,hi j (by omega),hmM,c1,o,q,oo];have fx:∀b,b<N->(If M N (some (.cells [.int .i64 (L[j].a:Int),.int .i64 (L[j].n:Int),.int .i64 (L[j].s:Int)] 0 false true)):FM) b=M b:=λb hb=>gu;have t0:=eB M N (some (.cells [.int .i64 (L[j].a:Int),.int .i64 (L[j].n:Int),.int .i64 (L[j].s:Int)] 0 false true));revert fx t0;generalize (If M N (some (.cells [.int .i64 (L[j].a:Int),.int .i64 (L[j].n:Int),.int .i64 (L[j].s:Int)] 0 false true)):FM)=M0;intro fx t0
  refine ic (Mw (Y:=Y) (m:=m) (n:=n) (xb:=N) (x:=L[j]) hx (.pointer (some ⟨N,1,none⟩)) (.agg #[.int .i64 (L[j].a:Int),.int .i64 (L[j].n:Int),.int .i64 (L[j].s:Int)]) (.pointer (some ⟨b,j*3,none⟩)) (.bool true) ov (.int .i64 (j:Int)) x2 (.int .i64 (L.length:Int)) e4 e5 lv (sL (L.take j)) (by omega) L[j].n 0 (by omega) ov (.int .i64 0) M0 (N+1) (by omega) hN (by omega) t0 (λb hb=>(fx b (by omega)).trans (hf b hb)) (by
   show Own _ _ _ _ (sL (L.take j)++[]);rw[SN]
   exact SlZ.frame hO (by omega) λb _ hb=>fx b hb)) λX e M' N' r w ⟨⟨ov',z1,z2,z3,hX,he,hO'⟩,q2,q3,q4⟩=>?_
  subst hX he;rw[<-htk]at hO';have o6:=SlZ.one hO';simp(disch:=omega)only[W_,eu,to,o6];exact gR (ih (j+1) (by omega) _ _ M' N' (by omega) q3 hO') λX e m n w ⟨p1,p2,p3,p4⟩=>⟨p1,by omega,p3,(by simp(disch:=omega)only[fB,eS,eR,and_self,q4,p4])⟩
theorem Dz{L:List Ex}(hL:Exs m n lv L)(hs:∀x∈L,x.s+x.n<=65536)(hB:L.length<=100000)(hl:lens L<=65536):Rt (fL PG EL Y 190 [lv] m n) λv' m' n' w=>n<=n'/\(∀b,b<n->m' b=m b)/\(∀j,j<=n->SL w (bit j)=0)/\Own m' n n' v' (sL L):=by
 refine gN (R:=λv' m' n'=>Own m' n n' v' (sL L)) e190 rfl ?_ λQ hQ=>?_
 ·rintro v' m' n' hv h;rcases h with h|⟨_,_,b,rfl,_⟩
  ·exact .inl h
  ·cases hv
 simp only[QA];have o:=hL.one;have l:=hL.len;simp(disch:=omega)only[W_,eu,to,o,l];refine ic (Mv hL hs hB hl (.slice none 0 0) (.slice none 0 0) L.length 0 (by omega) (.slice none 0 0) (.int .i64 0) m n (IN _) (λ_ _=>rfl) (.inl ⟨rfl,rfl,rfl⟩)) λX e M' N' r w ⟨⟨ov',z1,z2,hX,he,hO⟩,q2,q3,q4⟩=>?_;subst hX he;have o3:=SlZ.one hO;simp(disch:=omega)only[W_,eu,to,o3];exact hQ _ _ _ _ _ q2 q3 (by simp(disch:=omega)only[fB,eS,eR,and_self,q4]) hO
def Rst(M:FM)(N:Nat)(v:AT)(full:List Nat)(i:Nat):Prop:=∃b,b<N/\M b=some (.cells (byC full) 1 true true)/\((i<full.length/\v=.slice (some ⟨b,i,none⟩) (full.length-i) UNK)\/(i=full.length/\∃o,v=.slice (some ⟨b,o,none⟩) 0 VAG))
def RdR(M:FM)(N rb:Nat)(full:List Nat)(i:Nat):Prop:=rb<N/\∃rv,M rb=some (.cells [rv,.bool false] 0 false true)/\Rst M N rv full i
theorem J8(h:Bts m n v bs)(h0:0<bs.length)(hl:bs.length<=100000):Kp (fL PG EL Y 40 [v] m n) m n λr m' n'=>∃rb,n<=rb/\r=.pointer (some ⟨rb,0,none⟩)/\RdR m' n' rb bs 0:=by
 refine gG (R:=λr m' n'=>∃rb,n<=rb/\r=.pointer (some ⟨rb,0,none⟩)/\RdR m' n' rb bs 0) e40 rfl λQ hQ=>?_;simp only[afg];have o:=h.one;simp(disch:=omega)only[W_,eu,to,o];refine fI (wI h (λe=>by rw[e]at h0;exact absurd h0 (by decide)) (by omega)) λv1 M1 n1 r1 w1 ⟨k1,f1,g1,E1⟩=>?_;have o1:=SlZ.one E1;rcases E1 with⟨e,_⟩|⟨a1,a2,b,rfl,a3,a4,a5⟩
 ·omega
 ·simp(disch:=omega)only[W_,eu,to,o1,dW o1];exact hQ _ _ _ _ _ (by omega) (λb hb=>gJ (by omega) (f1 b hb)) (by simp(disch:=omega)only[fB,eS,eR,and_self,g1]) rfl ⟨n1,k1,rfl,by omega,_,eB _ _ _,b,by omega,(en _ _ _ _ (by omega)).trans a5,.inl ⟨h0,rfl⟩⟩
theorem Kc(a:VD):nk PG .neq 113 (.pointer (some a)) (.pointer none)=some (.bool true):=by show cond (lK PG 113) (mQ .neq false) none=_;rw[show lK PG 113=true by kernel_rfl];rfl
theorem KL(a:VD):nk PG .eql 113 (.pointer (some a)) (.pointer none)=some (.bool false):=by rw[qB (by kernel_rfl)];rfl
theorem G9(h:RdR m n rb full full.length):Pure (fL PG EL Y 44 [.pointer (some ⟨rb,0,none⟩)] m n) m n (.int .i64 0):=by
 obtain⟨hb,rv,hm,b,hb2,hm2,h3⟩:=h;rcases h3 with⟨h3,_⟩|⟨_,o,rfl⟩
 ·omega
 ·refine gC e44 rfl rfl ?_;simp only[afc];have hl:qR false (.slice (some ⟨b,o,none⟩) 0 VAG)=some (.int .i64 0):=rfl;simp(disch:=omega)only[W_,eu,to,Kc,hm,hl]
def mI(w n rb:Nat):Prop:=∀j,j<n->j≠rb->U5 w j=false
structure RdE(n rb:Nat)(full:List Nat)(i:Nat)(m m':FM)(n' w:Nat):Prop where
 t:U5 w rb=true
 k:n<=n'
 r:RdR m' n' rb full i
 f:∀b,b<n->b≠rb->m' b=m b
 w:mI w n rb
theorem yY(e:List AT)(x:Opd):oev e (some x)=some (ev e x):=rfl
theorem yZ(e:List AT):oev e none=none:=rfl
theorem yp{k:Nat}(h:RdR m n rb full i)(hk:1<=k)(hi:i+k<=full.length)(hl:full.length<=1000000):Rt (fL PG EL Y 95 [.pointer (some ⟨rb,0,none⟩),.int .u64 (k:Int)] m n) λv m' n' w=>U5 w rb=true/\((∃b,v=.tuple #[.slice (some ⟨b,i,none⟩) k k,.int .i64 0]/\b<n/\b≠rb/\m b=some (.cells (byC full) 1 true true))/\n'=n/\RdE n rb full (i+k) m m' n' w):=by
 obtain⟨hb,rv,hm,b,hb2,hm2,h3⟩:=h;rcases h3 with⟨h3,rfl⟩|⟨h3,_⟩
 ·have hne:b≠rb:=λe=>by
   rw[e,hm]at hm2;injection hm2 with hm2
   injection hm2 with _ hm2
   cases hm2
  refine jO e95 rfl hb λQ hQ=>?_;simp only[aeJ];have hl1:qR false (.slice (some ⟨b,i,none⟩) (full.length-i) UNK)=some (.int .i64 ((full.length-i:Nat):Int)):=rfl;have hcv:pP .u64 (.int .i64 ((full.length-i:Nat):Int))=some (.int .u64 ((full.length-i:Nat):Int)):=cvU (by omega);have hsx:lu PG .slx [.slice (some ⟨b,i,none⟩) (full.length-i) UNK,.int .u64 (k:Int),.int .u64 (k:Int)] m n=.ok (.slice (some ⟨b,i,none⟩) k k) m n 0 0:=by show iK m n (cond (SF k k&&Tj k (full.length-i)&&Te k UNK&&Tj UNK UNK) _ none)=_;rw[UA,iq (show k<=full.length-i by omega),gI (show k<UNK by unfold UNK;omega),iq (IN UNK)];rfl
  have hslc:∃rv',wV m n 1 (wU 1 (some (.int .u64 (k:Int))) none (.slice (some ⟨b,i,none⟩) (full.length-i) UNK)) (.slice (some ⟨b,i,none⟩) (full.length-i) UNK)=.ok rv' m n (bit b) 0/\Rst m n rv' full (i+k)/\Am.one rv'=true:=by
   have e1:wU 1 (some (.int .u64 (k:Int))) none (.slice (some ⟨b,i,none⟩) (full.length-i) UNK)=cond (Te k (full.length-i) || SF k 0) (some (.slice (some ⟨b,Nat.add i (Nat.mul k 1),none⟩) (full.length-i-k) UNK)) (some (.slice (some ⟨b,i,none⟩) 0 VAG)):=by show cond (Tj k (full.length-i)&&Tj (full.length-i) (full.length-i)) (RR 1 k (full.length-i) (full.length-i) UNK (some ⟨b,i,none⟩)) none=_;rw[iq (show k<=full.length-i by omega),iq (IN _)];rfl
   have e2:∀v:AT,wV m n 1 (some v) (.slice (some ⟨b,i,none⟩) (full.length-i) UNK)=.ok v m n (bit b) 0:=λv=>by show cond (SF UNK UNK) (cond (BJ 1 (jc m n b)) (py m n b (some v)) .no) (iK m n (some v))=_;rw[UA,ig hb2,hm2];rfl
   by_cases c:k<full.length-i
   ·rw[gI c]at e1;refine⟨_,by rw[e1];exact e2 _,⟨b,hb2,hm2,.inl ⟨by omega,?_⟩⟩,rfl⟩;show Value.slice (some ⟨b,i+k*1,none⟩) _ _=_;rw[Nat.mul_one,Nat.sub_sub]
   ·have hf:(Te k (full.length-i) || SF k 0)=false:=by
     rw[Bool.or_eq_false_iff];constructor
     ·cases h:Te k (full.length-i)
      ·rfl
      ·exact absurd (Nat.le_of_ble_eq_true h) (by omega)
     ·cases h:SF k 0
      ·rfl
      ·exact absurd (Nat.eq_of_beq_eq_true h) (by omega)
    rw[hf]at e1;exact⟨_,by rw[e1];exact e2 _,⟨b,hb2,hm2,.inr ⟨by omega,i,rfl⟩⟩,rfl⟩
  obtain⟨rv',hslc,hrst,hone⟩:=hslc;simp(disch:=omega)only[W_,eu,to,KL,hm,hl1,hcv,mE,hsx,MC,yY,yZ,hslc,hone,dW hone];refine hQ _ _ _ _ _ (by simp only[gv,gx];simp) ⟨⟨b,rfl,hb2,hne,hm2⟩,rfl,⟨by simp only[gv,gx];simp,IN _,⟨hb,rv',eB _ _ _,?_⟩,λc _ hc=>en _ _ _ _ hc,λj hj hj2=>by simp only[gv,gx,Nat.zero_testBit,Bool.or_false,Bool.false_or];simp;omega⟩⟩;obtain⟨b',h1,h2,h4⟩:=hrst;refine⟨b',h1,?_,h4⟩
  have:b'≠rb:=λe=>by
   rw[e,hm]at h2;injection h2 with h2
   injection h2 with _ h2
   cases h2
  exact(en _ _ _ _ this).trans h2
 ·omega
theorem wrap64(h:x<2 ^ 64):IntKind.u64.wrap (x:Int)=(x:Int):=by
 have e:∀a:Int,IntKind.u64.wrap a=a % 18446744073709551616:=λa=>by simp[WH,Wp,WI]
 rw[e];exact Xd (by omega) (by omega)
theorem shl91{x k:Nat}(hk:k<=64)(h:x*2 ^ k<2 ^ 64):vQ PG .shl 91 (.int .u64 (x:Int)) (.int .i64 (k:Int))=some (.int .u64 ((x*2 ^ k:Nat):Int)):=by
 show oX (gM PG (eqGuard .shl 91 (.tmp 0) (.tmp 0) (.int .u64 (x:Int)) (.int .i64 (k:Int)) >>= λ_=>Op.shift .shl .u64 (x:Int) .i64 (k:Int)))=_;have:Op.shift .shl .u64 (x:Int) .i64 (k:Int)=pure (.int .u64 (IntKind.u64.wrap ((x:Int)*2 ^ min (k:Int).toNat IntKind.u64.bits))):=by unfold Op.shift;rw[if_neg (by omega)]
 rw[this];show some (Value.int .u64 (IntKind.u64.wrap ((x:Int)*2 ^ min (k:Int).toNat 64)))=_;rw[Int.toNat_natCast,Nat.min_eq_left hk,show(x:Int)*2 ^ k=((x*2 ^ k:Nat):Int) by push_cast;rfl,wrap64 h]
theorem Sz(a b:Int):vQ PG .or 91 (.int .u64 a) (.int .u64 b)=some (.int .u64 (IntKind.u64.wrap ((Ui 64 a ||| Ui 64 b).toNat:Int))):=rfl
theorem or91{A u k:Nat}(hA:A<2 ^ k)(hk:A+u*2 ^ k<2 ^ 64):vQ PG .or 91 (.int .u64 (A:Int)) (.int .u64 ((u*2 ^ k:Nat):Int))=some (.int .u64 ((A+u*2 ^ k:Nat):Int)):=by
 rw[Sz];have e1:(Ui 64 (A:Int) ||| Ui 64 ((u*2 ^ k:Nat):Int)).toNat=A+u*2 ^ k:=by rw[BitVec.toNat_or,Ws,Ws,VM,VM,Vm (by omega),Vm (by omega),Nat.mul_comm u,Nat.or_comm,<-Nat.two_pow_add_eq_or_of_lt hA,Nat.add_comm]
 rw[e1,wrap64 hk]
theorem Pa(a b:Int):vQ PG .and 91 (.int .u64 a) (.int .u64 b)=some (.int .u64 (IntKind.u64.wrap ((Ui 64 a &&& Ui 64 b).toNat:Int))):=rfl
theorem acQ{c:Nat}(h:c<256):vQ PG .and 91 (.int .u64 (c:Int)) (.int .u64 127)=some (.int .u64 ((c % 128:Nat):Int)):=by
 rw[Pa];have e1:(Ui 64 (c:Int) &&& Ui 64 127).toNat=c % 128:=by rw[BitVec.toNat_and,Ws,show Ui 64 127=BitVec.ofNat 64 127 by decide,VM,VM,Vm (show c<2 ^ 64 by omega),Vm (show 127<2 ^ 64 by omega)];exact Nat.and_two_pow_sub_one_eq_mod c 7
 rw[e1,wrap64 (by omega)]
theorem cv64{x:Nat}(h:x<256):pP .u64 (.int .u8 (x:Int))=some (.int .u64 (x:Int)):=by show some (Value.int .u64 (mu .u64 (x:Int)))=_;rw[jo,wrap64 (by omega)]
theorem RdE.trans{n1 n2 j w1 w2:Nat}{m1 m2:FM}(h:RdE n rb full i m m1 n1 w1)(h':RdE n1 rb full j m1 m2 n2 w2):RdE n rb full j m m2 n2 (Nat.lor w1 w2):=⟨by rw[gv,h.t];rfl,Tz h.k h'.k,h'.r,λb hb hne=>(h'.f b (TC hb h.k) hne).trans (h.f b hb hne),λj hj hne=>by rw[gv,h.w j hj hne,h'.w j (TC hj h.k) hne];rfl⟩
theorem Rx{k i0:Nat}(hk:k<=2000000)(hl:full.length<=1000000)(e4 e5 e6 e7:AT):
  ∀(d j acc q pw:Nat) (x0 x1:AT) (m:FM) (n:Nat),j+d=3->pw=2 ^ (7*j)->acc<pw->acc+q*pw=k->(j=0\/1<=q)->q<128 ^ d->RdR m n rb full (i0+j)->full.drop (i0+j)=gL q++rest->
  Gv (gD PG EL Y HY [x0,x1,.int .u64 (acc:Int),.int .i64 (j:Int),e4,e5,e6,e7,mP rb] m n) λX e m' n' w=>X=.ret (.tuple #[.int .u64 (k:Int),.int .i64 0])/\n'=n/\RdE n rb full (i0+j+(gL q).length) m m' n' w:=by
 intro d
 induction d with
 |zero=>intro j acc q pw x0 x1 m n hj hp ha hq h1 h2;simp at h2;omega
 |succ d ih=>
  intro j acc q pw x0 x1 m n hj hp ha hq h1 h2 hR hd;have hlen:=congrArg U9 hd;have hne:=Cu q;have hi:i0+j+1<=full.length:=by rw[List.length_drop,IT]at hlen;have:0<(gL q).length:=List.length_pos_iff.2 hne;omega
  refine gA (L:=HY) (b:=CY) rfl ?_;simp only[CY];simp(disch:=omega)only[W_,eu,to];refine fI (yp hR (IN 1) hi hl) λv1 M1 n1 r1 w1 ⟨t1,⟨b,hv1,hb,hbr,hm⟩,hn1,E1⟩=>?_;subst hv1 hn1;obtain⟨c,hc⟩:∃c,full[i0+j]?=some c:=⟨full[i0+j],List.getElem?_eq_getElem (by omega)⟩;have hm1:=(E1.f b hb hbr).trans hm;have hg:lC (byC full) (i0+j)=some (.int .u8 (c:Int)):=by rw[kD,byC,List.getElem?_map,hc];rfl
  have hc0:(gL q++rest)[0]?=some c:=by rw[<-hd,List.getElem?_drop,Nat.add_zero];exact hc
  have hpw:pw<=2 ^ 14:=by rw[hp];exact Nat.pow_le_pow_right (by omega) (by omega)
  have hsft:7*(j:Int)=((7*j:Nat):Int):=by omega
  have hfin:(q % 128)*pw<=q*pw:=Yf _ (Nat.mod_le _ _);have hqk:q*pw<=2000000:=by omega
  have hsh:=shl91 (x:=q % 128) (k:=7*j) (by omega) (by rw[<-hp];omega);rw[<-hp]at hsh;have hor:=or91 (A:=acc) (u:=q % 128) (k:=7*j) (by rw[<-hp];exact ha) (by rw[<-hp];omega);rw[<-hp]at hor;by_cases c1:q<128
  ·rw[oZ c1]at hc0 ⊢;obtain rfl:q=c:=by simpa using hc0
   have hcv:=cv64 (x:=q) (by omega);have han:=acQ (c:=q) (by omega);rw[Vm c1]at han hsh hor;have hE:RdE n1 rb full (i0+j+[q].length) m M1 n1 w1:=E1;have hfi:(Value.tuple #[Value.int IntKind.u64 ((acc+q*pw:Nat):Int),Value.int IntKind.i64 0]=Value.tuple #[Value.int IntKind.u64 (k:Int),Value.int IntKind.i64 0]):=by rw[hq]
   rcases h1 with h1|h1
   ·by_cases hz:q=0
    ·simp(disch:=omega)only[W_,eu,to,hm1,hg,hcv,AG,han,hsft,hsh,hor];exact⟨hfi,hE⟩
    ·simp(disch:=omega)only[W_,eu,to,hm1,hg,hcv,AG,han,hsft,hsh,hor];exact⟨hfi,hE⟩
   ·simp(disch:=omega)only[W_,eu,to,hm1,hg,hcv,AG,han,hsft,hsh,hor];exact⟨hfi,hE⟩
  ·rw[tc c1]at hc0 hd ⊢;obtain rfl:q % 128+128=c:=by simpa using hc0
   have hcv:=cv64 (x:=q % 128+128) (by omega);have han:=acQ (c:=q % 128+128) (by omega);rw[show(q % 128+128) % 128=q % 128 by omega]at han;simp(disch:=omega)only[W_,eu,to,hm1,hg,hcv,AG,han,hsft,hsh,hor];have hdm:q=q / 128*128+q % 128:=by omega
   have hsum:acc+q % 128*pw+q / 128*(pw*128)=k:=by
    rw[<-hq]
    conv=>rhs;rw[hdm,Nat.add_mul]
    rw[Nat.mul_assoc,Nat.mul_comm 128 pw];omega
   have hp2:pw*128=2 ^ (7*(j+1)):=by rw[hp,Nat.mul_add,Nat.pow_add]
   have hlt:acc+q % 128*pw<pw*128:=by have:q % 128*pw<=127*pw:=Yf _ (by omega);omega
   have hq2:q / 128<128 ^ d:=by rw[Nat.pow_succ]at h2;exact Nat.div_lt_of_lt_mul (by omega)
   have hd2:full.drop (i0+(j+1))=gL (q / 128)++rest:=by rw[<-Nat.add_assoc,<-List.drop_drop,hd];rfl
   have hR2:RdR M1 n1 rb full (i0+(j+1)):=E1.r;refine gR (ih (j+1) _ (q / 128) (pw*128) _ _ M1 n1 (by omega) hp2 hlt hsum (.inr (by omega)) hq2 hR2 hd2) λX e m2 n2 w ⟨p1,p2,p3⟩=>⟨p1,p2,?_⟩;have:=E1.trans p3;rw[SA]
   rwa [show i0+(j+1)+(gL (q / 128)).length=i0+(j+((gL (q / 128)).length+1)) by omega]at this
theorem vp{k:Nat}{rest:List Nat}(h:RdR m n rb full i)(hk:k<=2000000)(hl:full.length<=1000000)(hd:full.drop i=gL k++rest):Rt (fL PG EL Y 41 [mP rb] m n) λv m' n' w=>v=.tuple #[.int .u64 (k:Int),.int .i64 0]/\n'=n/\RdE n rb full (i+(gL k).length) m m' n' w:=by refine(jO (R:=λv m' n' w=>v=.tuple #[.int .u64 (k:Int),.int .i64 0]/\n'=n/\RdE n rb full (i+(gL k).length) m m' n' w) e41 rfl h.1 λQ hQ=>?_).mono λv m' n' w h=>h.2;simp only[aff];simp(disch:=omega)only[W_,eu,to];refine ic (Rx hk hl _ _ _ _ 3 0 0 k 1 _ _ m n rfl rfl (by omega) (by omega) (.inl rfl) (by omega) h hd) λX e m2 n2 r w ⟨p1,p2,p3⟩=>?_;subst p1;simp(disch:=omega)only[W_,eu,to];exact hQ _ _ _ _ _ p3.t ⟨rfl,p2,p3⟩
end Go.Am.CR
