/- The machine and its runs, part 12. -/
import Derived.Test.YtiibhndkoknmnaaGreatDoorB11
set_option linter.unusedVariables false
set_option linter.unusedSimpArgs false
open Go renaming Value→AT,Program→SZ
open Nat renaming mod→SL,reduceAdd→to,reduceMul→IS,min→Tg,le_refl→IN,testBit→U5,reduceShiftRight→AS,reduceAnd→By,reduceBNe→BY,add_sub_cancel_left→VG,lt_or_ge→Yx
open List renaming nodup_append→T',mem_filter→TY,mem_append→Tw,length_append→IT,filter_congr→Wd,nil_append→SJ,append_nil→SN,cons_append→SK,length_cons→SA,mem_cons→TG,getElem_mem→Tb,findIdx?_eq_some_iff_getElem→WV,filter_sublist→U0,filter_cons_of_pos→TZ,filter_cons_of_neg→T9,length_map→SC,map_cons→Uc,mem_map→Us
open List.Perm renaming of_eq→XD,refl→XL
open Bool renaming and_eq_true→No
open Prod renaming fst→UQ
open Go.Am.AMem renaming put→If
namespace Go.Am.CR
set_option maxRecDepth 100000
open Go Go.Am
variable{Y:Nat->List AT->FM->Nat->OR FM}
variable{n k S t sz b0 N' N:Nat}{m M M':FM}{R L:List Ex}{rv v lv:AT}{ow wr:Bool}
def Ag(Y:Nat->List AT->FM->Nat->OR FM):Prop:=
 ∀(m:FM) (n lb k:Nat) (v1 v2:AT) (L1 L2:List Ex) (opn wr:Bool),lb<n->m lb=some (.cells [v1,v2] 1 opn wr)->Exs m n v1 L1->Exs m n v2 L2->L1.length+L2.length<=200000->
  Rt (Y 350 [.slice (some ⟨lb,0,none⟩) 2 k] m n) λv m' n' w=>n<=n'/\(∀b,b<n->m' b=m b)/\(∀j,j<=n->SL w (bit j)=0)/\Exs m' n' v (L1++L2)
theorem J4{a b:List Nat}(ha:a.Nodup)(hb:b.Nodup)(h:∀s∈a,s∈b):b.Perm (a++b.filter λs=>!decide (s∈a)):=by
 refine(List.perm_ext_iff_of_nodup hb ?_).2 λs=>?_
 ·refine T'.2 ⟨ha,hb.filter _,λx hx y hy e=>?_⟩;subst e;have:=(TY.1 hy).2;simp[hx]at this
 ·rw[Tw,TY];by_cases hs:s∈a
  ·simp[hs,h s hs]
  ·simp[hs]
theorem BQ(h:RL L)(hn:(sL L).Nodup):NF (rnF (iL L))/\(sL (rnF (iL L))).Perm (sL L)/\RL (rnF (iL L)):=by have hsd:=yx (λx hx=>by have:=h x hx;omega) hn;obtain⟨a1,a2⟩:=yK hsd;exact⟨a1,by rw[a2];exact BP (ku L),λx hx=>a1.1 x hx⟩
theorem Exs.rn{M':FM}{c:List AT}{s:Nat}{o w:Bool}(h:Exs M N v L)(hk:M k=some (.cells c s o w))(hs:s≠3)(hM:∀b,b≠k->M' b=M b)(hN:N<=N'):Exs M' N' v L:=by
 rcases h.other hk hs hM with h|⟨b,j,rest,opn,wr,h1,h3,h4⟩
 ·exact .inl h
 ·exact .inr ⟨b,j,rest,opn,wr,h1,by omega,h4⟩
theorem AV(hY:jf Y){S:Nat}(hL:Exs m n lv L)(hR:Exs m n rv R)(hRr:RL R)(hRn:(sL R).Nodup)(hRs:lens R<=65536)(hS:S<=65536)(hl:∀x∈L,1<=x.n/\x.s+x.n<=S/\x.a=0)(hn:(sL L).Nodup)(hsub:∀s∈sL L,s∈sL R):Kp (fL PG EL Y 276 [.agg #[.int .i64 (S:Int),rv],lv] m n) m n λv m' n'=>∃rv' R',v=.tuple #[.agg #[.int .i64 (S:Int),rv'],.int .i64 0]/\Exs m' n' rv' R'/\RL R'/\(sL R').Perm ((sL R).filter λs=>!decide (s∈sL L)):=by
 have hRL:RL L:=λx hx=>by have:=hl x hx;omega
 have hpp:=J4 hn hRn hsub;have hLs:lens L<=65536:=by have:=hpp.length_eq;rw[IT,iY,iY]at this;omega
 have hlen:=hRL.kP;have hlr:=hRr.kP;obtain⟨b1,b2,b3⟩:=BQ hRL hn;have hsz:lens (rnF (iL L))=lens L:=by rw[<-iY,b2.length_eq,iY]
 have hlb:=b3.kP;obtain⟨wo1,wo2⟩:=BC (rnF (iL L)) R hRr;have hwl:=wo1.kP;have w3:(sL (woF R (rnF (iL L)))).Perm ((sL R).filter λs=>!decide (s∈sL L)):=wo2.trans (XD (Wd λs _=>by rw[decide_eq_decide.2 (b2.mem_iff)]));have hsum:lens (woF R (rnF (iL L)))+lens L=lens R:=by have h1:=w3.length_eq;have h2:=hpp.length_eq;rw[iY]at h1;rw[IT,iY,iY]at h2;omega
 refine gG (R:=λv m' n'=>∃rv' R',v=.tuple #[.agg #[.int .i64 (S:Int),rv'],.int .i64 0]/\Exs m' n' rv' R'/\RL R'/\(sL R').Perm ((sL R).filter λs=>!decide (s∈sL L))) e276 rfl λQ hQ=>?_;simp only[P'];have o:=hL.one;have or:=hR.one;simp(disch:=omega)only[W_,eu,to,IS,o,or,dW or];have fr:∀b,b<n->(If (If m n (some (.cells [.int .i64 (S:Int),rv] 0 false true))) (n+1) (some (.cells [.int .i64 0,.slice none 0 0] 0 false true)):FM) b=m b:=λb hb=>(en _ _ _ _ (by omega)).trans (en _ _ _ _ (by omega));have t0:(If (If m n (some (.cells [.int .i64 (S:Int),rv] 0 false true))) (n+1) (some (.cells [.int .i64 0,.slice none 0 0] 0 false true)):FM) n=some (.cells [.int .i64 (S:Int),rv] 0 false true):=(en _ _ _ _ (by omega)).trans (eB _ _ _);have t1:=eB (If m n (some (.cells [.int .i64 (S:Int),rv] 0 false true))) (n+1) (some (.cells [.int .i64 0,.slice none 0 0] 0 false true));revert fr t0 t1;generalize (If (If m n (some (.cells [.int .i64 (S:Int),rv] 0 false true))) (n+1) (some (.cells [.int .i64 0,.slice none 0 0] 0 false true)):FM)=M0;intro fr t0 t1;refine fI (qM hY (hL.frame (N':=n+2) (by omega) fr) hS or hl hn hLs) λv1 M1 n1 r1 w1 ⟨k1,f1,g1,fv,hv1,F1⟩=>?_;subst hv1;have of:=F1.one;have u0:=(f1 n (by omega)).trans t0;have u1:=(f1 (n+1) (by omega)).trans t1;have R1:=hR.frame (M':=M1) (N':=n1) (by omega) λb hb=>(f1 b (by omega)).trans (fr b hb);simp(disch:=omega)only[W_,eu,to,IS,of,u0,or];refine fI (BD R1 F1 hRr hRs b3 (by omega)) λv2 M2 n2 r2 w2' ⟨k2,f2,g2,W2⟩=>?_;have ow:=W2.one;have qw:=W2.gO;have F2:=F1.frame k2 f2;have qf:=F2.gO;have u2:=(f2 n (by omega)).trans u0;have u3:=(f2 (n+1) (by omega)).trans u1;have R2:=R1.frame k2 f2;have qr:=R2.gO;simp(disch:=omega)only[W_,eu,to,IS,ow,of,qw,qf];refine gS (jW W2 (by omega) (by omega)) λr3=>?_;simp(disch:=omega)only[W_,eu,to,IS,ow,of,qf];refine gS (jW F2 (by rw[hsz];omega) (by omega)) λr4=>?_;simp(disch:=omega)only[W_,eu,to,IS,u2,or,qr];refine gS (jW R2 (by omega) (by omega)) λr5=>?_;rw[hsz];simp(disch:=omega)only[W_,eu,to,IS,hsum,u2,u3,ow,dW ow];refine hQ _ _ _ _ _ (by omega) (λb hb=>by rw[en _ _ _ _ (by omega),f2 b (by omega),f1 b (by omega),fr b hb]) (by simp(disch:=omega)only[fB,eS,eR,and_self,g1,g2]) rfl ⟨v2,_,rfl,W2.other u3 (by simp) λb hb=>en _ _ _ _ hb,wo1,w3⟩
theorem Gc(hR:Exs m n rv R)(hB:R.length<=100000):Kp (fL PG EL Y 277 [.agg #[.int .i64 (S:Int),rv]] m n) m n λv m' n'=>Exs m' n' v R:=by
 refine gN (R:=λv m' n'=>Exs m' n' v R) e277 rfl (λ_ _ _ h1 h2=>h2.free h1) λQ hQ=>?_;simp only[P9];have or:=hR.one;simp(disch:=omega)only[W_,eu,to,IS,or,dW or];refine fI (rM (hR.frame (N':=n+1) (by omega) λb hb=>gu) (by omega)) λv2 M2 n2 r2 w2 ⟨k2,f2,g2,h2⟩=>?_
 have E2:Exs M2 n2 v2 R:=by
  rcases h2 with⟨rfl,rfl⟩|⟨b,k,rest,rfl,hb1,hb2,opn,hm2⟩
  ·exact .inl ⟨rfl,rfl⟩
  ·exact .inr ⟨b,k,rest,opn,true,rfl,hb2,hm2⟩
 have o2:=E2.one;simp(disch:=omega)only[W_,eu,to,IS,o2];exact hQ _ _ _ _ _ (by omega) (λb hb=>(f2 b (by omega)).trans (en _ _ _ _ (by omega))) (by simp(disch:=omega)only[fB,eS,eR,and_self,g2]) E2
theorem zt{S:Nat}(hR:Exs m n rv R)(hs:lens R<=1000000)(hB:R.length<=1000000):Pure (fL PG EL Y 279 [.agg #[.int .i64 (S:Int),rv]] m n) m n (.int .i64 (lens R:Int)):=by refine gC e279 rfl rfl ?_;simp only[PY];have or:=hR.one;simp(disch:=omega)only[W_,eu,to,IS,or,dW or];refine fF (jW (hR.frame (N':=n+1) (by omega) λb hb=>gu) hs hB) λr1=>?_;simp(disch:=omega)only[W_,eu,to,IS]
theorem Ka{S:Nat}(hS:S<=65536)(h0:0<S):Kp (fL PG EL Y 274 [.int .i64 (S:Int)] m n) m n λv m' n'=>∃rv,v=.tuple #[.agg #[.int .i64 (S:Int),rv],.int .i64 0]/\Exs m' n' rv [⟨0,S,0⟩]:=by refine gG (R:=λv m' n'=>∃rv,v=.tuple #[.agg #[.int .i64 (S:Int),rv],.int .i64 0]/\Exs m' n' rv [⟨0,S,0⟩]) e274 rfl λQ hQ=>?_;simp only[Qb];simp(disch:=omega)only[W_,eu,to,IS];refine hQ _ _ _ _ _ (by omega) (λb hb=>by rw[en _ _ _ _ (by omega),en _ _ _ _ (by omega),en _ _ _ _ (by omega)]) (by simp(disch:=omega)only[fB,eS,eR,and_self]) rfl ⟨_,rfl,.inr ⟨n+1,1,[],false,true,rfl,by omega,by rw[en _ _ _ _ (by omega),eB];rfl⟩⟩
theorem KA(hY:jf Y)(hC:Ag Y){S:Nat}(hL:Exs m n lv L)(hR:Exs m n rv R)(hRr:RL R)(hS:S<=65536)(hl:∀x∈L,1<=x.n/\x.s+x.n<=S/\x.a=0)(hn:(sL R++sL L).Nodup)(hRs:lens R+lens L<=65536):Kp (fL PG EL Y 278 [.agg #[.int .i64 (S:Int),rv],lv] m n) m n λv m' n'=>∃rv' R',v=.tuple #[.agg #[.int .i64 (S:Int),rv'],.int .i64 0]/\Exs m' n' rv' R'/\RL R'/\SD R'/\(sL R').Perm (sL R++sL L):=by
 have hRL:RL L:=λx hx=>by have:=hl x hx;omega
 have hlen:=hRL.kP;have hlr:=hRr.kP;have hnn:=T'.1 hn;obtain⟨b1,b2,b3⟩:=BQ hRL hnn.2.1;have hsz:lens (rnF (iL L))=lens L:=by rw[<-iY,b2.length_eq,iY]
 have hlb:=b3.kP;have hA:RL (R++rnF (iL L)):=hRr.append b3;have hAn:(sL (R++rnF (iL L))).Nodup:=by rw[jt];exact((XL (sL R)).append b2).nodup_iff.2 hn
 obtain⟨c1,c2,c3⟩:=BQ hA hAn;have hsz2:lens (rnF (iL (R++rnF (iL L))))=lens R+lens L:=by rw[<-iY,c2.length_eq,jt,IT,iY,iY,hsz]
 have hlc:=c3.kP;refine gG (R:=λv m' n'=>∃rv' R',v=.tuple #[.agg #[.int .i64 (S:Int),rv'],.int .i64 0]/\Exs m' n' rv' R'/\RL R'/\SD R'/\(sL R').Perm (sL R++sL L)) e278 rfl λQ hQ=>?_;simp only[PZ];have o:=hL.one;have or:=hR.one;simp(disch:=omega)only[W_,eu,to,IS,o,or,dW or];have fr:∀b,b<n->(If (If m n (some (.cells [.int .i64 (S:Int),rv] 0 false true))) (n+1) (some (.cells [.int .i64 0,.slice none 0 0] 0 false true)):FM) b=m b:=λb hb=>(en _ _ _ _ (by omega)).trans (en _ _ _ _ (by omega));have t0:(If (If m n (some (.cells [.int .i64 (S:Int),rv] 0 false true))) (n+1) (some (.cells [.int .i64 0,.slice none 0 0] 0 false true)):FM) n=some (.cells [.int .i64 (S:Int),rv] 0 false true):=(en _ _ _ _ (by omega)).trans (eB _ _ _);have t1:=eB (If m n (some (.cells [.int .i64 (S:Int),rv] 0 false true))) (n+1) (some (.cells [.int .i64 0,.slice none 0 0] 0 false true));revert fr t0 t1;generalize (If (If m n (some (.cells [.int .i64 (S:Int),rv] 0 false true))) (n+1) (some (.cells [.int .i64 0,.slice none 0 0] 0 false true)):FM)=M0;intro fr t0 t1;refine fI (qM hY (hL.frame (N':=n+2) (by omega) fr) hS or hl hnn.2.1 (by omega)) λv1 M1 n1 r1 w1 ⟨k1,f1,g1,fv,hv1,F1⟩=>?_;subst hv1;have of:=F1.one;have u0:=(f1 n (by omega)).trans t0;have u1:=(f1 (n+1) (by omega)).trans t1;have R1:=hR.frame (M':=M1) (N':=n1) (by omega) λb hb=>(f1 b (by omega)).trans (fr b hb);simp(disch:=omega)only[W_,eu,to,IS,of,u0,or,dW of,dW or];have f1':∀b,b<n1->(If M1 n1 (some (.cells [rv,fv] 1 false true)):FM) b=M1 b:=λb hb=>gu;have hc:=hC (If M1 n1 (some (.cells [rv,fv] 1 false true))) (n1+1) n1 2 rv fv R (rnF (iL L)) false true (by omega) (eB _ _ _) (R1.frame (by omega) f1') (F1.frame (by omega) f1') (by omega);rw[<-kU (P:=PG) (E:=EL) (Y:=Y) e350]at hc;refine fI hc λv2 M2 n2 r2 w2 ⟨k2,f2,g2,A2⟩=>?_;have o2:=A2.one;simp(disch:=omega)only[W_,eu,to,IS,o2];refine fI (sN hY A2 (λx hx=>by have:=hA x hx;unfold Ex.ok;omega) hAn (by rw[IT];omega)) λv3 M3 n3 r3 w3 ⟨k3,f3,g3,W3⟩=>?_;have o3:=W3.one;have q3:=W3.gO;have F3:Exs M3 n3 fv (rnF (iL L)):=(F1.frame (N':=n1+1) (by omega) f1').frame (by omega) λb hb=>(f3 b (by omega)).trans (f2 b hb);have R3:Exs M3 n3 rv R:=(R1.frame (N':=n1+1) (by omega) f1').frame (by omega) λb hb=>(f3 b (by omega)).trans (f2 b hb);have qf:=F3.gO;have qr:=R3.gO;have u2:M3 n=some (.cells [.int .i64 (S:Int),rv] 0 false true):=(f3 n (by omega)).trans ((f2 n (by omega)).trans ((f1' n (by omega)).trans u0));have u3:M3 (n+1)=some (.cells [.int .i64 0,.slice none 0 0] 0 false true):=(f3 (n+1) (by omega)).trans ((f2 (n+1) (by omega)).trans ((f1' (n+1) (by omega)).trans u1));simp(disch:=omega)only[W_,eu,to,IS,o3,q3,of,qf];refine gS (jW W3 (by omega) (by omega)) λr4=>?_;simp(disch:=omega)only[W_,eu,to,IS,u2,or,qr];refine gS (jW R3 (by omega) (by omega)) λr5=>?_;simp(disch:=omega)only[W_,eu,to,IS,of,qf];refine gS (jW F3 (by rw[hsz];omega) (by omega)) λr6=>?_;rw[hsz2,hsz];simp(disch:=omega)only[W_,eu,to,IS,u2,u3,o3,dW o3];refine hQ _ _ _ _ _ (by omega) (λb hb=>by rw[en _ _ _ _ (by omega),f3 b (by omega),f2 b (by omega),f1' b (by omega),f1 b (by omega),fr b hb]) (by simp(disch:=omega)only[fB,eS,eR,and_self,g1,g2,g3]) rfl ⟨v3,_,rfl,W3.other u3 (by simp) λb hb=>en _ _ _ _ hb,c3,c1.sd,c2.trans (by rw[jt];exact(XL _).append b2)⟩
theorem AW:∀(A:List Ex) (k:Nat) (x:Ex),ng k (A++[x])=ng k A++(if 0<Tg (k-Tg k (lens A)) x.n then[⟨0,Tg (k-Tg k (lens A)) x.n,x.s⟩]else[])
 |[],k,x=>by have h0:Tg k 0=0:=Nat.min_zero k;rw[SJ,ng,ng,ng,jC,h0,SN,SJ,Nat.sub_zero]
 |y::A,k,x=>by
  have e:k-Tg k y.n-Tg (k-Tg k y.n) (lens A)=k-Tg k (y.n+lens A):=by
   rcases iy k y.n with⟨h4,h5⟩|⟨h4,h5⟩<;>rw[h5]
   ·rcases iy (k-k) (lens A)with⟨h6,h7⟩|⟨h6,h7⟩<;>rw[h7]<;>rcases iy k (y.n+lens A)with⟨h8,h9⟩|⟨h8,h9⟩<;>rw[h9]<;>omega
   ·rcases iy (k-y.n) (lens A)with⟨h6,h7⟩|⟨h6,h7⟩<;>rw[h7]<;>rcases iy k (y.n+lens A)with⟨h8,h9⟩|⟨h8,h9⟩<;>rw[h9]<;>omega
  rw[SK,ng,ng,AW A,gH,e,List.append_assoc]
theorem oT:∀(k:Nat) (L:List Ex),(ng k L).length<=L.length
 |_,[]=>IN _
 |k,x::L=>by have:=oT (k-Tg k x.n) L;rw[ng,IT,SA];split<;>simp<;>omega
theorem FQ{x:Ex}(h:x∈L):(slo x.pr).Sublist (sL L):=by
 induction L with
 |nil=>cases h
 |cons y L ih=>
  rw[iM];rcases TG.1 h with rfl|h
  ·exact List.sublist_append_left _ _
  ·exact(ih h).trans (List.sublist_append_right _ _)
theorem Kk(h:Exs m n v L)(hl:RL L)(hk:k<=1000000)(hB:L.length<=100000)(e5 e6:AT):
  ∀(d j:Nat),j+d=L.length->∀(fv x3:AT) (M:FM) (N:Nat),n<=N->(∀b,b<n->M b=m b)->SlZ 3 M n N fv (ng k (L.take j)).length (exC (ng k (L.take j)))->
  Gv (gD PG EL Y xB [.int .i64 ((k-Tg k (lens (L.take j)):Nat):Int),fv,.int .i64 (j:Int),x3,.int .i64 (L.length:Int),e5,e6,v,.int .i64 (k:Int)] M N) λX e M' N' w=>(∃fv' z1 z2,X=.exit 0/\e=[fv',z1,z2,e5,e6,v,.int .i64 (k:Int)]/\SlZ 3 M' n N' fv' (ng k L).length (exC (ng k L)))/\N<=N'/\(∀b,b<n->M' b=m b)/\SL w (bit n)=0:=by
 have q:=h.gO;have o:=h.one;intro d
 induction d with
 |zero=>
  intro j hj fv x3 M N hN hf hO;refine gA (L:=xB) (b:=rR) rfl ?_;simp only[rR];obtain rfl:j=L.length:=by omega
  rw[List.take_length]at hO;simp(disch:=omega)only[W_,eu,U5,to,AS,By,BY,IS];exact⟨⟨_,_,_,rfl,hO⟩,IN _,hf⟩
 |succ d ih=>
  intro j hj fv x3 M N hN hf hO;obtain⟨b,rest,opn,wr,hi,hb,hm⟩:=h.at (by omega);have hmM:=(hf b hb).trans hm;obtain⟨c1,c2,c3,c4⟩:=jF (l:=L) (j:=j) rest (by omega);have of:=hO.one;have qf:=hO.bel;have hx:=hl L[j] (Tb _);have htk:L.take (j+1)=L.take j++[L[j]]:=List.take_succ_eq_append_getElem (by omega);have hs:=AW (L.take j) k L[j];have hlk:lens (L.take (j+1))=lens (L.take j)+L[j].n:=by rw[htk,gF,gH,jC,Nat.add_zero]
  rw[<-htk]at hs;have t0:=eB M N (some (.cells [.int .i64 (L[j].a:Int),.int .i64 (L[j].n:Int),.int .i64 (L[j].s:Int)] 0 false true));have fx:∀k,k<N->(If M N (some (.cells [.int .i64 (L[j].a:Int),.int .i64 (L[j].n:Int),.int .i64 (L[j].s:Int)] 0 false true)):FM) k=M k:=λk hk=>gu
  have hr:k-Tg k (lens (L.take j))-Tg (k-Tg k (lens (L.take j))) L[j].n=k-Tg k (lens (L.take (j+1))):=by
   rw[hlk];rcases iy k (lens (L.take j))with⟨h6,h7⟩|⟨h6,h7⟩<;>rw[h7]<;>rcases iy k (lens (L.take j)+L[j].n)with⟨h8,h9⟩|⟨h8,h9⟩<;>rw[h9]
   ·rcases iy (k-k) L[j].n with⟨h8,h9⟩|⟨h8,h9⟩<;>rw[h9]<;>omega
   ·rcases iy (k-k) L[j].n with⟨h8,h9⟩|⟨h8,h9⟩<;>rw[h9]<;>omega
   ·rcases iy (k-lens (L.take j)) L[j].n with⟨h8,h9⟩|⟨h8,h9⟩<;>rw[h9]<;>omega
   ·rcases iy (k-lens (L.take j)) L[j].n with⟨h8,h9⟩|⟨h8,h9⟩<;>rw[h9]<;>omega
  have hle2:Tg (k-Tg k (lens (L.take j))) L[j].n<=k-Tg k (lens (L.take j)):=Nat.min_le_left _ _;have hrI:((k-Tg k (lens (L.take j)):Nat):Int)-((Tg (k-Tg k (lens (L.take j))) L[j].n:Nat):Int)=((k-Tg k (lens (L.take (j+1))):Nat):Int):=by rw[<-hr];omega
  have hle:Tg (k-Tg k (lens (L.take j))) L[j].n<=L[j].n:=Nat.min_le_right _ _;have hmn:=zd (P:=PG) (k-Tg k (lens (L.take j))) L[j].n;refine gA (L:=xB) (b:=rR) rfl ?_;simp only[rR];by_cases c:0<Tg (k-Tg k (lens (L.take j))) L[j].n
  ·rw[if_pos c]at hs;simp(disch:=omega)only[W_,eu,U5,to,AS,By,BY,IS,hi j (by omega),hmM,c1,o,q,of,qf,AF,hmn];refine fF (re L[j].s (L[j].s+Tg (k-Tg k (lens (L.take j))) L[j].n) (by omega) (by omega)) λr2=>?_;rw[VG];simp(disch:=omega)only[W_,eu,U5,to,AS,By,BY,IS,of,qf,Ex.cs];revert t0 fx;generalize (If M N (some (.cells [.int .i64 (L[j].a:Int),.int .i64 (L[j].n:Int),.int .i64 (L[j].s:Int)] 0 false true)):FM)=M0;intro t0 fx;refine fI (xA (K:=[⟨0,Tg (k-Tg k (lens (L.take j))) L[j].n,L[j].s⟩]) (SlZ.frame hO (N':=N+2) (M':=If M0 (N+1) (some (.cells [.int .i64 0,.int .i64 ((Tg (k-Tg k (lens (L.take j))) L[j].n:Nat):Int),.int .i64 (L[j].s:Int)] 3 false true))) (by omega) λb _ hb=>gJ (by omega) (fx b hb)) _ _ _ (by omega) (by have:=oT k (L.take j);rw[List.length_take]at this;simp;omega)) λv5 M5 n5 r5 w5 ⟨k5,k6,D5,f5,g5,t5,_⟩=>?_;rw[<-hs]at D5;have of5:=D5.one;have qf5:=D5.bel;simp(disch:=omega)only[W_,eu,U5,to,AS,By,BY,IS,of5,qf5,hrI];exact gR (ih (j+1) (by omega) _ _ _ _ (by omega) (λk hk=>(f5 k hk).trans ((en _ _ _ _ (by omega)).trans ((fx k (by omega)).trans (hf k hk)))) D5) λX e m n w ⟨p1,p2,p3,p4⟩=>⟨p1,by omega,p3,(by simp(disch:=omega)only[fB,eS,eR,and_self,g5,p4])⟩
  ·rw[if_neg c,SN]at hs;simp(disch:=omega)only[W_,eu,U5,to,AS,By,BY,IS,hi j (by omega),hmM,c1,o,q,of,qf,AF,hmn,hrI];have D5:=SlZ.frame hO (N':=N+1) (by omega) λb _ hb=>fx b hb;rw[<-hs]at D5;exact gR (ih (j+1) (by omega) _ _ _ _ (by omega) (λk hk=>(fx k (by omega)).trans (hf k hk)) D5) λX e m n w ⟨p1,p2,p3,p4⟩=>⟨p1,by omega,p3,(by simp(disch:=omega)only[fB,eS,eR,and_self,p4])⟩
theorem wz(h:Exs m n v L)(hl:RL L)(hk:k<=1000000)(hB:L.length<=100000):Rt (fL PG EL Y 353 [v,.int .i64 (k:Int)] m n) λv' m' n' w=>n<=n'/\(∀b,b<n->m' b=m b)/\(∀j,j<=n->SL w (bit j)=0)/\SlZ 3 m' n n' v' (ng k L).length (exC (ng k L)):=by
 refine gN (R:=λv' m' n'=>SlZ 3 m' n n' v' (ng k L).length (exC (ng k L))) e353 rfl ?_ λQ hQ=>?_
 ·rintro v' m' n' hv h;rcases h with h|⟨_,_,b,rfl,_⟩
  ·exact .inl h
  ·cases hv
 simp only[Ps];have o:=h.one;have l:=h.len;have h0:k-Tg k (lens (L.take 0))=k:=by have:Tg k (lens (L.take 0))=0:=Nat.min_zero k;omega
 have hL:=Kk (Y:=Y) h hl hk hB (.slice none 0 0) (.slice none 0 0) L.length 0 (by omega) (.slice none 0 0) (.int .i64 0) m n (IN _) (λ_ _=>rfl) (.inl ⟨rfl,rfl,rfl⟩);rw[h0]at hL;simp(disch:=omega)only[W_,eu,U5,to,AS,By,BY,IS,o,l];refine ic hL λX e M' N' r w ⟨⟨fv,z1,z2,hX,he,D⟩,p2,p3,p4⟩=>?_;subst hX he;have of:=D.one;simp(disch:=omega)only[W_,eu,U5,to,AS,By,BY,IS,of];exact hQ _ _ _ _ _ p2 p3 (by simp(disch:=omega)only[fB,eS,eR,and_self,p4]) D
theorem KG{x:Ex}(hx:x.n<=1000000)(hk:k<=65536)(hb:b0<n)(hm:m b0=some (.cells [.int .i64 (k:Int)] sz ow wr)):Pure (fL PG EL Y 390 [.agg x.cs.toArray,.pointer (some ⟨b0,0,none⟩)] m n) m n (.bool (decide (k<=x.n))):=by
 refine gC e390 rfl rfl ?_;simp only[Pj,Ex.cs];by_cases c:k<=x.n
 ·rw[decide_eq_true c];simp(disch:=omega)only[W_,eu,U5,to,AS,By,BY,IS,hm]
 ·rw[decide_eq_false c];simp(disch:=omega)only[W_,eu,U5,to,AS,By,BY,IS,hm]
def fx(k:Nat)(L:List Ex):AT:=.int .i64 (match L.findIdx? λx=>decide (k<=x.n)with|none=>-1|some j=>(j:Int))
theorem NS(h:Exs m n v L)(hl:RL L)(hk:k<=65536)(hB:L.length<=100000)(hb:b0<n)(hm:m b0=some (.cells [.int .i64 (k:Int)] sz ow wr))(e4:AT):
  ∀(d j:Nat),j+d=L.length->(∀i (hi:i<j) (hi2:i<L.length),L[i].n<k)->∀(x0 x2:AT),
  Gv (gD PG EL Y qH [x0,.int .i64 (j:Int),x2,.int .i64 (L.length:Int),e4,v,.func (.func 390) #[] #[.pointer (some ⟨b0,0,none⟩)]] m n) λX e M' N' w=>((fx k L=.int .i64 (-1)/\X=.exit 0/\∃z0 z1 z2,e=[z0,z1,z2,e4,v,.func (.func 390) #[] #[.pointer (some ⟨b0,0,none⟩)]])\/X=.ret (fx k L))/\M'=m/\N'=n/\w=0:=by
 have q:=h.gO;have o:=h.one;intro d
 induction d with
 |zero=>
  intro j hj hlt x0 x2;refine gA (L:=qH) (b:=mD) rfl ?_;simp only[mD];obtain rfl:j=L.length:=by omega
  have hf:fx k L=.int .i64 (-1):=by
   have:(L.findIdx? λx=>decide (k<=x.n))=none:=by rw[List.findIdx?_eq_none_iff];intro x hx;obtain⟨i,hi,rfl⟩:=List.getElem_of_mem hx;have:=hlt i hi hi;simp;omega
   unfold fx;rw[this]
  simp(disch:=omega)only[W_,eu,U5,to,AS,By,BY,IS];exact .inl ⟨hf,_,_,_,rfl⟩
 |succ d ih=>
  intro j hj hlt x0 x2;obtain⟨b,rest,opn,wr,hi,hb2,hm2⟩:=h.at (by omega);obtain⟨c1,c2,c3,c4⟩:=jF (l:=L) (j:=j) rest (by omega);have hx:=hl L[j] (Tb _);refine gA (L:=qH) (b:=mD) rfl ?_;simp only[mD];simp(disch:=omega)only[W_,eu,U5,to,AS,By,BY,IS,hi j (by omega),hm2,c1,o,q,oN,nj];refine fF (KG (x:=L[j]) (by omega) hk hb hm) λr1=>?_;by_cases c:k<=L[j].n
  ·have hf:fx k L=.int .i64 (j:Int):=by
    have:(L.findIdx? λx=>decide (k<=x.n))=some j:=by rw[WV];refine⟨by omega,by simpa using c,λi hi=>?_⟩;have:=hlt i hi (by omega);simp;omega
    unfold fx;rw[this]
   rw[decide_eq_true c,hf];simp(disch:=omega)only[W_,eu,U5,to,AS,By,BY,IS];exact .inr trivial
  ·rw[decide_eq_false c];simp(disch:=omega)only[W_,eu,U5,to,AS,By,BY,IS]
   exact gR (ih (j+1) (by omega) (λi h1 h2=>by
    rcases Yx i j with h3|h3
    ·exact hlt i h3 h2
    ·obtain rfl:i=j:=by omega
     omega) _ _) λX e m n w ⟨p1,p2,p3,p4⟩=>⟨p1,p2,p3,by rw[p4];rfl⟩
theorem index_spec(h:Exs m n v L)(hl:RL L)(hk:k<=65536)(hB:L.length<=100000)(hb:b0<n)(hm:m b0=some (.cells [.int .i64 (k:Int)] sz ow wr)):Pure (fL PG EL Y 379 [v,.func (.func 390) #[] #[.pointer (some ⟨b0,0,none⟩)]] m n) m n (fx k L):=by
 refine gC e379 rfl rfl ?_;simp only[I8];have o:=h.one;have l:=h.len;simp(disch:=omega)only[W_,eu,U5,to,AS,By,BY,IS,o,l];refine ic (NS (Y:=Y) h hl hk hB hb hm _ L.length 0 (by omega) (λi hi=>absurd hi (Nat.not_lt_zero _)) _ _) λX e M' N' r w ⟨p1,p2,p3,p4⟩=>?_;subst p2 p3 p4;rcases p1 with⟨hf,hX,z0,z1,z2,he⟩|hX
 ·subst hX he;rw[hf];simp(disch:=omega)only[W_,eu,U5,to,AS,By,BY,IS]
 ·subst hX;unfold fx;simp(disch:=omega)only[W_,eu,U5,to,AS,By,BY,IS]
theorem El(h:Exs m n v L)(hl:RL L)(h1:1<=k)(hk:k<=65536)(hB:L.length<=100000):Kp (fL PG EL Y 352 [v,.int .i64 (k:Int)] m n) m n λv' m' n'=>∃lv W ok,v'=.tuple #[lv,.bool ok]/\Exs m' n' lv W/\(ok=true->RL W/\lens W=k/\(sL W).Sublist (sL L)):=by
 refine gN (R:=λv' m' n'=>∃lv W ok,v'=.tuple #[lv,.bool ok]/\Exs m' n' lv W/\(ok=true->RL W/\lens W=k/\(sL W).Sublist (sL L))) e352 rfl ?_ λQ hQ=>?_
 ·rintro v' m' n' hv ⟨lv,W,ok,rfl,h1,h2⟩;have hv:(Am.flat lv&&_)=true:=hv;rw[No]at hv;refine⟨lv,W,ok,rfl,?_,h2⟩;rcases h1 with h|⟨b,_,rest,opn,wr,rfl,hb,_⟩
  ·exact .inl h
  ·cases hv.1
 simp only[Pt];have o:=h.one;have l:=h.len;simp(disch:=omega)only[W_,eu,U5,to,AS,By,BY,IS,o,l,yA];have fr:∀b,b<n->(If m n (some (.cells [.int .i64 (k:Int)] 0 false true)):FM) b=m b:=λb hb=>gu;have t0:=eB m n (some (.cells [.int .i64 (k:Int)] 0 false true));refine fF (index_spec (h.frame (N':=n+1) (by omega) fr) hl hk hB (by omega) t0) λr1=>?_
 cases hfi:L.findIdx? λx=>decide (k<=x.n)with
 |none=>rw[show fx k L=.int .i64 (-1) by unfold fx;rw[hfi]];simp(disch:=omega)only[W_,eu,U5,to,AS,By,BY,IS];exact hQ _ _ _ _ _ (by omega) fr (by simp(disch:=omega)only[fB,eS,eR,and_self]) ⟨_,[],false,rfl,Exs.nil _ _,λh=>by cases h⟩
 |some j=>
  rw[show fx k L=.int .i64 (j:Int) by unfold fx;rw[hfi]];rw[WV]at hfi;obtain⟨hj,hjk,_⟩:=hfi;have hjk:k<=L[j].n:=by simpa using hjk
  obtain⟨b,rest,opn,wr,hi,hb2,hm2⟩:=h.at (by omega);have hm3:=(fr b hb2).trans hm2;obtain⟨c1,c2,c3,c4⟩:=jF (l:=L) (j:=j) rest (by omega);have hx:=hl L[j] (Tb _);have q:=h.gO;simp(disch:=omega)only[W_,eu,U5,to,AS,By,BY,IS,hi j hj,hm3,c1,c2,c3,c4,o,q];refine gS (re L[j].s (L[j].s+k) (by omega) (by omega)) λr2=>?_;rw[VG];simp(disch:=omega)only[W_,eu,U5,to,AS,By,BY,IS,o,q,Ex.cs];refine hQ _ _ _ _ _ (by omega) (λb hb=>gJ (by omega) (fr b hb)) (by simp(disch:=omega)only[fB,eS,eR,and_self]) ⟨_,[⟨0,k,L[j].s⟩],true,rfl,.inr ⟨n+1,_,[],_,_,rfl,by omega,eB _ _ _⟩,λ_=>⟨?_,?_,?_⟩⟩
  ·intro x hx;obtain rfl:=List.mem_singleton.1 hx;exact⟨h1,by dsimp only;omega,rfl⟩
  ·rw[gH,jC];rfl
  ·refine List.Sublist.trans ?_ (FQ (Tb hj));rw[iM,lI,SN,iz,iz];exact List.range'_sublist_right.2 hjk
def Of(k:Nat)(W R:List Ex):Prop:=RL W/\lens W=k/\(sL W).Nodup/\∀s∈sL W,s∈sL R
def wQ(k:Nat)(R:List Ex)(v:AT)(M:FM)(N:Nat):Prop:=∃lv W ok,v=.tuple #[lv,.bool ok]/\Exs M N lv W/\(ok=true->Of k W R)
theorem wQ.flat(hv:gy v=true)(h:wQ k R v M N):wQ k R v M' N':=by
 obtain⟨lv,W,o1,rfl,h1,h2⟩:=h;have hv:(Am.flat lv&&(Am.flat (.bool o1)&&true))=true:=hv;rw[No]at hv;refine⟨lv,W,o1,rfl,?_,h2⟩;rcases h1 with h|⟨b,_,rest,opn,wr,rfl,hb,_⟩
 ·exact .inl h
 ·cases hv.1
theorem CG(t:Nat)(R:List Ex):(sL (clF t R)).Sublist (sL R):=by rw[vx];exact U0
theorem OJ(t:Nat)(R:List Ex):(sL (clB t R)).Sublist (sL R):=by rw[yC];exact U0
theorem abu(t:Nat)(R:List Ex):lens (clF t R)+lens (clB t R)=lens R:=by
 rw[<-iY,<-iY,<-iY,vx,yC];generalize sL R=l
 induction l with
 |nil=>rfl
 |cons a l ih=>
  by_cases h:t<=a
  ·rw[TZ (by simpa using h),T9 (by simp;omega),SA,SA];omega
  ·rw[T9 (by simpa using h),TZ (by simp;omega),SA,SA];omega
theorem Fp{S:Nat}(hR:Exs m n rv R)(hl:RL R)(hn:(sL R).Nodup)(h1:1<=k)(hk:k<=65536)(ht:t<=1000000)(hB:R.length<=100000):Kp (fL PG EL Y 280 [.agg #[.int .i64 (S:Int),rv],.int .i64 (k:Int),.int .i64 (t:Int)] m n) m n λv m' n'=>wQ k R v m' n':=by refine gN (R:=λv m' n'=>wQ k R v m' n') e280 rfl (λ_ _ _ h1 h2=>h2.flat h1) λQ hQ=>?_;simp only[PX];have or:=hR.one;simp(disch:=omega)only[W_,eu,to,or,dW or];have fr:∀b,b<n->(If m n (some (.cells [.int .i64 (S:Int),rv] 0 false true)):FM) b=m b:=λb hb=>gu;refine fI (te (hR.frame (N':=n+1) (by omega) fr) (λx hx=>(hl x hx).2.1) (λx hx=>by have:=(hl x hx).2.2;omega) ht hB) λv1 M1 n1 r1 w1 ⟨k1,f1,g1,fv,bv,hv1,D⟩=>?_;subst hv1;have of:=D.a.one;have ob:=D.b.one;simp(disch:=omega)only[W_,eu,to,of,ob];refine fI (El (SlZ.exs D.a) (zD hl) h1 hk (by have:=tf t R;omega)) λv2 M2 n2 r2 w2 ⟨k2,f2,g2,lv,W,o1,hv2,A,B⟩=>?_;subst hv2;have oa:=A.one;simp(disch:=omega)only[W_,eu,to,oa];exact hQ _ _ _ _ _ (by omega) (λb hb=>(f2 b (by omega)).trans ((f1 b (by omega)).trans (fr b hb))) (by simp(disch:=omega)only[fB,eS,eR,and_self,g1,g2]) ⟨lv,W,o1,rfl,A,λh=>⟨(B h).1,(B h).2.1,((B h).2.2.trans (CG t R)).nodup hn,λs hs=>((B h).2.2.trans (CG t R)).subset hs⟩⟩
theorem Au{S:Nat}(hR:Exs m n rv R)(hl:RL R)(hn:(sL R).Nodup)(h1:1<=k)(hk:k<=65536)(ht:t<=1000000)(hB:R.length<=100000):Kp (fL PG EL Y 281 [.agg #[.int .i64 (S:Int),rv],.int .i64 (k:Int),.int .i64 (t:Int)] m n) m n λv m' n'=>wQ k R v m' n':=by refine gN (R:=λv m' n'=>wQ k R v m' n') e281 rfl (λ_ _ _ h1 h2=>h2.flat h1) λQ hQ=>?_;simp only[PW];have or:=hR.one;simp(disch:=omega)only[W_,eu,to,or,dW or];have fr:∀b,b<n->(If m n (some (.cells [.int .i64 (S:Int),rv] 0 false true)):FM) b=m b:=λb hb=>gu;refine fI (El (hR.frame (N':=n+1) (by omega) fr) hl h1 hk hB) λv2 M2 n2 r2 w2 ⟨k2,f2,g2,lv,W,o1,hv2,A,B⟩=>?_;subst hv2;have oa:=A.one;simp(disch:=omega)only[W_,eu,to,oa];exact hQ _ _ _ _ _ (by omega) (λb hb=>(f2 b (by omega)).trans (fr b hb)) (by simp(disch:=omega)only[fB,eS,eR,and_self,g2]) ⟨lv,W,o1,rfl,A,λh=>⟨(B h).1,(B h).2.1,(B h).2.2.nodup hn,λs hs=>(B h).2.2.subset hs⟩⟩
theorem DQ{S:Nat}(hR:Exs m n rv R)(hl:RL R)(hn:(sL R).Nodup)(h1:1<=k)(hk:k<=lens R)(hr:lens R<=65536)(ht:t<=1000000):Kp (fL PG EL Y 282 [.agg #[.int .i64 (S:Int),rv],.int .i64 (k:Int),.int .i64 (t:Int)] m n) m n λv m' n'=>∃lv W,v=.tuple #[lv,.bool true]/\Exs m' n' lv W/\Of k W R:=by
 have hlen:=hl.kP;have hF:=zD (t:=t) hl;have hB:=OI (t:=t) hl;have hsum:=abu t R;have lF:=hF.kP;have lB:=hB.kP;obtain⟨a1,a2,a3⟩:=Cm k _ hF;obtain⟨b1,b2,b3⟩:=Cm (k-Tg k (lens (clF t R))) _ hB
 have hW:Of k (ng k (clF t R)++ng (k-Tg k (lens (clF t R))) (clB t R)) R:=by
  refine⟨a1.append b1,?_,?_,λs hs=>?_⟩
  ·rw[gF,a2,b2];rcases iy k (lens (clF t R))with⟨h4,h5⟩|⟨h4,h5⟩<;>rw[h5]
   ·rcases iy (k-k) (lens (clB t R))with⟨h6,h7⟩|⟨h6,h7⟩<;>rw[h7]<;>omega
   ·rcases iy (k-lens (clF t R)) (lens (clB t R))with⟨h6,h7⟩|⟨h6,h7⟩<;>rw[h7]<;>omega
  ·rw[jt];refine T'.2 ⟨(a3.trans (CG t R)).nodup hn,(b3.trans (OJ t R)).nodup hn,λx hx y hy e=>?_⟩;subst e;have h1:=a3.subset hx;have h2:=b3.subset hy;rw[vx,TY,decide_eq_true_eq]at h1;rw[yC,TY,decide_eq_true_eq]at h2;omega
  ·rw[jt,Tw]at hs;rcases hs with hs|hs
   ·exact(a3.trans (CG t R)).subset hs
   ·exact(b3.trans (OJ t R)).subset hs
 refine gN (R:=λv m' n'=>∃lv W,v=.tuple #[lv,.bool true]/\Exs m' n' lv W/\Of k W R) e282 rfl ?_ λQ hQ=>?_
 ·rintro v m' n' hv ⟨lv,W,rfl,h1,h2⟩;have hv:(Am.flat lv&&(Am.flat (.bool true)&&true))=true:=hv;rw[No]at hv;refine⟨lv,W,rfl,?_,h2⟩;rcases h1 with h|⟨b,_,rest,opn,wr,rfl,hb,_⟩
  ·exact .inl h
  ·cases hv.1
 simp only[PV];have or:=hR.one;simp(disch:=omega)only[W_,eu,to,or,dW or];have fr:∀b,b<n->(If m n (some (.cells [.int .i64 (S:Int),rv] 0 false true)):FM) b=m b:=λb hb=>gu;refine fI (te (hR.frame (N':=n+1) (by omega) fr) (λx hx=>(hl x hx).2.1) (λx hx=>by have:=(hl x hx).2.2;omega) ht (by omega)) λv1 M1 n1 r1 w1 ⟨k1,f1,g1,fv,bv,hv1,D⟩=>?_;subst hv1;have of:=D.a.one;have ob:=D.b.one;simp(disch:=omega)only[W_,eu,to,of,ob];refine fI (wz (SlZ.exs D.a) hF (by omega) (by omega)) λv2 M2 n2 r2 w2 ⟨k2,f2,g2,A⟩=>?_;have D2:=D.frame k2 f2;have oa:=A.one;simp(disch:=omega)only[W_,eu,to,oa];refine fF (jW (SlZ.exs D2.a) (by omega) (by omega)) λr3=>?_;have hmn:=zd (P:=PG) k (lens (clF t R));have hle2:Tg k (lens (clF t R))<=k:=Nat.min_le_left _ _;have hI:((k:Nat):Int)-((Tg k (lens (clF t R)):Nat):Int)=((k-Tg k (lens (clF t R)):Nat):Int):=by omega
 simp(disch:=omega)only[W_,eu,to,AF,hmn,hI];refine fI (wz (SlZ.exs D2.b) hB (by omega) (by omega)) λv4 M4 n4 r4 w4 ⟨k4,f4,g4,B⟩=>?_;have ob4:=B.one;obtain⟨ya,yc,ry,e4,e5⟩:=(SlZ.exs B).shown;have hap:=xA (K:=ng (k-Tg k (lens (clF t R))) (clB t R)) (A.frame (n0:=n1) (N':=n4) (M':=M4) k4 λb _ hb=>f4 b hb) ya yc ry (by omega) (by have:=oT k (clF t R);have:=oT (k-Tg k (lens (clF t R))) (clB t R);omega);rw[<-e4,<-e5]at hap;simp(disch:=omega)only[W_,eu,to,ob4];refine fI hap λv6 M6 n6 r6 w6 ⟨k6,k7,C,f6,g6,t6,_⟩=>?_;have oc:=C.one;simp(disch:=omega)only[W_,eu,to,oc];exact hQ _ _ _ _ _ (by omega) (λb hb=>(f6 b (by omega)).trans ((f4 b (by omega)).trans ((f2 b (by omega)).trans ((f1 b (by omega)).trans (fr b hb))))) (by simp(disch:=omega)only[fB,eS,eR,and_self,g1,g2,g4,g6]) ⟨v6,_,rfl,SlZ.exs C,hW⟩
def afy(S k:Nat)(R:List Ex)(v:AT)(M:FM)(N:Nat):Prop:=∃lv W rv' R',v=.tuple #[lv,.agg #[.int .i64 (S:Int),rv'],.int .i64 0]/\Exs M N lv W/\Exs M N rv' R'/\Of k W R/\RL R'/\(sL R').Perm ((sL R).filter λs=>!decide (s∈sL W))
theorem iu{m:FM}{n:Nat}{a b:Blk}:(∀k,k<n->(If (If m n (some a)) (n+1) (some b):FM) k=m k)/\(If (If m n (some a)) (n+1) (some b):FM) n=some a/\(If (If m n (some a)) (n+1) (some b):FM) (n+1)=some b:=⟨λk hk=>(en _ _ _ _ (by omega)).trans (en _ _ _ _ (by omega)),(en _ _ _ _ (by omega)).trans (eB _ _ _),eB _ _ _⟩
theorem take_zero(hR:Exs m n rv R)(hl:RL R)(hr:lens R<=S)(hS:S<=65536)(ht:t<=S):Kp (fL PG EL Y 188 [.agg #[.int .i64 (S:Int),rv],.int .i64 0,.int .i64 (t:Int)] m n) m n λv m' n'=>v=.tuple #[.slice none 0 0,.agg #[.int .i64 (S:Int),rv],.int .i64 0]:=by have hlen:=hl.kP;refine gG (R:=λv m' n'=>v=.tuple #[.slice none 0 0,.agg #[.int .i64 (S:Int),rv],.int .i64 0]) e188 rfl λQ hQ=>?_;simp only[Je];have or:=hR.one;simp(disch:=omega)only[W_,eu,to,or,dW or];obtain⟨fr,t0,t1⟩:=iu (m:=m) (n:=n) (a:=.cells [.int .i64 (S:Int),rv] 0 false true) (b:=.cells [.int .i64 0,.slice none 0 0] 0 false true);revert fr t0 t1;generalize (If (If m n (some (.cells [.int .i64 (S:Int),rv] 0 false true))) (n+1) (some (.cells [.int .i64 0,.slice none 0 0] 0 false true)):FM)=M0;intro fr t0 t1;have R0:=hR.frame (N':=n+2) (by omega) fr;refine fF (zt (S:=S) R0 (by omega) (by omega)) λr1=>?_;have q:=R0.gU;simp(disch:=omega)only[W_,eu,to,t0,t1,or,q,dW or];refine hQ _ _ _ _ _ (by omega) (λb hb=>gJ (by omega) (fr b hb)) (by simp(disch:=omega)only[fB,eS,eR,and_self]) rfl rfl
def arr3:AT:=.agg #[.func (.func 280) #[] #[],.func (.func 281) #[] #[],.func (.func 282) #[] #[]]
theorem acE{W:List Ex}(h:Of k W R)(hRS:∀s∈sL R,s<S):∀x∈W,1<=x.n/\x.s+x.n<=S/\x.a=0:=λx hx=>by
 have h1:=h.1 x hx;have:x.s+x.n-1∈slo x.pr:=by rw[oS];omega
 have:=hRS _ (h.2.2.2 _ ((FQ hx).subset this));omega
def FD(Y:Nat->List AT->FM->Nat->OR FM)(m m':FM)(n S k t:Nat)(rv:AT)(R:List Ex)(j:Nat):Prop:=
 ∀(x0 x1 x3 e5 e6 e7:AT) (M:FM) (N:Nat),n+2<=N->(∀b,b<n+2->M b=m' b)->
  Gv (gD PG EL Y Db [x0,x1,.int .i64 (j:Int),x3,arr3,e5,e6,e7,.pointer (some ⟨n+1,0,none⟩),.slice none 0 0,.pointer (some ⟨n,0,none⟩),.agg #[.int .i64 (S:Int),rv],.int .i64 (k:Int),.int .i64 (t:Int)] M N) λX e M' N' w=>(∃v,X=.ret v/\afy S k R v M' N')/\N<=N'/\(∀b,b<n->M' b=m b)/\SL w (bit n)=0
theorem vq(hY:jf Y){S:Nat}(hR:Exs m n rv R)(hl:RL R)(hn:(sL R).Nodup)(hr:lens R<=S)(hRS:∀s∈sL R,s<S)(hS:S<=65536)(hk:k<=lens R)(j:Nat)(hj:j<3){m':FM}(m0:m' n=some (.cells [.int .i64 (S:Int),rv] 0 false true))(m1:m' (n+1)=some (.cells [.int .i64 0,.slice none 0 0] 0 false true))(m2:∀b,b<n->m' b=m b)
  (hc:∀{M:FM} {N:Nat},n+2<=N->(∀b,b<n+2->M b=m' b)->Kp (fL PG EL Y (280+j) [.agg #[.int .i64 (S:Int),rv],.int .i64 (k:Int),.int .i64 (t:Int)] M N) M N λv m' n'=>wQ k R v m' n'/\(j=2->∃lv,v=.tuple #[lv,.bool true])) (hnx:j+1<3->FD Y m m' n S k t rv R (j+1)):FD Y m m' n S k t rv R j:=by
 intro x0 x1 x3 e5 e6 e7 M N hN hf;have or:=hR.one
 have hi:wW PG (.ind 3) [arr3,.int .i64 (j:Int)]=some (.func (.func (280+j)) #[] #[]):=by
  match j,hj with
  |0,_=>rfl
  |1,_=>rfl
  |2,_=>rfl
 have u0:=(hf n (by omega)).trans m0;have u1:=(hf (n+1) (by omega)).trans m1;refine gA (L:=Db) (b:=Aa) rfl ?_;simp only[Aa];simp(disch:=omega)only[W_,eu,to,or,dW or,AF,hi,u0,u1,oN,nj];refine fI (hc hN hf) λv1 M1 n1 r1 w1 ⟨k1,f1,g1,⟨lv,W,o1,hv1,A,B⟩,hlast⟩=>?_;subst hv1;have oa:=A.one;have qa:=A.gO;have v0:=(f1 n (by omega)).trans u0;have v1:=(f1 (n+1) (by omega)).trans u1
 cases o1 with
 |true=>have hW:=B rfl;obtain⟨W1,W2,W3,W4⟩:=B rfl;have R1:=hR.frame (N':=n1) (by omega) λb hb=>(f1 b (by omega)).trans ((hf b (by omega)).trans (m2 b hb));simp(disch:=omega)only[W_,eu,to,oa,v0,v1,or];refine fI (AV hY (S:=S) A R1 hl hn (by omega) hS (acE hW hRS) W3 W4) λv2 M2 n2 r2 w2 ⟨k2,f2,g2,rv',R',hv2,C1,C2,C3⟩=>?_;subst hv2;have oc:=C1.one;have qc:=C1.gU;have x1:=(f2 (n+1) (by omega)).trans v1;simp(disch:=omega)only[W_,eu,to,oa,oc,dW oc,x1,qc];have y1:(If M2 n2 (some (.cells [.int .i64 (S:Int),rv'] 0 false true)):FM) (n+1)=some (.cells [.int .i64 0,.slice none 0 0] 0 false true):=(en _ _ _ _ (by omega)).trans x1;have fq:∀b,b<n2->(If M2 n2 (some (.cells [.int .i64 (S:Int),rv'] 0 false true)):FM) b=M2 b:=λb hb=>gu;exact⟨⟨_,rfl,lv,W,rv',R',rfl,((A.frame k2 f2).frame (by omega) fq).rn y1 (by simp) (λb hb=>en _ _ _ _ hb) (IN _),(C1.frame (by omega) fq).rn y1 (by simp) (λb hb=>en _ _ _ _ hb) (IN _),hW,C2,C3⟩,by omega,λb hb=>gJ (by omega) ((fq b (by omega)).trans ((f2 b (by omega)).trans ((f1 b (by omega)).trans ((hf b (by omega)).trans (m2 b hb))))),(by simp(disch:=omega)only[fB,eS,eR,and_self,g1,g2])⟩
 |false=>
  have hlt:j+1<3:=by
   rcases Yx (j+1) 3 with h|h
   ·exact h
   ·obtain⟨lv',e⟩:=hlast (by omega);injection e with e
    injection e with e
    simp at e
  simp(disch:=omega)only[W_,eu,to,oa,v0,v1,or];exact gR (hnx hlt _ _ _ _ _ _ _ _ (by omega) λb hb=>(f1 b (by omega)).trans (hf b hb)) λX e m n w ⟨p1,p2,p3,p4⟩=>⟨p1,by omega,p3,(by simp(disch:=omega)only[fB,eS,eR,and_self,g1,p4])⟩
theorem JE(hY:jf Y)(hR:Exs m n rv R)(hl:RL R)(hn:(sL R).Nodup)(hr:lens R<=S)(hRS:∀s∈sL R,s<S)(hS:S<=65536)(ht:t<=S)(hk:k<=lens R)(h1:1<=k):Kp (fL PG EL Y 188 [.agg #[.int .i64 (S:Int),rv],.int .i64 (k:Int),.int .i64 (t:Int)] m n) m n λv m' n'=>afy S k R v m' n':=by refine gG (R:=λv m' n'=>afy S k R v m' n') e188 rfl λQ hQ=>?_;simp only[Je];have or:=hR.one;have hlen:=hl.kP;simp(disch:=omega)only[W_,eu,to,or,dW or];obtain⟨fr,t0,t1⟩:=iu (m:=m) (n:=n) (a:=.cells [.int .i64 (S:Int),rv] 0 false true) (b:=.cells [.int .i64 0,.slice none 0 0] 0 false true);revert fr t0 t1;generalize (If (If m n (some (.cells [.int .i64 (S:Int),rv] 0 false true))) (n+1) (some (.cells [.int .i64 0,.slice none 0 0] 0 false true)):FM)=M0;intro fr t0 t1;have R0:=hR.frame (N':=n+2) (by omega) fr;refine fF (zt (S:=S) R0 (by omega) (by omega)) λr1=>?_;have hcf:∀f,(Value.func (Fn.func f) #[] #[]).cells.toList=[.func (.func f) #[] #[]]:=λ_=>rfl;simp(disch:=omega)only[W_,eu,to,or,dW or,hcf];have Rf:∀{M:FM} {N:Nat},n+2<=N->(∀b,b<n+2->M b=M0 b)->Exs M N rv R:=λ{M N} h1 h2=>R0.frame h1 h2;have s2:FD Y m M0 n S k t rv R 2:=vq hY hR hl hn hr hRS hS hk 2 (by omega) t0 t1 fr (λ{M N} h2 h3=>Rt.mono (DQ (S:=S) (Rf h2 h3) hl hn h1 hk (by omega) (by omega)) λv m' n' w ⟨q1,q2,q3,lv,W,q4,q5,q6⟩=>⟨q1,q2,q3,⟨lv,W,true,q4,q5,λ_=>q6⟩,λ_=>⟨lv,q4⟩⟩) (λh=>absurd h (by omega));have s1:FD Y m M0 n S k t rv R 1:=vq hY hR hl hn hr hRS hS hk 1 (by omega) t0 t1 fr (λ{M N} h2 h3=>Rt.mono (Au (S:=S) (Rf h2 h3) hl hn h1 (by omega) (by omega) (by omega)) λv m' n' w ⟨q1,q2,q3,q4⟩=>⟨q1,q2,q3,q4,λh=>absurd h (by omega)⟩) (λ_=>s2);have s0:FD Y m M0 n S k t rv R 0:=vq hY hR hl hn hr hRS hS hk 0 (by omega) t0 t1 fr (λ{M N} h2 h3=>Rt.mono (Fp (S:=S) (Rf h2 h3) hl hn h1 (by omega) (by omega) (by omega)) λv m' n' w ⟨q1,q2,q3,q4⟩=>⟨q1,q2,q3,q4,λh=>absurd h (by omega)⟩) (λ_=>s1);refine ic (s0 _ _ _ _ _ _ M0 (n+2) (IN _) λ_ _=>rfl) λX e M' N' r w ⟨⟨v,hX,T⟩,p2,p3,p4⟩=>?_;subst hX;obtain⟨lv,W,rv',R',rfl,T2⟩:=T;simp(disch:=omega)only[W_,eu,to];exact hQ _ _ _ _ _ (by omega) p3 (by simp(disch:=omega)only[fB,eS,eR,and_self,p4]) (Bool.and_false (Am.flat lv)) ⟨lv,W,rv',R',rfl,T2⟩
end Go.Am.CR
namespace Go.Am
open Go
abbrev MI:=List (Int×AT)
def aay(mi:MI):List (AT×AT):=mi.map λp=>(.int .i64 p.1,p.2)
variable{P:SZ}
section
variable{m:FM}{n b:Nat}{mi:MI}{kt:Nat}{k:IntKind}
theorem mE{rec:Nat->List AT->FM->Nat->OR FM}{e:List AT}(op:MOp)(xs:List Opd):gV P rec e m n (.mp op xs)=lu P op (evs e xs) m n:=rfl
def Nz(ok:Bool)(z:AT):Option AT->AT
 |some v=>AY ok v true
 |none=>AY ok z false
theorem map_mk:lu P .mk [] m n=.ok (.map (some n)) (If m n (some (.map (aay [])))) (n+1) 0 (bit n):=rfl
theorem Cd(b:Nat):one (.map (some b))=true:=rfl
theorem mc(b:Nat):(Value.map (some b)).cells.toList=[.map (some b)]:=rfl
theorem belowF_map(n b:Nat):jz n (.map (some b))=Nat.blt b n:=rfl
end
end Go.Am
namespace Go.Am.CR
open Go Go.Am
structure KK(P:SZ)(κ:Type)[DecidableEq κ](kt:Nat) where
 K:κ->AT
 kd:TypeDesc
 hu:P.underlying kt=some kd
 hn:∀a b,Instr.sameNow kd (K a) (K b)=some (decide (a=b))
 hb:∀n a b,Instr.sameBits n (K a) (K b)=decide (a=b)
 hc:∀e k,gM P (Instr.checkKey e 10000 kt (K k))=some ()
 hf:∀a,gy (K a)=true
section
variable{P:SZ}{κ:Type}[DecidableEq κ]{kt:Nat}(G:KK P κ kt)
def KK.C(mi:List (κ×AT)):List (AT×AT):=mi.map λp=>(G.K p.1,p.2)
def tS(t:κ):List (κ×AT)->Option Nat
 |[]=>none
 |p::mi=>if t=p.1 then some 0 else(tS t mi).map (·+1)
def kn(t:κ):List (κ×AT)->Option AT
 |[]=>none
 |p::mi=>if t=p.1 then some p.2 else kn t mi
def lW(t:κ)(v:AT):List (κ×AT)->List (κ×AT)
 |[]=>[(t,v)]
 |p::mi=>if t=p.1 then(t,v)::mi else p::lW t v mi
def An(t:κ):List (κ×AT)->List (κ×AT)
 |[]=>[]
 |p::mi=>if t=p.1 then mi else p::An t mi
theorem Bg(t:κ):∀(mi:List (κ×AT)) (i:Nat),Instr.findNow G.kd (G.K t) (nJ ((G.C mi).map UQ)) i=some ((tS t mi).map λj=>(i+j,undef))
 |[],i=>rfl
 |p::mi,i=>by
  show(match Instr.sameNow G.kd (G.K t) (G.K p.1)with|some true=>some (some (i,undef))|some false=>Instr.findNow G.kd (G.K t) (nJ ((G.C mi).map UQ)) (i+1)|none=>none)=_;rw[G.hn];by_cases h:t=p.1
  ·rw[decide_eq_true h];show some (some (i,undef))=some ((if t=p.1 then some 0 else _).map _);rw[if_pos h];rfl
  ·rw[decide_eq_false h];show Instr.findNow G.kd (G.K t) (nJ ((G.C mi).map UQ)) (i+1)=some ((if t=p.1 then some 0 else(tS t mi).map (·+1)).map _);rw[if_neg h,Bg t mi (i+1)]
   cases tS t mi with
   |none=>rfl
   |some j=>show some (some (i+1+j,undef))=some (some (i+(j+1),undef));rw[show i+1+j=i+(j+1) by omega]
theorem uz(e:Bool)(t:κ)(mi:List (κ×AT)):j0 P e kt (G.K t) ((G.C mi).map UQ)=some (tS t mi):=by
 unfold j0;rw[jd,G.hc];show Option.map _ (gM P (underlying kt >>= _))=_;rw[jd,jX G.hu];show Option.map _ (gM P (match Instr.findNow G.kd (G.K t) (nJ ((G.C mi).map UQ)) 0 with|some r=>pure r|none=>Instr.findAsking kt (G.K t) (nJ ((G.C mi).map UQ))))=_;rw[Bg];show some (Option.map _ (Option.map _ _))=_;rw[Option.map_map]
 cases tS t mi with
 |none=>rfl
 |some j=>show some (some (0+j))=_;rw[Nat.zero_add]
theorem IE(ok:Bool)(z:AT)(t:κ):∀mi:List (κ×AT),zk ok z (G.C mi) (some (tS t mi))=some (Nz ok z (kn t mi))
 |[]=>rfl
 |p::mi=>by
  have ih:=IE ok z t mi;unfold tS kn;by_cases h:t=p.1
  ·rw[if_pos h,if_pos h];rfl
  ·rw[if_neg h,if_neg h,<-ih];cases tS t mi<;>rfl
theorem Ma(t:κ)(v:AT):∀mi:List (κ×AT),Ru (G.K t) v (G.C mi) (some (tS t mi))=some (G.C (lW t v mi))
 |[]=>rfl
 |p::mi=>by
  have ih:=Ma t v mi;unfold tS lW;by_cases h:t=p.1
  ·rw[if_pos h,if_pos h];show cond (Instr.sameBits 10000 (G.K p.1) (G.K t)) _ none=_;rw[G.hb,decide_eq_true h.symm];rfl
  ·rw[if_neg h,if_neg h]
   cases hi:tS t mi with
   |none=>
    rw[hi]at ih;injection ih with ih
    show some ((G.K p.1,p.2)::(G.C mi++[(G.K t,v)]))=some ((G.K p.1,p.2)::G.C (lW t v mi));rw[ih]
   |some j=>
    rw[hi]at ih;replace ih:(match(G.C mi)[j]? with|some q=>cond (Instr.sameBits 10000 q.1 (G.K t)) (some ((G.C mi).set j (G.K t,v))) none|none=>none)=some (G.C (lW t v mi)):=ih;show(match((G.K p.1,p.2)::G.C mi)[j+1]? with|some q=>cond (Instr.sameBits 10000 q.1 (G.K t)) (some (((G.K p.1,p.2)::G.C mi).set (j+1) (G.K t,v))) none|none=>none)=some ((G.K p.1,p.2)::G.C (lW t v mi));rw[List.getElem?_cons_succ]
    cases hq:(G.C mi)[j]? with
    |none=>rw[hq]at ih;cases ih
    |some q=>
     rw[hq]at ih;replace ih:cond (Instr.sameBits 10000 q.1 (G.K t)) (some ((G.C mi).set j (G.K t,v))) none=some (G.C (lW t v mi)):=ih;show cond (Instr.sameBits 10000 q.1 (G.K t)) _ none=_
     cases hs:Instr.sameBits 10000 q.1 (G.K t)with
     |false=>rw[hs]at ih;cases ih
     |true=>
      rw[hs]at ih;injection ih with ih
      show some ((G.K p.1,p.2)::(G.C mi).set j (G.K t,v))=_;rw[ih]
theorem Oe(t:κ):∀mi:List (κ×AT),aa5 (G.C mi) (some (tS t mi))=some (G.C (An t mi))
 |[]=>rfl
 |p::mi=>by
  have ih:=Oe t mi;unfold tS An;by_cases h:t=p.1
  ·rw[if_pos h,if_pos h];rfl
  ·rw[if_neg h,if_neg h]
   cases hi:tS t mi with
   |none=>
    rw[hi]at ih;injection ih with ih
    show some ((G.K p.1,p.2)::G.C mi)=some ((G.K p.1,p.2)::G.C (An t mi));rw[<-ih]
   |some j=>
    rw[hi]at ih;injection ih with ih
    show some ((G.K p.1,p.2)::(G.C mi).eraseIdx j)=some ((G.K p.1,p.2)::G.C (An t mi));rw[ih]
variable{m:FM}{n b:Nat}{mi:List (κ×AT)}
theorem vG(hb:b<n)(hm:m b=some (.map (G.C mi)))(z:AT)(ok:Bool)(t:κ):
  lu P (.look kt z ok) [.map (some b),G.K t] m n=.ok (Nz ok z (kn t mi)) m n (bit b) 0:=by
 show cond (gy (G.K t)) (A' P kt z ok m n b (G.K t) (jc m n b)) .no=_;rw[G.hf,ig hb,hm];show py m n b (zk ok z (G.C mi) (j0 P (G.C mi).isEmpty kt (G.K t) ((G.C mi).map UQ)))=_;rw[uz,IE];rfl
theorem aaB(z:AT)(ok:Bool)(t:κ):lu P (.look kt z ok) [.map none,G.K t] m n=.ok (Nz ok z none) m n 0 0:=by show cond (gy (G.K t)) (iK m n (zk ok z [] (j0 P true kt (G.K t) []))) .no=_;rw[G.hf];have:=uz G true t [];rw[show j0 P true kt (G.K t) []=some none from this];rfl
theorem Dq(hb:b<n)(hm:m b=some (.map (G.C mi)))(t:κ)(v:AT):
  lu P (.upd kt) [.map (some b),G.K t,v] m n=.ok undef (If m b (some (.map (G.C (lW t v mi))))) n (bit b) (bit b):=by
 show cond (gy (G.K t)) (JA P kt m n b (G.K t) v (jc m n b)) .no=_;rw[G.hf,ig hb,hm];show Ai m n b (Ru (G.K t) v (G.C mi) (j0 P false kt (G.K t) ((G.C mi).map UQ)))=_;rw[uz,Ma];rfl
theorem del_G(hb:b<n)(hm:m b=some (.map (G.C mi)))(t:κ):
  lu P (.del kt) [.map (some b),G.K t] m n=.ok undef (If m b (some (.map (G.C (An t mi))))) n (bit b) (bit b):=by
 show cond (gy (G.K t)) (KQ P kt m n b (G.K t) (jc m n b)) .no=_;rw[G.hf,ig hb,hm];show Ai m n b (aa5 (G.C mi) (j0 P (G.C mi).isEmpty kt (G.K t) ((G.C mi).map UQ)))=_;rw[uz,Oe];rfl
theorem mln_G(hb:b<n)(hm:m b=some (.map (G.C mi))):lu P .mln [.map (some b)] m n=.ok (.int .i64 (mi.length:Int)) m n (bit b) 0:=by show Ki m n b (jc m n b)=_;rw[ig hb,hm];show py m n b (some (.int .i64 ((G.C mi).length:Int)))=_;rw[KK.C,SC];rfl
theorem zj{t:κ}:∀{mi:List (κ×AT)},kn t mi=none↔t∉mi.map UQ
 |[]=>by simp[kn]
 |p::mi=>by
  unfold kn;by_cases h:t=p.1
  ·simp[h]
  ·rw[if_neg h,zj (mi:=mi)];simp only[Uc,TG,not_or];exact⟨λh2=>⟨h,h2⟩,λh2=>h2.2⟩
theorem A4{t:κ}{u:AT}{B:List (κ×AT)}:∀{A:List (κ×AT)},t∉A.map UQ->kn t (A++(t,u)::B)=some u
 |[],_=>by simp[kn]
 |p::A,h=>by simp only[Uc,TG,not_or]at h;rw[SK];unfold kn;rw[if_neg h.1,A4 h.2]
end
theorem OY(a b:ByteArray):(a==b)=decide (a=b):=by
 obtain⟨a⟩:=a;obtain⟨b⟩:=b;show(a==b)=_;by_cases h:a=b
 ·subst h;simp
 ·have:(ByteArray.mk a)≠⟨b⟩:=λe=>h (by injection e);rw[decide_eq_false this];simpa using h
def KS(P:SZ)(kt:Nat)(hu:P.underlying kt=some .string):KK P ByteArray kt where
 K:=.string
 kd:=.string
 hu:=hu
 hn:=λa b=>by show some (a==b)=_;rw[OY]
 hb:=λn a b=>by show Instr.sameBits n (.string a) (.string b)=_;cases n<;>(show(a==b)=_;exact OY a b)
 hc:=λe k=>by show gM P (underlying kt >>= _)=_;rw[jd,jX hu];rfl
 hf:=λ_=>rfl
def KU(P:SZ)(kt:Nat)(k:IntKind)(hu:P.underlying kt=some (.int k)):KK P Int kt where
 K:=.int k
 kd:=.int k
 hu:=hu
 hn:=λa b=>by show(if k=k then some (a==b)else none)=_;rw[if_pos rfl];by_cases h:a=b<;>simp[h]
 hb:=λn a b=>by show Instr.sameBits n (.int k a) (.int k b)=_;cases n<;>(show(k==k&&a==b)=_;by_cases h:a=b<;>simp[h])
 hc:=λe k'=>by show gM P (underlying kt >>= _)=_;rw[jd,jX hu];rfl
 hf:=λ_=>rfl
end Go.Am.CR
namespace Go.Am.CR
set_option maxRecDepth 100000
open Go Go.Am
variable{Y:Nat->List AT->FM->Nat->OR FM}
variable{vs:List Vo}{mv cv tv:AT}{N n S k s N':Nat}{M M':FM}{o w:Bool}{a:Int}
abbrev ME:=List (ByteArray×AT)
noncomputable def GS:KK PG ByteArray 9:=KS PG 9 rfl
def mY(v:Vo)(tv:AT):AT:=.agg #[.int .i64 (v.n:Int),.int .i64 (v.r:Int),tv]
inductive VsR(M:FM)(N:Nat):ME->List Vo->Prop
 |nil:VsR M N [] []
 |cons {v:Vo} {tv:AT} {es:ME} {vs:List Vo}:TP M N tv v.P->VsR M N es vs->VsR M N ((v.nm,mY v tv)::es) (v::vs)
theorem VsR.frame{M':FM}{N N':Nat}{es:ME}(h:VsR M N es vs)(hN:N<=N')(hf:∀b,b<N->M' b=M b):VsR M' N' es vs:=by
 induction h with
 |nil=>exact .nil
 |cons h1 _ ih=>exact .cons (h1.frame hN hf) ih
theorem VsR.other{M':FM}{k:Nat}{es:ME}{c:List AT}(h:VsR M N es vs)(hk:M k=some (.cells c s o w))(hc:c.length≠8)(hM:∀b,b≠k->M' b=M b):VsR M' N es vs:=by
 induction h with
 |nil=>exact .nil
 |cons h1 _ ih=>exact .cons (h1.other hk hc hM) ih
theorem VsR.names{es:ME}(h:VsR M N es vs):es.map UQ=vs.map Vo.nm:=by
 induction h with
 |nil=>rfl
 |cons h1 _ ih=>simp only[Uc,ih]
theorem VsR.len{es:ME}(h:VsR M N es vs):es.length=vs.length:=by have:=congrArg List.length h.names;simpa using this
theorem VsR.split{v:Vo}{B:List Vo}:∀{A:List Vo} {es:ME},VsR M N es (A++v::B)->∃EA tv EB,es=EA++(v.nm,mY v tv)::EB/\VsR M N EA A/\TP M N tv v.P/\VsR M N EB B
 |[],_,h=>by
  cases h with
  |cons h1 h2=>exact⟨[],_,_,rfl,.nil,h1,h2⟩
 |a::A,_,h=>by
  cases h with
  |cons h1 h2=>obtain⟨EA,tv,EB,rfl,h3,h4,h5⟩:=VsR.split h2;exact⟨_::EA,tv,EB,rfl,.cons h1 h3,h4,h5⟩
def MpR(M:FM)(N:Nat)(mv:AT)(vs:List Vo):Prop:=(mv=.map none/\vs=[])\/∃b es,mv=.map (some b)/\b<N/\M b=some (.map (GS.C es))/\VsR M N es vs
theorem MpR.frame{M':FM}{N N':Nat}(h:MpR M N mv vs)(hN:N<=N')(hf:∀b,b<N->M' b=M b):MpR M' N' mv vs:=h.imp id λ⟨b,es,h1,h2,h3,h4⟩=>⟨b,es,h1,by omega,(hf b h2).trans h3,h4.frame hN hf⟩
theorem MpR.other{M':FM}{k:Nat}{c:List AT}(h:MpR M N mv vs)(hk:M k=some (.cells c s o w))(hc:c.length≠8)(hM:∀b,b≠k->M' b=M b):MpR M' N mv vs:=h.imp id λ⟨b,es,h1,h2,h3,h4⟩=>⟨b,es,h1,h2,(hM b λe=>by rw[e,hk]at h3;cases h3).trans h3,h4.other hk hc hM⟩
theorem MpR.one(h:MpR M N mv vs):Am.one mv=true:=by rcases h with⟨rfl,_⟩|⟨b,es,rfl,_⟩<;>rfl
theorem MpR.gU(h:MpR M N mv vs):∀k,N<=k->jz k mv=true:=λk hk=>by
 rcases h with⟨rfl,_⟩|⟨b,es,rfl,hb,_⟩
 ·rfl
 ·exact gI (show b<k by omega)
structure FamR(S:Nat)(M:FM)(N:Nat)(cv mv:AT)(vs:List Vo):Prop where
 c:Cts M N cv ((mF S (slv vs)).map Int.ofNat)
 m:MpR M N mv vs
theorem FamR.frame{M':FM}{N N':Nat}(h:FamR S M N cv mv vs)(hN:N<=N')(hf:∀b,b<N->M' b=M b):FamR S M' N' cv mv vs:=⟨h.c.frame hN hf,h.m.frame hN hf⟩
theorem FamR.other{M':FM}{k:Nat}{c:List AT}(h:FamR S M N cv mv vs)(hk:M k=some (.cells c s o w))(hs:s≠1)(hc:c.length≠8)(hM:∀b,b≠k->M' b=M b):FamR S M' N cv mv vs:=⟨h.c.other hk hs hM,h.m.other hk hc hM⟩
def fV(cv mv:AT):AT:=.agg #[cv,mv]
def gK(vs:List Vo)(s:ByteArray):Option Vo:=vs.find? λv=>decide (v.nm=s)
theorem jj{s:ByteArray}{v:Vo}(h:gK vs s=some v):∃A B,vs=A++v::B/\v.nm=s/\∀a∈A,a.nm≠s:=by obtain⟨h1,A,B,rfl,h2⟩:=List.find?_eq_some_iff_append.1 h;exact⟨A,B,rfl,by simpa using h1,λa ha=>by simpa using h2 a ha⟩
theorem yd{s:ByteArray}(h:gK vs s=none):s∉vs.map Vo.nm:=by have:=List.find?_eq_none.1 h;intro hs;obtain⟨v,hv,e⟩:=Us.1 hs;exact this v hv (by simpa using e)
theorem pH{v:Vo}{s:ByteArray}(h:MpR M N mv vs)(hv:gK vs s=some v):∃tv r,TP M N tv v.P/\lu PG (.look 9 (.agg #[.int .i64 0,.int .i64 0,.pointer none]) true) [mv,.string s] M N=.ok (.tuple #[mY v tv,.bool true]) M N r 0:=by
 obtain⟨A,B,rfl,rfl,hA⟩:=jj hv;rcases h with⟨_,h⟩|⟨b,es,rfl,hb,hm,h⟩
 ·cases A<;>cases h
 ·obtain⟨EA,tv,EB,rfl,h1,h2,h3⟩:=h.split;refine⟨tv,bit b,h2,?_⟩;have:=vG GS hb hm (.agg #[.int .i64 0,.int .i64 0,.pointer none]) true v.nm
  rw[A4 (by
   rw[h1.names];intro hn;obtain⟨a,ha,e⟩:=Us.1 hn
   exact hA a ha e)]at this
  exact this
theorem sY{s:ByteArray}(h:MpR M N mv vs)(hv:gK vs s=none):∃r,lu PG (.look 9 (.agg #[.int .i64 0,.int .i64 0,.pointer none]) true) [mv,.string s] M N=.ok (.tuple #[.agg #[.int .i64 0,.int .i64 0,.pointer none],.bool false]) M N r 0:=by
 rcases h with⟨rfl,h⟩|⟨b,es,rfl,hb,hm,h⟩
 ·exact⟨0,aaB GS _ _ _⟩
 ·refine⟨bit b,?_⟩;have:=vG GS hb hm (.agg #[.int .i64 0,.int .i64 0,.pointer none]) true s;rw[zj.2 (by rw[h.names];exact yd hv)]at this;exact this
theorem aaq(h:MpR M N mv vs):∃r,lu PG .mln [mv] M N=.ok (.int .i64 (vs.length:Int)) M N r 0:=by
 rcases h with⟨rfl,rfl⟩|⟨b,es,rfl,hb,hm,h⟩
 ·exact⟨0,rfl⟩
 ·have:=mln_G GS hb hm;rw[h.len]at this;exact⟨_,this⟩
def aaP(v:Vo)(a k:Int):Bool:=decide (0<=a/\0<=k/\a+k<=v.n)
theorem Ef{m:FM}{v:Vo}(a k:Int)(ho:Am.one tv=true)(h:v.n<=65536)(ha:-1000000000<=a/\a<=1000000000/\-1000000000<=k/\k<=1000000000):Pure (fL PG EL Y 123 [mY v tv,.int .i64 a,.int .i64 k] m n) m n (.bool (aaP v a k)):=by
 refine gC e123 rfl rfl ?_;simp only[QS,mY,aaP];by_cases h0:0<=a
 ·by_cases h3:0<=k
  ·by_cases h1:a<=v.n
   ·by_cases h2:a+k<=v.n
    ·rw[decide_eq_true ⟨h0,h3,h2⟩];simp(disch:=omega)only[W_,eu,to,ho,dW ho]
    ·rw[decide_eq_false (by omega)];simp(disch:=omega)only[W_,eu,to,ho,dW ho]
   ·rw[decide_eq_false (by omega)];simp(disch:=omega)only[W_,eu,to,ho,dW ho]
  ·rw[decide_eq_false (by omega)];simp(disch:=omega)only[W_,eu,to,ho,dW ho]
 ·rw[decide_eq_false (by omega)];simp(disch:=omega)only[W_,eu,to,ho,dW ho]
theorem pL{m:FM}(h:FamR S m n cv mv vs){s:ByteArray}{v:Vo}(hv:gK vs s=some v)(hvn:v.n<=65536){a k:Int}(ha:-1000000000<=a/\a<=1000000000/\-1000000000<=k/\k<=1000000000)(hk:0<=a/\0<=k/\a+k<=v.n):Kp (fL PG EL Y 57 [fV cv mv,.string s,.int .i64 a,.int .i64 k] m n) m n λr m' n'=>∃tv,r=.tuple #[mY v tv,.int .i64 0]/\TP m' n' tv v.P:=by refine gG (R:=λr m' n'=>∃tv,r=.tuple #[mY v tv,.int .i64 0]/\TP m' n' tv v.P) e57 rfl λQ hQ=>?_;simp only[ab1,fV];have o1:=h.c.one;have o2:=h.m.one;simp(disch:=omega)only[W_,eu,to,o1,o2,dW o1,dW o2];obtain⟨fr,t0,t1⟩:=iu (m:=m) (n:=n) (a:=.cells [cv,mv] 0 false true) (b:=.cells [.int .i64 0,.int .i64 0,.pointer none] 0 false true);revert fr t0 t1;generalize (If (If m n (some (.cells [cv,mv] 0 false true))) (n+1) (some (.cells [.int .i64 0,.int .i64 0,.pointer none] 0 false true)):FM)=M0;intro fr t0 t1;have h0:=h.m.frame (N':=n+2) (by omega) fr;obtain⟨tv,r,T,hl⟩:=pH h0 hv;have ot:=T.one;have qt:=T.gU;have qa:=T.gO;simp(disch:=omega)only[W_,eu,to,mE,hl,mY,ot,qt,qa,dW ot];have f1:∀b,b<n+2->(If M0 (n+2) (some (.cells [.int .i64 (v.n:Int),.int .i64 (v.r:Int),tv] 0 false true)):FM) b=M0 b:=λb hb=>gu;have t2:=eB M0 (n+2) (some (.cells [.int .i64 (v.n:Int),.int .i64 (v.r:Int),tv] 0 false true));have u1:=(f1 (n+1) (by omega)).trans t1;revert f1 t2 u1;generalize (If M0 (n+2) (some (.cells [.int .i64 (v.n:Int),.int .i64 (v.r:Int),tv] 0 false true)):FM)=M1;intro f1 t2 u1;refine fF (Ef (v:=v) a k ot hvn ha) λr1=>?_;rw[aaP,decide_eq_true hk];simp(disch:=omega)only[W_,eu,to,t2,u1,ot,qt,qa,dW ot];refine hQ _ _ _ _ _ (by omega) (λb hb=>gJ (by omega) ((f1 b (by omega)).trans (fr b hb))) (by simp(disch:=omega)only[fB,eS,eR,and_self]) rfl ⟨tv,rfl,?_⟩;exact(T.frame (N':=n+3) (by omega) f1).other u1 (by simp) λb hb=>en _ _ _ _ hb
theorem uF{m:FM}(h:FamR S m n cv mv vs){s:ByteArray}(hvn:∀v,gK vs s=some v->v.n<=65536){a k:Int}(ha:-1000000000<=a/\a<=1000000000/\-1000000000<=k/\k<=1000000000)(hk:∀v,gK vs s=some v->¬(0<=a/\0<=k/\a+k<=v.n)):Kp (fL PG EL Y 57 [fV cv mv,.string s,.int .i64 a,.int .i64 k] m n) m n λr m' n'=>∃e:Int,r=.tuple #[.agg #[.int .i64 0,.int .i64 0,.pointer none],.int .i64 e]/\((gK vs s=none/\e=9)\/(gK vs s≠none/\e=2)):=by
 refine gG (R:=λr m' n'=>∃e:Int,r=.tuple #[.agg #[.int .i64 0,.int .i64 0,.pointer none],.int .i64 e]/\((gK vs s=none/\e=9)\/(gK vs s≠none/\e=2))) e57 rfl λQ hQ=>?_;simp only[ab1,fV];have o1:=h.c.one;have o2:=h.m.one;simp(disch:=omega)only[W_,eu,to,o1,o2,dW o1,dW o2];obtain⟨fr,t0,t1⟩:=iu (m:=m) (n:=n) (a:=.cells [cv,mv] 0 false true) (b:=.cells [.int .i64 0,.int .i64 0,.pointer none] 0 false true);revert fr t0 t1;generalize (If (If m n (some (.cells [cv,mv] 0 false true))) (n+1) (some (.cells [.int .i64 0,.int .i64 0,.pointer none] 0 false true)):FM)=M0;intro fr t0 t1;have h0:=h.m.frame (N':=n+2) (by omega) fr
 cases hv:gK vs s with
 |none=>obtain⟨r,hl⟩:=sY h0 hv;simp(disch:=omega)only[W_,eu,to,mE,hl,t1];refine hQ _ _ _ _ _ (by omega) (λb hb=>(en _ _ _ _ (by omega)).trans ((en _ _ _ _ (by omega)).trans (fr b hb))) (by simp(disch:=omega)only[fB,eS,eR,and_self]) rfl ⟨9,rfl,.inl ⟨hv,rfl⟩⟩
 |some v=>obtain⟨tv,r,T,hl⟩:=pH h0 hv;have ot:=T.one;have qt:=T.gU;have qa:=T.gO;simp(disch:=omega)only[W_,eu,to,mE,hl,mY,ot,qt,qa,dW ot];have f1:∀b,b<n+2->(If M0 (n+2) (some (.cells [.int .i64 (v.n:Int),.int .i64 (v.r:Int),tv] 0 false true)):FM) b=M0 b:=λb hb=>gu;have u1:=(f1 (n+1) (by omega)).trans t1;revert f1 u1;generalize (If M0 (n+2) (some (.cells [.int .i64 (v.n:Int),.int .i64 (v.r:Int),tv] 0 false true)):FM)=M1;intro f1 u1;refine fF (Ef (v:=v) a k ot (hvn v hv) ha) λr1=>?_;have:=hk v hv;rw[aaP,decide_eq_false this];simp(disch:=omega)only[W_,eu,to,u1];refine hQ _ _ _ _ _ (by omega) (λb hb=>gJ (by omega) ((f1 b (by omega)).trans (fr b hb))) (by simp(disch:=omega)only[fB,eS,eR,and_self]) rfl ⟨2,rfl,.inr ⟨by rw[hv];simp,rfl⟩⟩
def lL(Y:Nat->List AT->FM->Nat->OR FM)(f:Nat):Prop:=
 (∀(m:FM) (n:Nat),Pure (Y f [.map none] m n) m n (.map none))/\
 ∀(m:FM) (n b:Nat) (es:List (AT×AT)),b<n->m b=some (.map es)->Rt (Y f [.map (some b)] m n) λv m' n' w=>n<=n'/\(∀b,b<n->m' b=m b)/\(∀j,j<=n->SL w (bit j)=0)/\∃b',v=.map (some b')/\n<=b'/\b'<n'/\m' b'=some (.map es)
def iG(v:Vo):List Vo->List Vo
 |[]=>[v]
 |u::vs=>if v.nm=u.nm then v::vs else u::iG v vs
def pU(s:ByteArray):List Vo->List Vo
 |[]=>[]
 |u::vs=>if s=u.nm then vs else u::pU s vs
theorem VsR.set{es:ME}(h:VsR M N es vs){v:Vo}(ht:TP M N tv v.P):VsR M N (lW v.nm (mY v tv) es) (iG v vs):=by
 induction h with
 |nil=>exact .cons ht .nil
 |cons h1 h2 ih=>
  unfold lW iG;dsimp only;split
  ·exact .cons ht h2
  ·exact .cons h1 ih
theorem VsR.del{es:ME}(h:VsR M N es vs)(s:ByteArray):VsR M N (An s es) (pU s vs):=by
 induction h with
 |nil=>exact .nil
 |cons h1 h2 ih=>
  unfold An pU;dsimp only;split
  ·exact h2
  ·exact .cons h1 ih
theorem lX(o:Option Nat):Am.one (.map o)=true:=rfl
theorem aej:nk PG .eql 61 (.map none) (.map none)=some (.bool true):=zx (by kernel_rfl) none
theorem aei(a:Nat):nk PG .eql 61 (.map (some a)) (.map none)=some (.bool false):=zx (by kernel_rfl) (some a)
theorem Ei{m:FM}{n:Nat}{a b c d:Blk}:(∀k,k<n->(If (If (If (If m n (some a)) (n+1) (some b)) (n+2) (some c)) (n+3) (some d):FM) k=m k)/\(If (If (If (If m n (some a)) (n+1) (some b)) (n+2) (some c)) (n+3) (some d):FM) (n+1)=some b/\(If (If (If (If m n (some a)) (n+1) (some b)) (n+2) (some c)) (n+3) (some d):FM) (n+2)=some c/\(If (If (If (If m n (some a)) (n+1) (some b)) (n+2) (some c)) (n+3) (some d):FM) (n+3)=some d:=⟨λk hk=>by rw[en _ _ _ _ (by omega),en _ _ _ _ (by omega),en _ _ _ _ (by omega),en _ _ _ _ (by omega)],by rw[en _ _ _ _ (by omega),en _ _ _ _ (by omega),eB],by rw[en _ _ _ _ (by omega),eB],eB _ _ _⟩
theorem sG(hM:lL Y 164){m:FM}{cv' tv:AT}{v:Vo}{cs:List Int}(ho:Am.one cv=true)(hm:MpR m n mv vs)(hc:Cts m n cv' cs)(ht:TP m n tv v.P):Kp (fL PG EL Y 91 [fV cv mv,.agg #[cv'],.string v.nm,mY v tv] m n) m n λr m' n'=>∃mv',r=fV cv' mv'/\MpR m' n' mv' (iG v vs):=by
 refine gG (R:=λr m' n'=>∃mv',r=fV cv' mv'/\MpR m' n' mv' (iG v vs)) e91 rfl λQ hQ=>?_;simp only[aeN,fV,mY];have o1:=hm.one;have o2:=hc.one;have o3:=ht.one;simp(disch:=omega)only[W_,eu,to,ho,o1,o2,o3,dW ho,dW o1,dW o2,dW o3];obtain⟨fr,t1,t2,t3⟩:=Ei (m:=m) (n:=n) (a:=.cells [cv,mv] 0 false true) (b:=.cells [cv'] 0 false true) (c:=.cells [.int .i64 (v.n:Int),.int .i64 (v.r:Int),tv] 0 false true) (d:=.cells [.slice none 0 0,.map none] 0 false true);revert fr t1 t2 t3;generalize (If (If (If (If m n (some (.cells [cv,mv] 0 false true))) (n+1) (some (.cells [cv'] 0 false true))) (n+2) (some (.cells [.int .i64 (v.n:Int),.int .i64 (v.r:Int),tv] 0 false true))) (n+3) (some (.cells [.slice none 0 0,.map none] 0 false true)):FM)=M0;intro fr t1 t2 t3;have T0:=ht.frame (N':=n+4) (by omega) fr;have C0:=hc.frame (N':=n+4) (by omega) fr;have qc:=C0.gU;have hcf:∀{b:Nat},gy (.agg #[cv',.map (some b)])=false:=by obtain⟨_,_,_,_,rfl,_⟩:=hc;intro b;rfl
 rcases hm with⟨rfl,rfl⟩|⟨b,es,rfl,hb,hmb,hvs⟩
 ·refine fF (kU (P:=PG) (E:=EL) (Y:=Y) aem▸hM.1 M0 (n+4)) λr1=>?_;simp(disch:=omega)only[W_,eu,to,aej,mE,map_mk,t2,o3];have f5:∀b,b<n+4->(If M0 (n+4) (some (.map (aay []))):FM) b=M0 b:=λb hb=>gu;have u2:=(f5 (n+2) (by omega)).trans t2;have u1:=(f5 (n+1) (by omega)).trans t1;have u3:=(f5 (n+3) (by omega)).trans t3;have um:(If M0 (n+4) (some (.map (aay []))):FM) (n+4)=some (.map (GS.C [])):=eB _ _ _;have hu:=Dq (n:=n+5) GS (by omega) um v.nm (mY v tv);revert f5 u1 u2 u3 um hu;generalize (If M0 (n+4) (some (.map (aay []))):FM)=M1;intro f5 u2 u1 u3 um hu;have hu2:lu PG (.upd 9) [.map (some (n+4)),.string v.nm,.agg #[.int .i64 (v.n:Int),.int .i64 (v.r:Int),tv]] M1 (n+5)=_:=hu;simp(disch:=omega)only[W_,eu,to,hu2,u1,u3,o2,qc,dW o2,mc,belowF_map,Cd];have ff:∀x,∀b,b<n->(If (If M1 (n+4) (some (.map (GS.C (lW v.nm (mY v tv) []))))) (n+3) x:FM) b=m b:=λx b hb=>(en _ _ _ _ (by omega)).trans ((en _ _ _ _ (by omega)).trans ((f5 b (by omega)).trans (fr b hb)));refine hQ _ _ _ _ _ (by omega) (ff _) (by simp(disch:=omega)only[fB,eS,eR,and_self]) hcf ⟨_,rfl,.inr ⟨n+4,_,rfl,by omega,(en _ _ _ _ (by omega)).trans (eB _ _ _),?_⟩⟩;exact .cons (ht.frame (by omega) (ff _)) .nil
 ·have hmb0:=(fr b hb).trans hmb;have hcl:=hM.2 M0 (n+4) b _ (by omega) hmb0;rw[<-kU (P:=PG) (E:=EL) (Y:=Y) aem]at hcl;refine fI hcl λv1 M1 n1 r1 w1 ⟨k1,f5,g1,b',hv1,hb1,hb2,hm1⟩=>?_;subst hv1;have u2:=(f5 (n+2) (by omega)).trans t2;have u1:=(f5 (n+1) (by omega)).trans t1;have u3:=(f5 (n+3) (by omega)).trans t3;have hu:=Dq (mi:=es) GS hb2 hm1 v.nm (mY v tv);have hu2:lu PG (.upd 9) [.map (some b'),.string v.nm,.agg #[.int .i64 (v.n:Int),.int .i64 (v.r:Int),tv]] M1 n1=_:=hu;have ne1:b'≠n+1:=by omega
  have ne3:b'≠n+3:=by omega
  have hlt:b'<n1:=hb2;simp(disch:=omega)only[W_,eu,to,aei,mE,u2,o3,hu2,u1,u3,o2,qc,dW o2,ne1,ne3,hlt,mc,belowF_map,Cd];have ff:∀x,∀b,b<n->(If (If M1 b' (some (.map (GS.C (lW v.nm (mY v tv) es))))) (n+3) x:FM) b=m b:=λx b hb=>(en _ _ _ _ (by omega)).trans ((en _ _ _ _ (by omega)).trans ((f5 b (by omega)).trans (fr b hb)));refine hQ _ _ _ _ _ (by omega) (ff _) (by simp(disch:=omega)only[fB,eS,eR,and_self,g1]) hcf ⟨_,rfl,.inr ⟨b',_,rfl,by omega,(en _ _ _ _ (by omega)).trans (eB _ _ _),?_⟩⟩;exact(hvs.frame (by omega) (ff _)).set (ht.frame (by omega) (ff _))
theorem vZ{m:FM}{s:ByteArray}(ho:Am.one cv=true)(hm:MpR m n mv vs)(hl:vs.length<=1000):Pure (fL PG EL Y 90 [fV cv mv,.string s] m n) m n (.int .i64 (if(gK vs s).isSome then 10 else if 32<=vs.length then 7 else 0)):=by
 refine gC e90 rfl rfl ?_;simp only[aeO,fV];have o1:=hm.one;simp(disch:=omega)only[W_,eu,to,ho,o1,dW ho,dW o1];have hm1:=hm.frame (N':=n+1) (M':=If m n (some (.cells [cv,mv] 0 false true))) (by omega) λb hb=>gu;have t0:=eB m n (some (.cells [cv,mv] 0 false true));revert hm1 t0;generalize (If m n (some (.cells [cv,mv] 0 false true)):FM)=M0;intro hm1 t0
 cases hv:gK vs s with
 |none=>
  obtain⟨r,hl⟩:=sY hm1 hv;have hm2:=hm1.frame (N':=n+2) (M':=If M0 (n+1) (some (.cells [.int .i64 0,.int .i64 0,.pointer none] 0 false true))) (by omega) λb hb=>gu;obtain⟨r2,hl2⟩:=aaq hm2;simp(disch:=omega)only[W_,eu,to,mE,hl,t0];by_cases h32:32<=vs.length
  ·simp(disch:=omega)only[W_,eu,to,hl2];rw[if_neg (by simp),if_pos h32]
  ·simp(disch:=omega)only[W_,eu,to,hl2];rw[if_neg (by simp),if_neg h32]
 |some v=>obtain⟨tv,r,T,hl⟩:=pH hm1 hv;have ot:=T.one;have qt:=T.gU;have qa:=T.gO;simp(disch:=omega)only[W_,eu,to,mE,hl,mY,ot,qt,qa,dW ot];rw[if_pos (by simp)]
def zg:Option Nat->AT
 |some s=>.tuple #[.int .i64 (s:Int),.bool true,.int .i64 0]
 |none=>.tuple #[.int .i64 0,.bool false,.int .i64 0]
theorem rE{m:FM}(h:FamR S m n cv mv vs){s:ByteArray}{v:Vo}(hv:gK vs s=some v)(hvn:v.n<=65536){a:Nat}(ha:a<v.n):Pure (fL PG EL Y 61 [fV cv mv,.string s,.int .i64 (a:Int)] m n) m n (zg (lk v.P a)):=by
 refine gC e61 rfl (by cases lk v.P a<;>rfl) ?_;simp only[ab0,fV];have o1:=h.c.one;have o2:=h.m.one;simp(disch:=omega)only[W_,eu,to,o1,o2,dW o1,dW o2];have h1:=h.frame (N':=n+1) (M':=If m n (some (.cells [cv,mv] 0 false true))) (by omega) λb hb=>gu;refine fI (pL h1 hv hvn (a:=(a:Int)) (k:=1) (by omega) (by omega)) λv1 M1 n1 r1 w1 ⟨k1,f1,g1,tv,hv1,T⟩=>?_;subst hv1;have ot:=T.one;have qt:=T.gU;have qa:=T.gO;simp(disch:=omega)only[W_,eu,to,mY,ot,qt,qa,dW ot];have T2:=T.frame (N':=n1+1) (M':=If M1 n1 (some (.cells [.int .i64 (v.n:Int),.int .i64 (v.r:Int),tv] 0 false true))) (by omega) λb hb=>gu;refine fF (find_spec T2 (by omega)) λr2=>?_
 cases hl:lk v.P a with
 |none=>simp only[NY,zg];simp(disch:=omega)only[W_,eu,to,g1]
 |some z=>simp only[NY,zg];simp(disch:=omega)only[W_,eu,to,g1]
theorem GG{m:FM}(h:FamR S m n cv mv vs){s:ByteArray}{a:Int}(hvn:∀v,gK vs s=some v->v.n<=65536/\¬(0<=a/\a<v.n))(ha:-1000000000<=a/\a<=1000000000):∃e:Int,e≠0/\Pure (fL PG EL Y 61 [fV cv mv,.string s,.int .i64 a] m n) m n (.tuple #[.int .i64 0,.bool false,.int .i64 e]):=by
 refine⟨if gK vs s=none then 9 else 2,by split<;>decide,gC e61 rfl rfl ?_⟩;simp only[ab0,fV];have o1:=h.c.one;have o2:=h.m.one;simp(disch:=omega)only[W_,eu,to,o1,o2,dW o1,dW o2];have h1:=h.frame (N':=n+1) (M':=If m n (some (.cells [cv,mv] 0 false true))) (by omega) λb hb=>gu;refine fI (uF h1 (λv hv=>(hvn v hv).1) (a:=a) (k:=1) (by omega) (λv hv=>by have:=(hvn v hv).2;omega)) λv1 M1 n1 r1 w1 ⟨k1,f1,g1,e,hv1,he⟩=>?_;subst hv1;rcases he with⟨h2,rfl⟩|⟨h2,rfl⟩
 ·rw[if_pos h2];simp(disch:=omega)only[W_,eu,to,g1]
 ·rw[if_neg h2];simp(disch:=omega)only[W_,eu,to,g1]
theorem DA{m:FM}(h:FamR S m n cv mv vs):Pure (fL PG EL Y 275 [fV cv mv] m n) m n (.int .i64 (S:Int)):=by refine gC e275 rfl rfl ?_;simp only[Qa,fV];have o1:=h.c.one;have o2:=h.m.one;simp(disch:=omega)only[W_,eu,to,o1,o2,dW o1,dW o2];have h1:=h.frame (N':=n+1) (M':=If m n (some (.cells [cv,mv] 0 false true))) (by omega) λb hb=>gu;refine fF (FY h1.c) λr1=>?_;rw[SC,ib];simp(disch:=omega)only[W_,eu,to]
theorem zC{m:FM}{s:Nat}(h:FamR S m n cv mv vs)(hS:S<=65536)(hs:s<S):Pure (fL PG EL Y 191 [fV cv mv,.int .i64 (s:Int)] m n) m n (.int .i64 ((slv vs).count s:Int)):=by
 refine gC e191 rfl rfl ?_;simp only[Qz,fV];have o1:=h.c.one;have o2:=h.m.one;simp(disch:=omega)only[W_,eu,to,o1,o2,dW o1,dW o2];have h1:=h.frame (N':=n+1) (M':=If m n (some (.cells [cv,mv] 0 false true))) (by omega) λb hb=>gu;refine fF (aae h1.c (by rw[SC,ib];omega) (s:=s) (by rw[SC,ib];omega)) λr1=>?_;have:((mF S (slv vs)).map Int.ofNat)[s]'(by rw[SC,ib];omega)=((slv vs).count s:Int):=by simp[mF]
 rw[this];simp(disch:=omega)only[W_,eu,to]
theorem wj{m:FM}(h:FamR S m n cv mv vs){s:ByteArray}{v:Vo}(hv:gK vs s=some v)(hvn:v.n<=65536){a:Nat}(ha:a+k<=v.n):Kp (fL PG EL Y 53 [fV cv mv,.string s,.int .i64 (a:Int),.int .i64 (k:Int)] m n) m n λr m' n'=>∃lv,r=.tuple #[lv,.int .i64 0]/\ExP m' n' lv (kY a (a+k) v.P):=by
 refine gN (R:=λr m' n'=>∃lv,r=.tuple #[lv,.int .i64 0]/\ExP m' n' lv (kY a (a+k) v.P)) e53 rfl ?_ λQ hQ=>?_
 ·rintro r m' n' hf ⟨lv,rfl,L,h1,h2⟩;have hf:(Am.flat lv&&(Am.flat (.int .i64 0)&&true))=true:=hf;rw[No]at hf;refine⟨lv,rfl,L,?_,h2⟩;rcases h1 with h|⟨b,_,rest,opn,wr,rfl,hb,_⟩
  ·exact .inl h
  ·cases hf.1
 simp only[ab2,fV];have o1:=h.c.one;have o2:=h.m.one;simp(disch:=omega)only[W_,eu,to,o1,o2,dW o1,dW o2];have fr:∀b,b<n->(If m n (some (.cells [cv,mv] 0 false true)):FM) b=m b:=λb hb=>gu;have h1:=h.frame (N':=n+1) (by omega) fr;refine fI (pL h1 hv hvn (a:=(a:Int)) (k:=(k:Int)) (by omega) (by omega)) λv1 M1 n1 r1 w1 ⟨k1,f1,g1,tv,hv1,T⟩=>?_;subst hv1;have ot:=T.one;have qt:=T.gU;have qa:=T.gO;simp(disch:=omega)only[W_,eu,to,mY,ot,qt,qa,dW ot];have f2:∀b,b<n1->(If M1 n1 (some (.cells [.int .i64 (v.n:Int),.int .i64 (v.r:Int),tv] 0 false true)):FM) b=M1 b:=λb hb=>gu;refine fI (yO (T.frame (N':=n1+1) (by omega) f2) (a:=a) (k:=k) (by omega)) λv3 M3 n3 r3 w3 ⟨k3,f3,g3,E3⟩=>?_;have o3:=E3.choose_spec.1.one;simp(disch:=omega)only[W_,eu,to,o3];exact hQ _ _ _ _ _ (by omega) (λb hb=>(f3 b (by omega)).trans ((f2 b (by omega)).trans ((f1 b (by omega)).trans (fr b hb)))) (by simp(disch:=omega)only[fB,eS,eR,and_self,g1,g3]) ⟨v3,rfl,E3⟩
theorem yP{m:FM}(h:FamR S m n cv mv vs){s:ByteArray}{a k:Nat}(ha:a+k<=65536)(hvn:∀v,gK vs s=some v->v.n<=65536/\v.n<a+k):Kp (fL PG EL Y 53 [fV cv mv,.string s,.int .i64 (a:Int),.int .i64 (k:Int)] m n) m n λr m' n'=>∃(lv:AT) (e:Int),r=.tuple #[lv,.int .i64 e]/\e≠0/\Am.one lv=true/\∃L,Exs m' n' lv L:=by
 refine gN (R:=λr m' n'=>∃(lv:AT) (e:Int),r=.tuple #[lv,.int .i64 e]/\e≠0/\Am.one lv=true/\∃L,Exs m' n' lv L) e53 rfl ?_ λQ hQ=>?_
 ·rintro r m' n' hv ⟨lv,e,rfl,he,ho,L,h'⟩;refine⟨lv,e,rfl,he,ho,L,?_⟩;rcases h' with h'|⟨b,k,rest,opn,wr,rfl,_⟩
  ·exact .inl h'
  ·cases hv
 simp only[ab2,fV];have o1:=h.c.one;have o2:=h.m.one;simp(disch:=omega)only[W_,eu,to,o1,o2,dW o1,dW o2];have fr:∀b,b<n->(If m n (some (.cells [cv,mv] 0 false true)):FM) b=m b:=λb hb=>gu;have h1:=h.frame (N':=n+1) (by omega) fr;refine fI (uF h1 (λv hv=>(hvn v hv).1) (a:=(a:Int)) (k:=(k:Int)) (by omega) (λv hv=>by have:=(hvn v hv).2;omega)) λv1 M1 n1 r1 w1 ⟨k1,f1,g1,e,hv1,he⟩=>?_;subst hv1;simp(disch:=omega)only[W_,eu,to];have f2:∀b,b<n1->(If M1 n1 (some (.cells [.int .i64 0,.int .i64 0,.pointer none] 0 false true)):FM) b=M1 b:=λb hb=>gu;refine fI (yO (TP.nil _ _) (a:=a) (k:=k) (by omega)) λv3 M3 n3 r3 w3 ⟨k3,f3,g3,E3⟩=>?_;have o3:=E3.choose_spec.1.one;simp(disch:=omega)only[W_,eu,to,o3];exact hQ _ _ _ _ _ (by omega) (λb hb=>(f3 b (by omega)).trans ((f2 b (by omega)).trans ((f1 b (by omega)).trans (fr b hb)))) (by simp(disch:=omega)only[fB,eS,eR,and_self,g1,g3]) ⟨v3,e,rfl,by rcases he with⟨_,rfl⟩|⟨_,rfl⟩<;>decide,o3,_,E3.choose_spec.1⟩
theorem Jo(S:Nat)(vs:List Vo):tn ((mF S (slv vs)).map Int.ofNat)=ko S vs:=by
 unfold tn ko;rw[SC,ib];refine Wd λs hs=>?_;have hs:=List.mem_range.1 hs;rw[List.getElem?_map,ES _ hs];show(some (Int.ofNat ((slv vs).count s))==some 0)=_;by_cases h:(slv vs).count s=0
 ·rw[h];rfl
 ·rw[show((slv vs).count s==0)=false by simpa using h];have:Int.ofNat ((slv vs).count s)≠0:=λe=>h (by simpa using e);simpa using this
theorem abq(S:Nat):(mF S (slv [])).map Int.ofNat=List.replicate S 0:=by refine List.ext_getElem (by simp[mF]) λi h1 h2=>?_;simp[mF,slv]
theorem kc:Am.one (.map none)=true:=rfl
theorem zr(hY:jf Y){m:FM}(h:FamR S m n cv mv vs)(hS:S<=65536):Kp (fL PG EL Y 110 [fV cv mv] m n) m n λr m' n'=>∃R,Exs m' n' r R/\NF R/\sL R=ko S vs:=by refine gN (R:=λr m' n'=>∃R,Exs m' n' r R/\NF R/\sL R=ko S vs) e110 rfl (λ_ _ _ hf ⟨R,h1,h2⟩=>⟨R,h1.free hf,h2⟩) λQ hQ=>?_;simp only[QZ,fV];have o1:=h.c.one;have o2:=h.m.one;simp(disch:=omega)only[W_,eu,to,o1,o2,dW o1,dW o2];have fr:∀b,b<n->(If m n (some (.cells [cv,mv] 0 false true)):FM) b=m b:=λb hb=>gu;have h1:=h.frame (N':=n+1) (by omega) fr;refine fI (Jp hY h1.c (by rw[SC,ib];omega)) λv3 M3 n3 r3 w3 ⟨k3,f3,g3,R,E3,E4,E5⟩=>?_;have o3:=E3.one;simp(disch:=omega)only[W_,eu,to,o3];refine hQ _ _ _ _ _ (by omega) (λb hb=>(f3 b (by omega)).trans (fr b hb)) (by simp(disch:=omega)only[fB,eS,eR,and_self,g3]) ⟨R,E3,E4,E5.trans (Jo S _)⟩
theorem J9{m:FM}(hS:S<=65536)(h0:0<S):Kp (fL PG EL Y 32 [.int .i64 (S:Int)] m n) m n λr m' n'=>∃cv,r=.tuple #[fV cv (.map none),.int .i64 0]/\FamR S m' n' cv (.map none) []:=by refine gG (R:=λr m' n'=>∃cv,r=.tuple #[fV cv (.map none),.int .i64 0]/\FamR S m' n' cv (.map none) []) e32 rfl λQ hQ=>?_;simp only[afl,fV];simp(disch:=omega)only[W_,eu,to];have fr:∀b,b<n->(If m n (some (.cells [.slice none 0 0,.map none] 0 false true)):FM) b=m b:=λb hb=>gu;have t0:=eB m n (some (.cells [.slice none 0 0,.map none] 0 false true));revert fr t0;generalize (If m n (some (.cells [.slice none 0 0,.map none] 0 false true)):FM)=M0;intro fr t0;refine fI (J' (S:=S) hS) λv3 M3 n3 r3 w3 ⟨k3,f3,g3,cv,hv3,E3⟩=>?_;subst hv3;have o3:=E3.one;have q3:=E3.gU;have u0:=(f3 n (by omega)).trans t0;simp(disch:=omega)only[W_,eu,to,o3,q3,u0,dW o3,kc];have f4:∀b,b<n3->(If M3 n3 (some (.cells [cv] 0 false true)):FM) b=M3 b:=λb hb=>gu;refine hQ _ _ _ _ _ (by omega) (λb hb=>gJ (by omega) ((f4 b (by omega)).trans ((f3 b (by omega)).trans (fr b hb)))) (by simp(disch:=omega)only[fB,eS,eR,and_self,g3]) rfl ⟨cv,rfl,?_,.inl ⟨rfl,rfl⟩⟩;rw[abq];exact(E3.frame (by omega) f4).other ((f4 n (by omega)).trans u0) (by simp) λb hb=>en _ _ _ _ hb
end Go.Am.CR
