/- The machine and its runs, part 16. -/
import Derived.Test.YtiibhndkoknmnaaGreatDoorB15
set_option linter.unusedVariables false
set_option linter.unusedSimpArgs false
open Go renaming Value→AT
open Go.IntKind renaming wrap→WH,signed→Wp,bits→WI
open Nat renaming reduceAdd→to,lor→OF,mod→SL,land→Un,testBit→U5,reduceShiftRight→AS,reduceAnd→By,reduceBNe→BY,add_assoc→Ux,le_refl→IN,reduceMul→IS,add_sub_cancel→UJ,beq_refl→UA,blt→Te,beq→SF,ble→Tj
open List renaming length→U9,length_drop→UF,length_append→IT,map_cons→Uc,foldl_cons→WJ,map_append→Uu,length_map→SC,drop_drop→TJ,drop_left→TK,append_assoc→S6,length_nil→Tn,length_cons→SA,flatMap_cons→TO,mem_append_left→Uf,eq_nil_or_concat→WA,append_nil→SN,nil_append→SJ,mem_singleton→SX,concat_eq_append→WB,mem_append→Tw,pairwise_append→TV,pairwise_singleton→UY,mem_flatMap→Uh,length_take→Vp,all_cons→WZ,length_singleton→Tu,drop_eq_getElem_cons→Tx
open Go.Am.AMem renaming put→If
namespace Go.Am.CR
set_option maxRecDepth 100000
open Go Go.Am
variable{Y:Nat->List AT->FM->Nat->OR FM}
variable{n i rb S k N n0 b N' f j a len sz:Nat}{m M M':FM}{full rest fr:List Nat}{vs:List Vo}{cv mv v lv:AT}{L:List Ex}{o w:Bool}{args cs:List AT}
theorem cvI{k:Nat}(h:k<=1000000000):pP .i64 (.int .u64 (k:Int))=some (.int .i64 (k:Int)):=by
 show some (Value.int .i64 (mu .i64 (k:Int)))=_;have e:IntKind.i64.wrap (k:Int)=(k:Int):=by simp only[WH,Wp,WI];simp;omega
 rw[jo,e]
theorem EK(h:RdR m n rb full i)(hk:k<=65536)(hl:full.length<=1000000)(hd:full.drop i=gL k++rest):Rt (fL PG EL Y 166 [mP rb,.int .i64 65536] m n) λv m' n' w=>v=.tuple #[.int .i64 (k:Int),.int .i64 0]/\n'=n/\RdE n rb full (i+(gL k).length) m m' n' w:=by refine(jO (R:=λv m' n' w=>v=.tuple #[.int .i64 (k:Int),.int .i64 0]/\n'=n/\RdE n rb full (i+(gL k).length) m m' n' w) e166 rfl h.1 λQ hQ=>?_).mono λv m' n' w h=>h.2;simp only[QL];simp(disch:=omega)only[W_,eu,to];refine fI (vp h (by omega) hl hd) λv1 M1 n1 r1 w1 ⟨hv1,hn1,E1⟩=>?_;subst hv1 hn1;have h1:pP .u64 (.int .i64 65536)=some (.int .u64 65536):=cvU (k:=65536) (by omega);have h2:=cvI (k:=k) (by omega);simp(disch:=omega)only[W_,eu,to,h1,h2];exact hQ _ _ _ _ _ E1.t ⟨rfl,rfl,E1⟩
theorem Fe{xs:List Nat}(h:RdR m n rb full i)(hk:xs.length<=65536)(h0:0<xs.length)(hl:full.length<=1000000)(hd:full.drop i=gL xs.length++(xs++rest)):Rt (fL PG EL Y 165 [mP rb] m n) λv m' n' w=>(∃b,v=.tuple #[.slice (some ⟨b,i+(gL xs.length).length,none⟩) xs.length xs.length,.int .i64 0]/\b<n/\b≠rb/\m b=some (.cells (byC full) 1 true true))/\n'=n/\RdE n rb full (i+(gL xs.length).length+xs.length) m m' n' w:=by refine(jO (R:=λv m' n' w=>(∃b,v=.tuple #[.slice (some ⟨b,i+(gL xs.length).length,none⟩) xs.length xs.length,.int .i64 0]/\b<n/\b≠rb/\m b=some (.cells (byC full) 1 true true))/\n'=n/\RdE n rb full (i+(gL xs.length).length+xs.length) m m' n' w) e165 rfl h.1 λQ hQ=>?_).mono λv m' n' w h=>h.2;simp only[QM];simp(disch:=omega)only[W_,eu,to];refine fI (vp h (by omega) hl hd) λv1 M1 n1 r1 w1 ⟨hv1,hn1,E1⟩=>?_;subst hv1 hn1;simp(disch:=omega)only[W_,eu,to];have hlen:=congrArg U9 hd;rw[UF,IT,IT]at hlen;refine fI (yp E1.r (k:=xs.length) (by omega) (by omega) hl) λv2 M2 n2 r2 w2 ⟨t2,⟨b,hv2,hb,hbr,hm⟩,hn2,E2⟩=>?_;subst hv2 hn2;simp(disch:=omega)only[W_,eu,to];have E:=E1.trans E2;exact hQ _ _ _ _ _ E.t ⟨⟨b,rfl,hb,hbr,(E1.f b hb hbr).symm.trans hm⟩,rfl,E⟩
def rdV(rb:Nat):AT:=.agg #[mP rb]
theorem RdR.box(h:RdR m n rb full i)(c:Blk):RdR (If m n (some c)) (n+1) rb full i:=by obtain⟨hb,rv,hm,b,h1,h2,h3⟩:=h;exact⟨by omega,rv,(en _ _ _ _ (by omega)).trans hm,b,by omega,(en _ _ _ _ (by omega)).trans h2,h3⟩
theorem RdE.box{n' w:Nat}{m':FM}{c:Option Blk}(h:RdE (n+1) rb full i (If m n c) m' n' w):RdE n rb full i m m' n' (OF (bit n) w):=⟨by rw[gv,h.t];simp,by have:=h.k;omega,h.r,λb hb hne=>(h.f b (by omega) hne).trans (en _ _ _ _ (by omega)),λj hj hne=>by rw[gv,h.w j (by omega) hne,gx,decide_eq_false (by omega)];rfl⟩
theorem Ju{fn:AFn}(hE:EL f=some fn)(ha:kO args=fn.na)(he:fn.endrs=[])(h:Wr PG EL Y [] 0 (gD PG EL Y fn.code args m n) λX _ _ _ w=>X=.norm/\SL w (bit n)=0):Pure (fL PG EL Y f args m n) m n (.tuple #[]):=by
 rw[lT hE ha];obtain⟨X,e',m',n',r,w,hx,rfl,h2⟩:=kF (kG h);rw[hx];have e1:zn fn m n (.ok .norm e' m' n' r w)=iI m n (.tuple #[]) m' n' (OF r 0) w:=by show vH m n m' n' r w (pX e' m' n' fn.endrs)=_;rw[he];rfl
 rw[e1,nh rfl h2];exact⟨_,rfl⟩
theorem Ci:Pure (fL PG EL Y 42 [.int .i64 0] m n) m n (.tuple #[]):=by refine Ju e42 rfl rfl ?_;simp only[afe];simp(disch:=omega)only[W_,eu,to]
theorem JC(l:List Nat):Ax (byC l)=some (l.map λx:Nat=>(x:Int)):=by
 induction l with
 |nil=>rfl
 |cons x l ih=>show(match Ax (byC l)with|some zs=>some ((x:Int)::zs)|none=>none)=_;rw[ih];rfl
theorem yr:∀(l:List UInt8) (a:ByteArray),((l.map UInt8.toNat).map λx:Nat=>(x:Int)).foldl (λr n=>r.push (UInt8.ofNat n.toNat)) a=⟨a.data++l.toArray⟩
 |[],a=>by simp
 |x::l,a=>by
  rw[Uc,Uc,WJ,yr l];have:UInt8.ofNat ((x.toNat:Nat):Int).toNat=x:=by rw[Int.toNat_natCast,UInt8.ofNat_toNat]
  rw[this];show ByteArray.mk (a.data.push x++l.toArray)=_
  congr 1
  apply Array.ext';simp
theorem JG(s:ByteArray):strOf ((kN s).map λx:Nat=>(x:Int))=s:=by unfold strOf kN;rw[yr];show ByteArray.mk (#[]++s.data.toList.toArray)=s;simp
theorem ads{M:FM}{n k:Nat}{s:ByteArray}(h0:0<s.size)(hd:full.drop i=kN s++rest)(hb:b<n)(hm:M b=some (.cells (byC full) 1 o w)):lu PG .str [.slice (some ⟨b,i,none⟩) s.size k] M n=.ok (.string s) M n (bit b) 0:=by
 obtain⟨l,hl⟩:∃l,s.size=l+1:=⟨s.size-1,by omega⟩;rw[hl];show Am.kN M n b i (l+1) (jc M n b)=_;rw[ig hb,hm];show py M n b (Mn (byC full) i (l+1))=_;have h1:je (byC full) i (l+1)=some (byC (kN s)):=by rw[ja,lR,byC,<-List.map_drop,hd,jT,Uu,if_pos (by rw[IT,SC,jb];omega),List.take_left' (by rw[SC,jb,hl])];rfl
 have h2:Mn (byC full) i (l+1)=some (.string s):=by unfold Mn;rw[h1];simp only;rw[JC];simp only;rw[JG]
 rw[h2];rfl
theorem ki(h:RdR m n rb full i)(hk:k<=65536)(hl:full.length<=1000000)(hd:full.drop i=gL k++rest):Rt (fL PG EL Y 99 [rdV rb] m n) λv m' n' w=>v=.int .i64 (k:Int)/\RdE n rb full (i+(gL k).length) m m' n' w:=by refine(jO (R:=λv m' n' w=>v=.int .i64 (k:Int)/\RdE n rb full (i+(gL k).length) m m' n' w) e99 rfl h.1 λQ hQ=>?_).mono λv m' n' w h=>h.2;simp only[aeG,rdV,mP];simp(disch:=omega)only[W_,eu,to];refine fI (EK (h.box _) hk hl hd) λv1 M1 n1 r1 w1 ⟨hv1,hn1,E1⟩=>?_;subst hv1 hn1;simp(disch:=omega)only[W_,eu,to];refine fF Ci λr2=>?_;simp(disch:=omega)only[W_,eu,to];have E:=E1.box;exact hQ _ _ _ _ _ E.t ⟨rfl,E⟩
theorem mR{s:ByteArray}(h:RdR m n rb full i)(hk:s.size<=65536)(h0:0<s.size)(hl:full.length<=1000000)(hd:full.drop i=gL s.size++(kN s++rest)):Rt (fL PG EL Y 98 [rdV rb] m n) λv m' n' w=>v=.string s/\RdE n rb full (i+(gL s.size).length+s.size) m m' n' w:=by refine(jO (R:=λv m' n' w=>v=.string s/\RdE n rb full (i+(gL s.size).length+s.size) m m' n' w) e98 rfl h.1 λQ hQ=>?_).mono λv m' n' w h=>h.2;simp only[aeH,rdV,mP];simp(disch:=omega)only[W_,eu,to];have hsl:=jb s;refine fI (Fe (xs:=kN s) (h.box _) (by omega) (by omega) hl (by rw[hsl];exact hd)) λv1 M1 n1 r1 w1 ⟨⟨b,hv1,hb,hbr,hm⟩,hn1,E1⟩=>?_;subst hv1 hn1;rw[hsl]at E1 ⊢;simp(disch:=omega)only[W_,eu,to];refine fF Ci λr2=>?_;have hm1:=(E1.f b hb hbr).trans hm;have hst:=ads (M:=M1) (n:=n+1) (k:=s.size) h0 (by rw[<-TJ,hd,TK]) hb hm1;simp(disch:=omega)only[W_,eu,to,mE,hst];have E:=E1.box;exact hQ _ _ _ _ _ E.t ⟨rfl,E⟩
theorem mI.land{w j:Nat}(h:mI w n rb)(hj:j<n)(hne:j≠rb):Un w (bit j)=0/\Un (bit j) w=0:=by have:=nL (h j hj hne);exact⟨by rw[show Un w (bit j)=Un (bit j) w from Nat.and_comm ..];exact this,this⟩
theorem RdR.frame{N:Nat}(h:RdR m n rb full i)(hN:n<=N)(hf:∀b,b<n->M b=m b):RdR M N rb full i:=by obtain⟨hb,rv,hm,b,h1,h2,h3⟩:=h;exact⟨by omega,rv,(hf _ hb).trans hm,b,by omega,(hf _ h1).trans h2,h3⟩
theorem RdR.put{n:Nat}{c:List AT}{B:Option Blk}(h:RdR m n rb full i)(hk:m k=some (.cells c 0 o w))(hne:k≠rb):RdR (If m k B) n rb full i:=by
 obtain⟨hb,rv,hm,b,h1,h2,h3⟩:=h;refine⟨hb,rv,(en _ _ _ _ (Ne.symm hne)).trans hm,b,h1,(en _ _ _ _ ?_).trans h2,h3⟩;rintro rfl;rw[hk]at h2;injection h2 with h2
 injection h2 with _ h2
 cases h2
def exN(x:Ex):List Nat:=gL x.a++(gL x.n++gL x.s)
theorem Er{x:Ex}(h:RdR m n rb full i)(hx:x.ok)(hl:full.length<=1000000)(hd:full.drop i=exN x++rest):Rt (fL PG EL Y 101 [rdV rb] m n) λv m' n' w=>v=.agg x.cs.toArray/\RdE n rb full (i+(exN x).length) m m' n' w:=by
 refine(jO (R:=λv m' n' w=>v=.agg x.cs.toArray/\RdE n rb full (i+(exN x).length) m m' n' w) e101 rfl h.1 λQ hQ=>?_).mono λv m' n' w h=>h.2;unfold Ex.ok at hx;have hb:=h.1;simp only[Q6,rdV,mP];simp(disch:=omega)only[W_,eu,to,U5,AS,By,BY];obtain⟨fr,t0,t1⟩:=iu (m:=m) (n:=n) (a:=.cells [.pointer (some ⟨rb,0,none⟩)] 0 false true) (b:=.cells [.int .i64 0,.int .i64 0,.int .i64 0] 0 false true);revert fr t0 t1;generalize (If (If m n (some (.cells [.pointer (some ⟨rb,0,none⟩)] 0 false true))) (n+1) (some (.cells [.int .i64 0,.int .i64 0,.int .i64 0] 0 false true)):FM)=M0;intro fr t0 t1;rw[exN,S6,S6]at hd;refine gP (ki (h.frame (N:=n+2) (by omega) fr) (by omega) hl hd) λv1 M1 n1 r1 w1 ⟨hv1,E1⟩=>?_;subst hv1;have La:=E1.w.land (show n<n+2 by omega) (by omega);have Lb:=E1.w.land (show n+1<n+2 by omega) (by omega);have u0:=(E1.f n (by omega) (by omega)).trans t0;have k1:=E1.k;simp(disch:=omega)only[W_,eu,to,U5,AS,By,BY,La,Lb,u0];have hd2:full.drop (i+(gL x.a).length)=gL x.n++(gL x.s++rest):=by rw[<-TJ,hd,TK]
 refine gP (ki E1.r (by omega) hl hd2) λv2 M2 n2 r2 w2 ⟨hv2,E2⟩=>?_;subst hv2;have Lc:=E2.w.land (show n<n1 by omega) (by omega);have Ld:=E2.w.land (show n+1<n1 by omega) (by omega);have x0:=(E2.f n (by omega) (by omega)).trans u0;have k2:=E2.k;simp(disch:=omega)only[W_,eu,to,U5,AS,By,BY,Lc,Ld,x0];have hd3:full.drop (i+(gL x.a).length+(gL x.n).length)=gL x.s++rest:=by rw[<-TJ,hd2,TK]
 refine fI (ki E2.r (by omega) hl hd3) λv3 M3 n3 r3 w3 ⟨hv3,E3⟩=>?_;subst hv3;have u1:=(E3.f (n+1) (by omega) (by omega)).trans ((E2.f (n+1) (by omega) (by omega)).trans ((E1.f (n+1) (by omega) (by omega)).trans t1));have k3:=E3.k;simp(disch:=omega)only[W_,eu,to,U5,AS,By,BY,u1];refine hQ _ _ _ _ _ (by simp only[gv,E1.t];simp) ⟨rfl,by simp only[gv,E1.t];simp,by omega,?_,λb hb' hne=>?_,λj hj hne=>?_⟩
 ·rw[exN,IT,IT,<-Ux,<-Ux];exact E3.r.put u1 (by omega)
 ·rw[en _ _ _ _ (by omega),E3.f b (by omega) hne,E2.f b (by omega) hne,E1.f b (by omega) hne,fr b hb']
 ·simp only[gv,gx,E1.w j (by omega) hne,E2.w j (by omega) hne,E3.w j (by omega) hne];simp;omega
theorem FamR.rd{N:Nat}(h:FamR S M N cv mv vs)(hr:RdR M N rb full i)(hN:N<=N')(hf:∀b,b<N->b≠rb->M' b=M b):FamR S M' N' cv mv vs:=by
 obtain⟨hb,rv,hm,_⟩:=hr;have h1:=h.other (M':=If M rb (M' rb)) hm (by decide) (by simp) λb hb=>en _ _ _ _ hb;refine h1.frame hN λb hb=>?_;by_cases e:b=rb
 ·subst e;exact(eB _ _ _).symm
 ·rw[en _ _ _ _ e];exact hf b hb e
theorem Fm(n:Nat):jz n (.map none)=true:=rfl
theorem Lm(hM:lL Y 164){rest:List Nat}(h:FamR S m n cv mv vs)(hl:vs.length<=1000)(hR:RdR m n rb full i)(hfl:full.length<=1000000){s:ByteArray}(hs:nameOk s){r:Nat}(h1:1<=k)(h2:k<=65536)(h3:r<=k)(hd:full.drop i=gL s.size++(kN s++(gL k++(gL r++rest)))):
  Rt (fL PG EL Y 104 [fV cv mv,rdV rb] m n) λv m' n' w=>(∃cv' mv' e,v=.tuple #[fV cv' mv',.int .i64 e]/\(e=0↔kW vs s=0)/\(e=0->FamR S m' n' cv' mv' (iG ⟨s,k,r,[]⟩ vs)))/\RdE n rb full (full.length-rest.length) m m' n' w:=by
 refine(jO (R:=λv m' n' w=>(∃cv' mv' e,v=.tuple #[fV cv' mv',.int .i64 e]/\(e=0↔kW vs s=0)/\(e=0->FamR S m' n' cv' mv' (iG ⟨s,k,r,[]⟩ vs)))/\RdE n rb full (full.length-rest.length) m m' n' w) e104 rfl hR.1 λQ hQ=>?_).mono λv m' n' w h=>h.2;have hb:=hR.1;have o1:=h.c.one;have o2:=h.m.one;simp only[Q4,rdV,fV,mP];simp(disch:=omega)only[W_,eu,to,U5,AS,By,BY,o1,o2,dW o1,dW o2];obtain⟨fr,t0,t1,t2⟩:=jP (m:=m) (n:=n) (a:=.cells [cv,mv] 0 false true) (b:=.cells [.pointer (some ⟨rb,0,none⟩)] 0 false true) (c:=.cells [.slice none 0 0,.map none] 0 false true);revert fr t0 t1 t2;generalize (If (If (If m n (some (.cells [cv,mv] 0 false true))) (n+1) (some (.cells [.pointer (some ⟨rb,0,none⟩)] 0 false true))) (n+2) (some (.cells [.slice none 0 0,.map none] 0 false true)):FM)=M0;intro fr t0 t1 t2;have F0:=h.frame (N':=n+3) (by omega) fr;have R0:=hR.frame (N:=n+3) (by omega) fr;have hsz:=hs.s2;have hsz1:=hs.s1;refine gP (mR R0 (by omega) (by omega) hfl hd) λv1 M1 n1 r1 w1 ⟨hv1,E1⟩=>?_;subst hv1;have k1:=E1.k;have L1:=λj hj hne=>E1.w.land (j:=j) hj hne;have La:=L1 n (by omega) (by omega);have Lb:=L1 (n+1) (by omega) (by omega);have Lc:=L1 (n+2) (by omega) (by omega);have u1:=(E1.f (n+1) (by omega) (by omega)).trans t1;have hd2:full.drop (i+(gL s.size).length+s.size)=gL k++(gL r++rest):=by rw[<-TJ,<-TJ,hd,TK,<-jb s,TK]
 simp(disch:=omega)only[W_,eu,to,U5,AS,By,BY,La,Lb,Lc,u1];refine gP (ki E1.r (by omega) hfl hd2) λv2 M2 n2 r2 w2 ⟨hv2,E2⟩=>?_;subst hv2;have k2:=E2.k;have Ld:=E2.w.land (show n<n1 by omega) (by omega);have Le:=E2.w.land (show n+1<n1 by omega) (by omega);have Lf:=E2.w.land (show n+2<n1 by omega) (by omega);have y0:=(E2.f n (by omega) (by omega)).trans ((E1.f n (by omega) (by omega)).trans t0);have y1:=(E2.f (n+1) (by omega) (by omega)).trans u1;have hd3:full.drop (i+(gL s.size).length+s.size+(gL k).length)=gL r++rest:=by rw[<-TJ,hd2,TK]
 simp(disch:=omega)only[W_,eu,to,U5,AS,By,BY,La,Lb,Lc,Ld,Le,Lf,y0,y1,o1,o2];refine gP (ki E2.r (by omega) hfl hd3) λv3 M3 n3 r3 w3 ⟨hv3,E3⟩=>?_;subst hv3;have k3:=E3.k;have Lg:=E3.w.land (show n<n2 by omega) (by omega);have Lh:=E3.w.land (show n+1<n2 by omega) (by omega);have Li:=E3.w.land (show n+2<n2 by omega) (by omega);have F3:=((F0.rd R0 k1 E1.f).rd E1.r k2 E2.f).rd E2.r k3 E3.f;have y2:=(E3.f (n+2) (by omega) (by omega)).trans ((E2.f (n+2) (by omega) (by omega)).trans ((E1.f (n+2) (by omega) (by omega)).trans t2));have qc3:=F3.c.gU;have qm3:=F3.m.gU;simp(disch:=omega)only[W_,eu,to,U5,AS,By,BY,Lg,Lh,Li,qc3,qm3];refine gP (wF hM F3 hl hs h1 h2 h3) λv4 M4 n4 r4 w4 ⟨k4,f4,g4,h4⟩=>?_;have Lj:=gE (g4 n3 (IN _)) (show n<n3 by omega);have Lk:=gE (g4 n3 (IN _)) (show n+1<n3 by omega);have Ll:=gE (g4 n3 (IN _)) (show n+2<n3 by omega);have y3:=(f4 (n+2) (by omega)).trans y2;have hix:i+(gL s.size).length+s.size+(gL k).length+(gL r).length=full.length-rest.length:=by have:=congrArg U9 hd;simp only[UF,IT,jb]at this;omega
 have hRR:=λB=>((E3.r.frame k4 f4).put (B:=B) y3 (by omega));rw[hix]at hRR;have hfr:∀B b,b<n->b≠rb->(If M4 (n+2) B:FM) b=m b:=λB b hb' hne=>by rw[en _ _ _ _ (by omega),f4 b (by omega),E3.f b (by omega) hne,E2.f b (by omega) hne,E1.f b (by omega) hne,fr b hb']
 have hww:mI (((((bit n).lor (bit (n+1))).lor (bit (n+2))).lor (w1.lor w2)).lor ((w3.lor w4).lor (bit (n+2)))) n rb:=λj hj hne=>by simp only[gv,gx,E1.w j (by omega) hne,E2.w j (by omega) hne,E3.w j (by omega) hne,iO (g4 n3 (IN _)) j (by omega)];simp;omega
 rcases h4 with⟨hv,mv',rfl,F4⟩|⟨hv,rfl⟩
 ·have o4:=F4.m.one;have qc:=F4.c.gU;have qm:=F4.m.gU;simp(disch:=omega)only[W_,eu,to,U5,AS,By,BY,fV,Lg,Lh,Li,Lj,Lk,Ll,y3,o1,o4,qc,qm,iS,jl,iT,dW o1,dW o4];refine hQ _ _ _ _ _ (by simp only[gv,E1.t];simp) ⟨⟨cv,mv',0,rfl,by simp[hv],λ_=>?_⟩,by simp only[gv,E1.t];simp,by omega,hRR _,hfr _,hww⟩;exact F4.other y3 (by decide) (by simp) λb hb=>en _ _ _ _ hb
 ·have hbel:iW n4 (Value.tuple #[Value.agg #[Value.slice none 0 0,Value.map none],Value.int IntKind.i64 (kW vs s)])=true:=rfl;simp(disch:=omega)only[W_,eu,to,U5,AS,By,BY,fV,Lg,Lh,Li,Lj,Lk,Ll,y3,adS,kc,hbel,Fm];exact hQ _ _ _ _ _ (by simp only[gv,E1.t];simp) ⟨⟨_,_,kW vs s,rfl,Iff.rfl,λe=>absurd e hv⟩,by simp only[gv,E1.t];simp,by omega,hRR _,hfr _,hww⟩
theorem Ln(hY:jf Y)(hM:lL Y 164){rest:List Nat}(h:FamR S m n cv mv vs)(hI:Inv S vs)(hS:S<=65536)(h0:0<S)(hR:RdR m n rb full i)(hfl:full.length<=1000000){s:ByteArray}(hs:nameOk s){v:Vo}(hv:gK vs s=some v)(ha:a+k<=v.n)(hd:full.drop i=gL s.size++(kN s++(gL a++(gL k++rest)))):
  Rt (fL PG EL Y 102 [fV cv mv,rdV rb] m n) λu m' n' w=>(∃cv' mv',u=.tuple #[fV cv' mv',.int .i64 0]/\FamR S m' n' cv' mv' (iG ⟨s,v.n,v.r,jK a v.P++iC (a+k) v.P⟩ vs))/\RdE n rb full (full.length-rest.length) m m' n' w:=by
 refine(jO (R:=λu m' n' w=>(∃cv' mv',u=.tuple #[fV cv' mv',.int .i64 0]/\FamR S m' n' cv' mv' (iG ⟨s,v.n,v.r,jK a v.P++iC (a+k) v.P⟩ vs))/\RdE n rb full (full.length-rest.length) m m' n' w) e102 rfl hR.1 λQ hQ=>?_).mono λv m' n' w h=>h.2;have hvn:=(hI.found hv).n2;have hb:=hR.1;have o1:=h.c.one;have o2:=h.m.one;simp only[Q5,rdV,fV,mP];simp(disch:=omega)only[W_,eu,to,U5,AS,By,BY,o1,o2,dW o1,dW o2];obtain⟨fr,t0,t1,t2⟩:=jP (m:=m) (n:=n) (a:=.cells [cv,mv] 0 false true) (b:=.cells [.pointer (some ⟨rb,0,none⟩)] 0 false true) (c:=.cells [.slice none 0 0,.map none] 0 false true);revert fr t0 t1 t2;generalize (If (If (If m n (some (.cells [cv,mv] 0 false true))) (n+1) (some (.cells [.pointer (some ⟨rb,0,none⟩)] 0 false true))) (n+2) (some (.cells [.slice none 0 0,.map none] 0 false true)):FM)=M0;intro fr t0 t1 t2;have F0:=h.frame (N':=n+3) (by omega) fr;have R0:=hR.frame (N:=n+3) (by omega) fr;have hsz:=hs.s2;have hsz1:=hs.s1;refine gP (mR R0 (by omega) (by omega) hfl hd) λv1 M1 n1 r1 w1 ⟨hv1,E1⟩=>?_;subst hv1;have k1:=E1.k;have L1:=λj hj hne=>E1.w.land (j:=j) hj hne;have La:=L1 n (by omega) (by omega);have Lb:=L1 (n+1) (by omega) (by omega);have Lc:=L1 (n+2) (by omega) (by omega);have u1:=(E1.f (n+1) (by omega) (by omega)).trans t1;have hd2:full.drop (i+(gL s.size).length+s.size)=gL a++(gL k++rest):=by rw[<-TJ,<-TJ,hd,TK,<-jb s,TK]
 simp(disch:=omega)only[W_,eu,to,U5,AS,By,BY,La,Lb,Lc,u1];refine gP (ki E1.r (by omega) hfl hd2) λv2 M2 n2 r2 w2 ⟨hv2,E2⟩=>?_;subst hv2;have k2:=E2.k;have Ld:=E2.w.land (show n<n1 by omega) (by omega);have Le:=E2.w.land (show n+1<n1 by omega) (by omega);have Lf:=E2.w.land (show n+2<n1 by omega) (by omega);have y0:=(E2.f n (by omega) (by omega)).trans ((E1.f n (by omega) (by omega)).trans t0);have y1:=(E2.f (n+1) (by omega) (by omega)).trans u1;have hd3:full.drop (i+(gL s.size).length+s.size+(gL a).length)=gL k++rest:=by rw[<-TJ,hd2,TK]
 simp(disch:=omega)only[W_,eu,to,U5,AS,By,BY,La,Lb,Lc,Ld,Le,Lf,y0,y1,o1,o2];refine gP (ki E2.r (by omega) hfl hd3) λv3 M3 n3 r3 w3 ⟨hv3,E3⟩=>?_;subst hv3;have k3:=E3.k;have Lg:=E3.w.land (show n<n2 by omega) (by omega);have Lh:=E3.w.land (show n+1<n2 by omega) (by omega);have Li:=E3.w.land (show n+2<n2 by omega) (by omega);have F3:=((F0.rd R0 k1 E1.f).rd E1.r k2 E2.f).rd E2.r k3 E3.f;have y2:=(E3.f (n+2) (by omega) (by omega)).trans ((E2.f (n+2) (by omega) (by omega)).trans ((E1.f (n+2) (by omega) (by omega)).trans t2));have y4:=(E3.f n (by omega) (by omega)).trans y0;have qc3:=F3.c.gU;have qm3:=F3.m.gU;simp(disch:=omega)only[W_,eu,to,U5,AS,By,BY,Lg,Lh,Li,qc3,qm3];refine gP (yg hY hM F3 hI hS h0 hv ha) λv4 M4 n4 r4 w4 ⟨k4,f4,g4,cv',mv',fv,Fx,hv4,F4,X4⟩=>?_;subst hv4;have Lj:=gE (g4 n3 (IN _)) (show n<n3 by omega);have Lk:=gE (g4 n3 (IN _)) (show n+1<n3 by omega);have Ll:=gE (g4 n3 (IN _)) (show n+2<n3 by omega);have y3:=(f4 (n+2) (by omega)).trans y2;have y5:=(f4 n (by omega)).trans y4;have o3:=F4.c.one;have o4:=F4.m.one;have o5:=X4.one;have qc:=F4.c.gU;have qm:=F4.m.gU;have qx:=X4.HK;simp(disch:=omega)only[W_,eu,to,U5,AS,By,BY,fV,Lg,Lh,Li,Lj,Lk,Ll,y3,y5,o1,o3,o4,o5,qc,qm,qx,iS,jl,iT,dW o3,dW o4];have z3:(If M4 n (some (.cells [cv',mv'] 0 false true)):FM) (n+2)=some (.cells [.slice none 0 0,.map none] 0 false true):=(en _ _ _ _ (by omega)).trans y3;have hix:i+(gL s.size).length+s.size+(gL a).length+(gL k).length=full.length-rest.length:=by have:=congrArg U9 hd;simp only[UF,IT,jb]at this;omega
 have hRR:=((E3.r.frame k4 f4).put (B:=some (.cells [cv',mv'] 0 false true)) y5 (by omega)).put (B:=some (.cells [cv',mv'] 0 false true)) z3 (by omega);rw[hix]at hRR;refine hQ _ _ _ _ _ (by simp only[gv,E1.t];simp) ⟨⟨cv',mv',rfl,?_⟩,by simp only[gv,E1.t];simp,by omega,hRR,λb hb' hne=>?_,λj hj hne=>?_⟩
 ·exact(F4.other y5 (by decide) (by simp) λb hb=>en _ _ _ _ hb).other z3 (by decide) (by simp) λb hb=>en _ _ _ _ hb
 ·rw[en _ _ _ _ (by omega),en _ _ _ _ (by omega),f4 b (by omega),E3.f b (by omega) hne,E2.f b (by omega) hne,E1.f b (by omega) hne,fr b hb']
 ·simp only[gv,gx,E1.w j (by omega) hne,E2.w j (by omega) hne,E3.w j (by omega) hne,iO (g4 n3 (IN _)) j (by omega)];simp;omega
theorem K8(hU:YUp Y)(hY:jf Y)(hM:lL Y 164)(hC:me Y){rest:List Nat}(h:FamR S m n cv mv vs)(hI:Inv S vs)(hS:S<=65536)(h0:0<S)(hR:RdR m n rb full i)(hfl:full.length<=1000000){s:ByteArray}(hs:nameOk s){v:Vo}(hv:gK vs s=some v)(hd:full.drop i=gL s.size++(kN s++rest)):
  Rt (fL PG EL Y 107 [fV cv mv,rdV rb] m n) λu m' n' w=>(∃cv' mv',u=.tuple #[fV cv' mv',.int .i64 0]/\FamR S m' n' cv' mv' (pU s vs))/\RdE n rb full (full.length-rest.length) m m' n' w:=by
 refine(jO (R:=λu m' n' w=>(∃cv' mv',u=.tuple #[fV cv' mv',.int .i64 0]/\FamR S m' n' cv' mv' (pU s vs))/\RdE n rb full (full.length-rest.length) m m' n' w) e107 rfl hR.1 λQ hQ=>?_).mono λv m' n' w h=>h.2;have hb:=hR.1;have o1:=h.c.one;have o2:=h.m.one;simp only[Q2,rdV,fV,mP];simp(disch:=omega)only[W_,eu,to,U5,AS,By,BY,o1,o2,dW o1,dW o2];obtain⟨fr,t0,t1,t2⟩:=jP (m:=m) (n:=n) (a:=.cells [cv,mv] 0 false true) (b:=.cells [.pointer (some ⟨rb,0,none⟩)] 0 false true) (c:=.cells [.slice none 0 0,.map none] 0 false true);revert fr t0 t1 t2;generalize (If (If (If m n (some (.cells [cv,mv] 0 false true))) (n+1) (some (.cells [.pointer (some ⟨rb,0,none⟩)] 0 false true))) (n+2) (some (.cells [.slice none 0 0,.map none] 0 false true)):FM)=M0;intro fr t0 t1 t2;have F0:=h.frame (N':=n+3) (by omega) fr;have R0:=hR.frame (N:=n+3) (by omega) fr;have hsz:=hs.s2;have hsz1:=hs.s1;refine gP (mR R0 (by omega) (by omega) hfl hd) λv1 M1 n1 r1 w1 ⟨hv1,E1⟩=>?_;subst hv1;have k1:=E1.k;have La:=E1.w.land (show n<n+3 by omega) (by omega);have Lb:=E1.w.land (show n+1<n+3 by omega) (by omega);have Lc:=E1.w.land (show n+2<n+3 by omega) (by omega);have F1:=F0.rd R0 k1 E1.f;have y0:=(E1.f n (by omega) (by omega)).trans t0;have y2:=(E1.f (n+2) (by omega) (by omega)).trans t2;have qc1:=F1.c.gU;have qm1:=F1.m.gU;simp(disch:=omega)only[W_,eu,to,U5,AS,By,BY,La,Lb,Lc,qc1,qm1];refine gP (uI hU hY hM hC F1 hI hS h0 hv) λv4 M4 n4 r4 w4 ⟨k4,f4,g4,cv',mv',fv,Fx,hv4,F4,X4⟩=>?_;subst hv4;have Lj:=gE (g4 n1 (IN _)) (show n<n1 by omega);have Lk:=gE (g4 n1 (IN _)) (show n+1<n1 by omega);have Ll:=gE (g4 n1 (IN _)) (show n+2<n1 by omega);have y3:=(f4 (n+2) (by omega)).trans y2;have y5:=(f4 n (by omega)).trans y0;have o3:=F4.c.one;have o4:=F4.m.one;have o5:=X4.one;have qc:=F4.c.gU;have qm:=F4.m.gU;have qx:=X4.HK;simp(disch:=omega)only[W_,eu,to,U5,AS,By,BY,fV,La,Lb,Lc,Lj,Lk,Ll,y3,y5,o1,o3,o4,o5,qc,qm,qx,iS,jl,iT,dW o3,dW o4];have z3:(If M4 n (some (.cells [cv',mv'] 0 false true)):FM) (n+2)=some (.cells [.slice none 0 0,.map none] 0 false true):=(en _ _ _ _ (by omega)).trans y3;have hix:i+(gL s.size).length+s.size=full.length-rest.length:=by have:=congrArg U9 hd;simp only[UF,IT,jb]at this;omega
 have hRR:=((E1.r.frame k4 f4).put (B:=some (.cells [cv',mv'] 0 false true)) y5 (by omega)).put (B:=some (.cells [cv',mv'] 0 false true)) z3 (by omega);rw[hix]at hRR;refine hQ _ _ _ _ _ (by simp only[gv,E1.t];simp) ⟨⟨cv',mv',rfl,?_⟩,by simp only[gv,E1.t];simp,by omega,hRR,λb hb' hne=>?_,λj hj hne=>?_⟩
 ·exact(F4.other y5 (by decide) (by simp) λb hb=>en _ _ _ _ hb).other z3 (by decide) (by simp) λb hb=>en _ _ _ _ hb
 ·rw[en _ _ _ _ (by omega),en _ _ _ _ (by omega),f4 b (by omega),E1.f b (by omega) hne,fr b hb']
 ·simp only[gv,gx,E1.w j (by omega) hne,iO (g4 n1 (IN _)) j (by omega)];simp;omega
theorem K9(hU:YUp Y)(hM:lL Y 164)(hC:me Y){rest:List Nat}(h:FamR S m n cv mv vs)(hI:Inv S vs)(hS:S<=65536)(h0:0<S)(hR:RdR m n rb full i)(hfl:full.length<=1000000){s t:ByteArray}(hs:nameOk s)(ht:nameOk t){v:Vo}(hv:gK vs s=some v)(hvt:kW vs t=0)(hd:full.drop i=gL s.size++(kN s++(gL t.size++(kN t++rest)))):
  Rt (fL PG EL Y 105 [fV cv mv,rdV rb] m n) λu m' n' w=>(∃cv' mv',u=.tuple #[fV cv' mv',.int .i64 0]/\FamR S m' n' cv' mv' (iG ⟨t,v.n,0,v.P⟩ vs))/\RdE n rb full (full.length-rest.length) m m' n' w:=by
 refine(jO (R:=λu m' n' w=>(∃cv' mv',u=.tuple #[fV cv' mv',.int .i64 0]/\FamR S m' n' cv' mv' (iG ⟨t,v.n,0,v.P⟩ vs))/\RdE n rb full (full.length-rest.length) m m' n' w) e105 rfl hR.1 λQ hQ=>?_).mono λv m' n' w h=>h.2;have hb:=hR.1;have o1:=h.c.one;have o2:=h.m.one;simp only[Q3,rdV,fV,mP];simp(disch:=omega)only[W_,eu,to,U5,AS,By,BY,o1,o2,dW o1,dW o2];obtain⟨fr,t0,t1,t2⟩:=jP (m:=m) (n:=n) (a:=.cells [cv,mv] 0 false true) (b:=.cells [.pointer (some ⟨rb,0,none⟩)] 0 false true) (c:=.cells [.slice none 0 0,.map none] 0 false true);revert fr t0 t1 t2;generalize (If (If (If m n (some (.cells [cv,mv] 0 false true))) (n+1) (some (.cells [.pointer (some ⟨rb,0,none⟩)] 0 false true))) (n+2) (some (.cells [.slice none 0 0,.map none] 0 false true)):FM)=M0;intro fr t0 t1 t2;have F0:=h.frame (N':=n+3) (by omega) fr;have R0:=hR.frame (N:=n+3) (by omega) fr;have hsz:=hs.s2;have hsz1:=hs.s1;have htz:=ht.s2;have htz1:=ht.s1;refine fI (mR R0 (by omega) (by omega) hfl hd) λv1 M1 n1 r1 w1 ⟨hv1,E1⟩=>?_;subst hv1;have k1:=E1.k;have F1:=F0.rd R0 k1 E1.f;have y0:=(E1.f n (by omega) (by omega)).trans t0;have y1:=(E1.f (n+1) (by omega) (by omega)).trans t1;have hd2:full.drop (i+(gL s.size).length+s.size)=gL t.size++(kN t++rest):=by rw[<-TJ,<-TJ,hd,TK,<-jb s,TK]
 simp(disch:=omega)only[W_,eu,to,U5,AS,By,BY,y0,y1,o1,o2];refine gP (mR E1.r (by omega) (by omega) hfl hd2) λv2 M2 n2 r2 w2 ⟨hv2,E2⟩=>?_;subst hv2;have k2:=E2.k;have La:=E2.w.land (show n<n1 by omega) (by omega);have Lb:=E2.w.land (show n+1<n1 by omega) (by omega);have Lc:=E2.w.land (show n+2<n1 by omega) (by omega);have F2:=F1.rd E1.r k2 E2.f;have y2:=(E2.f (n+2) (by omega) (by omega)).trans ((E1.f (n+2) (by omega) (by omega)).trans t2);have qc1:=F2.c.gU;have qm1:=F2.m.gU;simp(disch:=omega)only[W_,eu,to,U5,AS,By,BY,La,Lb,Lc,qc1,qm1];refine gP (wH hU hM hC F2 hI hS h0 hv ht) λv4 M4 n4 r4 w4 ⟨k4,f4,g4,h4⟩=>?_;rcases h4 with⟨_,cv',mv',hv4,F4⟩|⟨h4,_⟩
 ·subst hv4;have Lj:=gE (g4 n2 (IN _)) (show n<n2 by omega);have Lk:=gE (g4 n2 (IN _)) (show n+1<n2 by omega);have Ll:=gE (g4 n2 (IN _)) (show n+2<n2 by omega);have y3:=(f4 (n+2) (by omega)).trans y2;have o3:=F4.c.one;have o4:=F4.m.one;have qc:=F4.c.gU;have qm:=F4.m.gU;simp(disch:=omega)only[W_,eu,to,U5,AS,By,BY,fV,La,Lb,Lc,Lj,Lk,Ll,y3,o1,o3,o4,qc,qm,iS,jl,iT,dW o3,dW o4];have hix:i+(gL s.size).length+s.size+(gL t.size).length+t.size=full.length-rest.length:=by have:=congrArg U9 hd;simp only[UF,IT,jb]at this;omega
  have hRR:=(E2.r.frame k4 f4).put (B:=some (.cells [cv',mv'] 0 false true)) y3 (by omega);rw[hix]at hRR;refine hQ _ _ _ _ _ (by simp only[gv,E1.t];simp) ⟨⟨cv',mv',rfl,?_⟩,by simp only[gv,E1.t];simp,by omega,hRR,λb hb' hne=>?_,λj hj hne=>?_⟩
  ·exact F4.other y3 (by decide) (by simp) λb hb=>en _ _ _ _ hb
  ·rw[en _ _ _ _ (by omega),f4 b (by omega),E2.f b (by omega) hne,E1.f b (by omega) hne,fr b hb']
  ·simp only[gv,gx,E1.w j (by omega) hne,E2.w j (by omega) hne,iO (g4 n2 (IN _)) j (by omega)];simp;omega
 ·exact absurd hvt h4
theorem Jt{s:ByteArray}{v:Vo}(hv:gK vs s=some v):iG ⟨s,v.n,v.r,v.P⟩ vs=vs:=by obtain⟨A,B,rfl,h1,hA⟩:=jj hv;rw[nR (v:=v) (w:=⟨s,v.n,v.r,v.P⟩) h1 λa ha=>hA a ha,<-h1]
theorem aby(hY:jf Y)(hM:lL Y 164)(hS:S<=65536)(h0:0<S)(hfl:full.length<=1000000)(hrb:rb<n){s:ByteArray}{K:Nat}(hK:K<=1000)(x6 x7 x9 x13 x14:AT):
  ∀(xs:List Ex) (j i:Nat) (vs:List Vo) (v:Vo) (M:FM) (N:Nat) (cv mv x0 x1 x3 x5:AT),j+xs.length=K->n+3<=N->FamR S M N cv mv vs->Inv S vs->gK vs s=some v->Fre S vs v xs->RdR M N rb full i->full.drop i=xs.flatMap exN++rest->M n=some (.cells [cv,mv] 0 false true)->M (n+1)=some (.cells [.pointer (some ⟨rb,0,none⟩)] 0 false true)->M (n+2)=some (.cells [.slice none 0 0,.map none] 0 false true)->
  Gv (gD PG EL Y CT [x0,x1,.int .i64 (j:Int),x3,.int .i64 (K:Int),x5,x6,x7,.string s,x9,.pointer (some ⟨n+2,0,none⟩),.pointer (some ⟨n+1,0,none⟩),.pointer (some ⟨n,0,none⟩),x13,x14] M N) λX e M' N' w=>(∃z0 z1 z2 z3,X=.exit 0/\e=[z0,z1,z2,z3,x6,x7,.string s,x9,.pointer (some ⟨n+2,0,none⟩),.pointer (some ⟨n+1,0,none⟩),.pointer (some ⟨n,0,none⟩),x13,x14])/\(∃cv' mv',FamR S M' N' cv' mv' (iG ⟨s,v.n,v.r,nN xs v.P⟩ vs)/\M' n=some (.cells [cv',mv'] 0 false true))/\RdR M' N' rb full (i+(xs.flatMap exN).length)/\N<=N'/\M' (n+2)=some (.cells [.slice none 0 0,.map none] 0 false true)/\(∀b,b<n->b≠rb->M' b=M b)/\mI w n rb:=by
 intro xs
 induction xs with
 |nil=>intro j i vs v M N cv mv x0 x1 x3 x5 hj hN hF hI hv hFr hR hd m0 m1 m2;refine gA (L:=CT) (b:=uX) rfl ?_;simp only[uX];rw[Tn]at hj;simp(disch:=omega)only[W_,eu,to,U5,AS,By,BY];refine⟨⟨_,_,_,_,rfl⟩,⟨cv,mv,by rw[show nN [] v.P=v.P from rfl,Jt hv];exact hF,m0⟩,hR,IN _,m2,λ_ _ _=>trivial,λj _ _=>Nat.zero_testBit j⟩
 |cons x xs ih=>
  intro j i vs v M N cv mv x0 x1 x3 x5 hj hN hF hI hv hFr hR hd m0 m1 m2;rw[SA]at hj;have o1:=hF.c.one;have o2:=hF.m.one;refine gA (L:=CT) (b:=uX) rfl ?_;simp only[uX];simp(disch:=omega)only[W_,eu,to,U5,AS,By,BY,m0,m1,o1,o2];have hx:=hFr.ok x (List.mem_cons_self ..);have hd':full.drop i=exN x++(xs.flatMap exN++rest):=by rw[hd,TO,S6]
  refine gP (Er hR hx.1 hfl hd') λv1 M1 n1 r1 w1 ⟨hv1,E1⟩=>?_;subst hv1;have k1:=E1.k;have La:=E1.w.land (show n<N by omega) (by omega);have Lb:=E1.w.land (show n+1<N by omega) (by omega);have Lc:=E1.w.land (show n+2<N by omega) (by omega);have F1:=hF.rd hR k1 E1.f;have qc:=F1.c.gU;have qm:=F1.m.gU;simp(disch:=omega)only[W_,eu,to,U5,AS,By,BY,La,Lb,Lc,o1,o2,qc,qm];refine gP (Fu hY hM F1 hI hS h0 hv hx.1 hx.2.1 hx.2.2) λv2 M2 n2 r2 w2 ⟨k2,f2,g2,cv',mv',fv,Fx,hv2,F2,X2⟩=>?_;subst hv2;have Ld:=gE (g2 n1 (IN _)) (show n<n1 by omega);have Le:=gE (g2 n1 (IN _)) (show n+1<n1 by omega);have Lf:=gE (g2 n1 (IN _)) (show n+2<n1 by omega);have o3:=F2.c.one;have o4:=F2.m.one;have o5:=X2.one;have qc2:=F2.c.gU;have qm2:=F2.m.gU;have qx:=X2.HK;have y0:=(f2 n (by omega)).trans ((E1.f n (by omega) (by omega)).trans m0);simp(disch:=omega)only[W_,eu,to,U5,AS,By,BY,fV,La,Lb,Lc,Ld,Le,Lf,y0,o3,o4,o5,qc2,qm2,qx,iS,jl,iT,dW o3,dW o4];have hI2:=hI.assign hv hx.2.1 hx.2.2 λz hz=>hFr.fr z (by rw[iM];exact Uf _ hz);have hv2:gK (iG ⟨s,v.n,v.r,asg x v.P⟩ vs) s=some ⟨s,v.n,v.r,asg x v.P⟩:=sH hv rfl;have hFr2:=Fre.step hI hv hFr;have F3:=F2.other (M':=If M2 n (some (.cells [cv',mv'] 0 false true))) y0 (by decide) (by simp) λb hb=>en _ _ _ _ hb;have R3:=(E1.r.frame k2 f2).put (B:=some (.cells [cv',mv'] 0 false true)) y0 (by omega);have hd3:full.drop (i+(exN x).length)=xs.flatMap exN++rest:=by rw[<-TJ,hd',TK]
  have u0:=eB M2 n (some (.cells [cv',mv'] 0 false true));have u1:(If M2 n (some (.cells [cv',mv'] 0 false true)):FM) (n+1)=some (.cells [.pointer (some ⟨rb,0,none⟩)] 0 false true):=(en _ _ _ _ (by omega)).trans ((f2 (n+1) (by omega)).trans ((E1.f (n+1) (by omega) (by omega)).trans m1));have u2:(If M2 n (some (.cells [cv',mv'] 0 false true)):FM) (n+2)=some (.cells [.slice none 0 0,.map none] 0 false true):=(en _ _ _ _ (by omega)).trans ((f2 (n+2) (by omega)).trans ((E1.f (n+2) (by omega) (by omega)).trans m2));refine gR (ih (j+1) _ _ _ _ n2 cv' mv' _ _ _ _ (by omega) (by omega) F3 hI2 hv2 hFr2 R3 hd3 u0 u1 u2) λX e m n w ⟨p1,⟨cv2,mv2,p2,p3⟩,p4,p5,p6,p7,p8⟩=>⟨p1,⟨cv2,mv2,?_,p3⟩,?_,by omega,p6,λb hb hne=>?_,λi hi hne=>?_⟩
  ·have e:=vk (w:=⟨s,v.n,v.r,asg x v.P⟩) (w':=⟨s,v.n,v.r,nN xs (asg x v.P)⟩) rfl vs;dsimp only at p2;rw[e]at p2;exact p2
  ·rw[TO,IT,<-Ux];exact p4
  ·rw[p7 b hb hne,en _ _ _ _ (by omega),f2 b (by omega),E1.f b (by omega) hne]
  ·simp only[gv,gx,E1.w i (by omega) hne,iO (g2 n1 (IN _)) i (by omega),p8 i hi hne];simp;omega
theorem Lo(hU:YUp Y)(hY:jf Y)(hM:lL Y 164)(hC:me Y){rest:List Nat}(h:FamR S m n cv mv vs)(hI:Inv S vs)(hS:S<=65536)(h0:0<S)(hR:RdR m n rb full i)(hfl:full.length<=1000000){s:ByteArray}(hs:nameOk s){v:Vo}(hv:gK vs s=some v){xs:List Ex}(hxl:xs.length<=100)(hF:Fre S vs v xs)(hd:full.drop i=gL s.size++(kN s++(gL xs.length++(xs.flatMap exN++rest)))):
  Rt (fL PG EL Y 97 [fV cv mv,rdV rb] m n) λu m' n' w=>(∃cv' mv',u=.tuple #[fV cv' mv',.int .i64 0]/\FamR S m' n' cv' mv' (iG ⟨s,v.n,v.r,nN xs v.P⟩ vs))/\RdE n rb full (full.length-rest.length) m m' n' w:=by
 refine(jO (R:=λu m' n' w=>(∃cv' mv',u=.tuple #[fV cv' mv',.int .i64 0]/\FamR S m' n' cv' mv' (iG ⟨s,v.n,v.r,nN xs v.P⟩ vs))/\RdE n rb full (full.length-rest.length) m m' n' w) e97 rfl hR.1 λQ hQ=>?_).mono λv m' n' w h=>h.2;have hb:=hR.1;have o1:=h.c.one;have o2:=h.m.one;simp only[aeI,rdV,fV,mP];simp(disch:=omega)only[W_,eu,to,U5,AS,By,BY,o1,o2,dW o1,dW o2];obtain⟨fr,t0,t1,t2⟩:=jP (m:=m) (n:=n) (a:=.cells [cv,mv] 0 false true) (b:=.cells [.pointer (some ⟨rb,0,none⟩)] 0 false true) (c:=.cells [.slice none 0 0,.map none] 0 false true);revert fr t0 t1 t2;generalize (If (If (If m n (some (.cells [cv,mv] 0 false true))) (n+1) (some (.cells [.pointer (some ⟨rb,0,none⟩)] 0 false true))) (n+2) (some (.cells [.slice none 0 0,.map none] 0 false true)):FM)=M0;intro fr t0 t1 t2;have F0:=h.frame (N':=n+3) (by omega) fr;have R0:=hR.frame (N:=n+3) (by omega) fr;have hsz:=hs.s2;have hsz1:=hs.s1;refine fI (mR R0 (by omega) (by omega) hfl hd) λv1 M1 n1 r1 w1 ⟨hv1,E1⟩=>?_;subst hv1;have k1:=E1.k;have F1:=F0.rd R0 k1 E1.f;have y0:=(E1.f n (by omega) (by omega)).trans t0;have y1:=(E1.f (n+1) (by omega) (by omega)).trans t1;have y2:=(E1.f (n+2) (by omega) (by omega)).trans t2;have hd2:full.drop (i+(gL s.size).length+s.size)=gL xs.length++(xs.flatMap exN++rest):=by rw[<-TJ,<-TJ,hd,TK,<-jb s,TK]
 simp(disch:=omega)only[W_,eu,to,U5,AS,By,BY,y0,y1,o1,o2];refine fI (pI hU hC F1 hI hS hv) λv2 M2 n2 r2 w2 ⟨k2,f2,g2,hv2⟩=>?_;subst hv2;have z1:=(f2 (n+1) (by omega)).trans y1;simp(disch:=omega)only[W_,eu,to,U5,AS,By,BY,rF,z1];have f3:∀b,b<n2->(If M2 n2 (some (.cells [.string v.nm,.int .i64 (v.n:Int),.int .i64 (v.r:Int),.int .i64 (v.P.length:Int),.int .i64 (ij vs v.P:Int)] 0 false true)):FM) b=M2 b:=λb hb=>gu;revert f3;generalize (If M2 n2 (some (.cells [.string v.nm,.int .i64 (v.n:Int),.int .i64 (v.r:Int),.int .i64 (v.P.length:Int),.int .i64 (ij vs v.P:Int)] 0 false true)):FM)=M3;intro f3;have f23:∀b,b<n1->M3 b=M1 b:=λb hb=>(f3 b (by omega)).trans (f2 b hb);refine fI (ki (E1.r.frame (N:=n2+1) (by omega) f23) (by omega) hfl hd2) λv4 M4 n4 r4 w4 ⟨hv4,E4⟩=>?_;subst hv4;simp(disch:=omega)only[W_,eu,to,U5,AS,By,BY];have k4:=E4.k;have f34:∀b,b<n2+1->b≠rb->M4 b=M3 b:=E4.f;have F4:=(F1.frame (N':=n2+1) (by omega) f23).rd (E1.r.frame (N:=n2+1) (by omega) f23) k4 E4.f;have hd4:full.drop (i+(gL s.size).length+s.size+(gL xs.length).length)=xs.flatMap exN++rest:=by rw[<-TJ,hd2,TK]
 have w0:=(f34 n (by omega) (by omega)).trans ((f23 n (by omega)).trans y0);have w1':=(f34 (n+1) (by omega) (by omega)).trans ((f23 (n+1) (by omega)).trans y1);have w2':=(f34 (n+2) (by omega) (by omega)).trans ((f23 (n+2) (by omega)).trans y2);refine ic (aby hY hM hS h0 hfl hb (K:=xs.length) (by omega) _ _ _ _ _ xs 0 _ vs v M4 n4 cv mv _ _ _ _ (by omega) (by omega) F4 hI hv hF E4.r hd4 w0 w1' w2') λX e M5 n5 r5 w5 ⟨⟨z0,z1,z2,z3,hX,he⟩,⟨cv2,mv2,p2,p3⟩,p4,p5,p6,p7,p8⟩=>?_;subst hX he;have o3:=p2.c.one;have o4:=p2.m.one;simp(disch:=omega)only[W_,eu,to,U5,AS,By,BY,p3,o3,o4,dW o3,dW o4,p6];have hix:i+(gL s.size).length+s.size+(gL xs.length).length+(xs.flatMap exN).length=full.length-rest.length:=by have:=congrArg U9 hd;simp only[UF,IT,jb]at this;omega
 have hRR:=p4.put (B:=some (.cells [cv2,mv2] 0 false true)) p6 (by omega);rw[hix]at hRR;refine hQ _ _ _ _ _ (by simp only[gv,E1.t];simp) ⟨⟨cv2,mv2,rfl,?_⟩,by simp only[gv,E1.t];simp,by omega,hRR,λb hb' hne=>?_,λj hj hne=>?_⟩
 ·exact p2.other p6 (by decide) (by simp) λb hb=>en _ _ _ _ hb
 ·rw[en _ _ _ _ (by omega),p7 b hb' hne,f34 b (by omega) hne,f23 b (by omega),E1.f b (by omega) hne,fr b hb']
 ·simp only[gv,gx,E1.w j (by omega) hne,E4.w j (by omega) hne,p8 j hj hne,iO (g2 n1 (IN _)) j (by omega)];simp;omega
def puS(out:List Ex)(x:Ex):List Ex:=match out.getLast? with
 |some y=>if flw y x then out.dropLast++[⟨y.a,y.n+x.n,y.s⟩]else out++[x]
 |none=>[x]
theorem Sl(x:Ex):puS [] x=[x]:=rfl
theorem ul(A:List Ex)(y x:Ex):puS (A++[y]) x=if flw y x then A++[⟨y.a,y.n+x.n,y.s⟩]else A++[y]++[x]:=by unfold puS;rw[List.getLast?_append,List.getLast?_singleton,Option.some_or];simp only[List.dropLast_concat]
theorem adM{out:List Ex}{x:Ex}(h:VL out)(hx:x.ok)(hl:∀y∈out,y.a+y.n<=x.a):VL (puS out x)/\prs (puS out x)=prs out++x.pr/\(∀y∈puS out x,y.a+y.n<=x.a+x.n)/\(puS out x).length<=out.length+1:=by
 unfold Ex.ok at hx;rcases WA out with rfl|⟨A,y,rfl⟩
 ·rw[Sl];refine⟨VL.one (by unfold Ex.ok;omega),by rw[jq,sQ,SN,SJ],λy hy=>by obtain rfl:=SX.1 hy;omega,by simp⟩
 ·rw[WB]at h hl ⊢;rw[ul];have hy:=h.1 y (by simp);have hyx:=hl y (by simp);unfold Ex.ok at hy;by_cases hf:flw y x=true
  ·rw[if_pos hf];have hf2:=of_decide_eq_true hf;refine⟨⟨λz hz=>?_,?_⟩,?_,λz hz=>?_,by simp⟩
   ·rcases Tw.1 hz with hz|hz
    ·exact h.1 z (Uf _ hz)
    ·obtain rfl:=SX.1 hz;unfold Ex.ok;dsimp only;omega
   ·refine TV.2 ⟨h.left.2,UY _ _,λa ha b hb=>?_⟩;obtain rfl:=SX.1 hb;exact h.EF (y:=y) ha (by simp)
   ·rw[iZ,iZ,jq,jq,sQ,SN,SN,Ex.Gh hf2.1 hf2.2,S6]
   ·rcases Tw.1 hz with hz|hz
    ·have:=hl z (Uf _ hz);omega
    ·obtain rfl:=SX.1 hz;dsimp only;omega
  ·rw[if_neg hf];refine⟨⟨λz hz=>?_,?_⟩,?_,λz hz=>?_,by simp⟩
   ·rcases Tw.1 hz with hz|hz
    ·exact h.1 z hz
    ·obtain rfl:=SX.1 hz;unfold Ex.ok;omega
   ·refine TV.2 ⟨h.2,UY _ _,λa ha b hb=>?_⟩;obtain rfl:=SX.1 hb;exact hl a ha
   ·rw[iZ _ [x],jq,sQ,SN]
   ·rcases Tw.1 hz with hz|hz
    ·have:=hl z hz;omega
    ·obtain rfl:=SX.1 hz;omega
def joF(L:List Ex):List Ex:=L.foldl puS []
theorem NK(hj:j<L.length):joF (L.take (j+1))=puS (joF (L.take j)) L[j]:=by unfold joF;rw[List.take_succ_eq_append_getElem hj,List.foldl_append];rfl
theorem NL:∀(L out:List Ex),VL (out++L)->VL (L.foldl puS out)/\prs (L.foldl puS out)=prs (out++L)/\(L.foldl puS out).length<=out.length+L.length:=by
 suffices H:∀(L out:List Ex),VL out->VL L->(∀y∈out,∀x∈L,y.a+y.n<=x.a)->VL (L.foldl puS out)/\prs (L.foldl puS out)=prs (out++L)/\(L.foldl puS out).length<=out.length+L.length from
  λL out h=>H L out h.left h.right λy hy x hx=>h.EF hy hx
 intro L
 induction L with
 |nil=>intro out h _ _;rw[SN];exact⟨h,rfl,IN _⟩
 |cons x L ih=>
  intro out h h2 hl;obtain⟨p1,p2,p3,p4⟩:=adM h (h2.1 x (by simp)) λy hy=>hl y hy x (by simp);obtain⟨q1,q2,q3⟩:=ih (puS out x) p1 h2.tail λy hy z hz=>Nat.le_trans (p3 y hy) ((List.pairwise_cons.1 h2.2).1 z hz);rw[WJ];refine⟨q1,?_,?_⟩
  ·rw[q2,iZ,p2,iZ,jq,S6]
  ·rw[SA];omega
theorem MG{P:Program}{E:Nat->Option AFn}{fn:AFn}{R:AT->FM->Nat->Nat->Prop}(hE:E f=some fn)(ha:kO args=fn.na)(h:∀Q:AX->List AT->FM->Nat->Nat->Prop,(∀v e m' n' w,gy v=false->R v m' n' w->Q (.ret v) e m' n' w)->Wr P E Y [] 0 (gD P E Y fn.code args m n) Q):Rt (fL P E Y f args m n) R:=by rw[lT hE ha];obtain⟨X,e',m',n',r,w,hx,v,rfl,h1,h2⟩:=kF (kG (h (λX _ m' n' w=>∃v,X=.ret v/\gy v=false/\R v m' n' w) λv _ m' n' w k1 k2=>⟨v,rfl,k1,k2⟩));rw[hx,lz,oV h1];exact h2
theorem J0{A:List Ex}{x:Ex}(h:SlZ 3 m n0 n v A.length (exC A))(hv:VL A)(hx:x.ok)(hl:∀y∈A,y.a+y.n<=x.a)(hA:A.length<=70000)(h0:n0<=n):Rt (fL PG EL Y 284 [v,.agg x.cs.toArray] m n) λv' m' n' w=>n<=n'/\(∀b,b<n0->m' b=m b)/\(∀j,j<=n0->SL w (bit j)=0)/\SlZ 3 m' n0 n' v' (puS A x).length (exC (puS A x)):=by
 refine MG e284 rfl λQ hQ=>?_;simp only[PT,Ex.cs];have lo:=h.len;have qo:=h.bel;have oo:=h.one;unfold Ex.ok at hx;rcases WA A with rfl|⟨A,y,he⟩
 ·replace lo:qR false v=some (.int .i64 0):=lo;simp(disch:=omega)only[W_,eu,U5,to,AS,By,BY,IS,lo,oo];refine fI (rQ (L:=[]) (h.frame (N':=n+2) (by omega) λb _ hb=>(en _ _ _ _ (by omega)).trans (en _ _ _ _ (by omega))) x _ _ _ (by omega) (by simp)) λv1 M1 n1 r1 w1 ⟨hn1,S1,f1,g1⟩=>?_;subst hn1;simp(disch:=omega)only[W_,eu,U5,to,AS,By,BY,IS];refine hQ _ _ _ _ _ ?_ ⟨by omega,λb hb=>(f1 b hb).trans ((en _ _ _ _ (by omega)).trans (en _ _ _ _ (by omega))),λj hj=>(by simp(disch:=omega)only[fB,eS,eR,and_self,g1]),S1⟩;rcases S1 with⟨q,_⟩|⟨_,_,b,rfl,_⟩
  ·cases q
  ·rfl
 ·rw[WB]at he;subst he;have hy:=hv.1 y (by simp);have hyb:=hl y (by simp);unfold Ex.ok at hy;have hAl:(A++[y]).length=A.length+1:=by simp
  rw[hAl]at h lo hA;obtain⟨d1,d2,d3,d4⟩:=jF (l:=A++[y]) (j:=A.length) [] (by simp);simp only[SN,List.getElem_concat_length]at d1 d2 d3 d4;have d5:=Ev A y (y.n+x.n);have hend:=Bl (Y:=Y) (m:=If m n (some (.cells [.int .i64 (x.a:Int),.int .i64 (x.n:Int),.int .i64 (x.s:Int)] 0 false true))) (n:=n+1) y (by unfold Ex.small;omega);unfold Ex.cs at hend;by_cases c1:y.a+y.n=x.a
  ·by_cases c2:y.s+y.n=x.s
   ·rcases h with⟨q,_⟩|⟨_,_,ob,rfl,hob1,hob2,hoM⟩
    ·omega
    simp(disch:=omega)only[W_,eu,U5,to,AS,By,BY,IS,lo,oo,qo,UJ,hoM,d1,d2,d3,d4,d5];refine gS hend λr1=>?_;simp(disch:=omega)only[W_,eu,U5,to,AS,By,BY,IS,lo,oo,qo,UJ,hoM,d1,d2,d3,d4,d5];refine hQ _ _ _ _ _ rfl ⟨by omega,λb hb=>(en _ _ _ _ (by omega)).trans (en _ _ _ _ (by omega)),λj hj=>(by simp(disch:=omega)only[fB,eS,eR,and_self]),?_⟩;rw[ul,if_pos (show flw y x=true from decide_eq_true ⟨c1,c2⟩)];exact .inr ⟨by simp,jA _,ob,by simp,hob1,by omega,eB _ _ _⟩
   ·have hff:¬flw y x=true:=λhh=>c2 (of_decide_eq_true hh).2;obtain⟨ob,hix,hob1,hob2,hoM,_⟩:=h.at (i:=A.length) (by omega);have hO2:=h;rw[<-hAl]at hO2;simp(disch:=omega)only[W_,eu,U5,to,AS,By,BY,IS,lo,oo,qo,UJ,hix,hoM,d1,d2,d3,d4,d5];refine gS hend λr1=>?_;simp(disch:=omega)only[W_,eu,U5,to,AS,By,BY,IS,lo,oo,qo,UJ,hix,hoM,d1,d2,d3,d4,d5];refine fI (rQ (L:=A++[y]) (hO2.frame (N':=n+2) (by omega) λb _ hb=>(en _ _ _ _ (by omega)).trans (en _ _ _ _ (by omega))) x _ _ _ (by omega) (by omega)) λv1 M1 n1 r1 w1 ⟨hn1,S1,f1,g1⟩=>?_;subst hn1;simp(disch:=omega)only[W_,eu,U5,to,AS,By,BY,IS];refine hQ _ _ _ _ _ ?_ ⟨by omega,λb hb=>(f1 b hb).trans ((en _ _ _ _ (by omega)).trans (en _ _ _ _ (by omega))),λj hj=>(by simp(disch:=omega)only[fB,eS,eR,and_self,g1]),by rw[ul,if_neg hff];exact S1⟩;rcases S1 with⟨q,_⟩|⟨_,_,b,rfl,_⟩
    ·simp at q
    ·rfl
  ·have hff:¬flw y x=true:=λhh=>c1 (of_decide_eq_true hh).1;obtain⟨ob,hix,hob1,hob2,hoM,_⟩:=h.at (i:=A.length) (by omega);have hO2:=h;rw[<-hAl]at hO2;simp(disch:=omega)only[W_,eu,U5,to,AS,By,BY,IS,lo,oo,qo,UJ,hix,hoM,d1,d2,d3,d4,d5];refine gS hend λr1=>?_;simp(disch:=omega)only[W_,eu,U5,to,AS,By,BY,IS,lo,oo,qo,UJ,hix,hoM,d1,d2,d3,d4,d5];refine fI (rQ (L:=A++[y]) (hO2.frame (N':=n+2) (by omega) λb _ hb=>(en _ _ _ _ (by omega)).trans (en _ _ _ _ (by omega))) x _ _ _ (by omega) (by omega)) λv1 M1 n1 r1 w1 ⟨hn1,S1,f1,g1⟩=>?_;subst hn1;simp(disch:=omega)only[W_,eu,U5,to,AS,By,BY,IS];refine hQ _ _ _ _ _ ?_ ⟨by omega,λb hb=>(f1 b hb).trans ((en _ _ _ _ (by omega)).trans (en _ _ _ _ (by omega))),λj hj=>(by simp(disch:=omega)only[fB,eS,eR,and_self,g1]),by rw[ul,if_neg hff];exact S1⟩;rcases S1 with⟨q,_⟩|⟨_,_,b,rfl,_⟩
   ·simp at q
   ·rfl
theorem aaM(hL:Exs m n lv L)(hV:VL L)(hB:L.length<=70000)(e4 e5 e6 e7:AT):
  ∀(d j:Nat),j+d=L.length->∀(ov x2:AT) (M:FM) (N:Nat),n<=N->(∀b,b<n->M b=m b)->SlZ 3 M n N ov (joF (L.take j)).length (exC (joF (L.take j)))->
  Gv (gD PG EL Y xN [ov,.int .i64 (j:Int),x2,.int .i64 (L.length:Int),e4,e5,e6,e7,lv] M N) λX e M' N' w=>(∃ov' z1 z2,X=.exit 0/\e=[ov',z1,z2,e4,e5,e6,e7,lv]/\SlZ 3 M' n N' ov' (joF L).length (exC (joF L)))/\N<=N'/\(∀b,b<n->M' b=m b)/\SL w (bit n)=0:=by
 intro d
 induction d with
 |zero=>
  intro j hj ov x2 M N hN hf hO;refine gA (L:=xN) (b:=sj) rfl ?_;simp only[sj];obtain rfl:j=L.length:=by omega
  rw[List.take_length]at hO;simp(disch:=omega)only[W_,eu,U5,to,AS,By,BY,IS];exact⟨⟨_,_,_,rfl,hO⟩,IN _,hf⟩
 |succ d ih=>
  intro j hj ov x2 M N hN hf hO;obtain⟨b,rest,opn,wr,hi,ha,hm⟩:=hL.at (by omega);have hmM:=(hf b ha).trans hm;obtain⟨c1,c2,c3,c4⟩:=jF (l:=L) (j:=j) rest (by omega);have oo:=hO.one;have hVj:VL (L.take j):=by have:=hV;rw[<-List.take_append_drop j L]at this;exact this.left
  obtain⟨p1,p2,p3⟩:=NL (L.take j) [] (by rw[SJ];exact hVj);have hle:∀y∈joF (L.take j),y.a+y.n<=L[j].a:=λy hy=>by have hy1:=p1.1 y hy;unfold Ex.ok at hy1;have h4:(y.a+(y.n-1),y.s+(y.n-1))∈prs (joF (L.take j)):=Uh.2 ⟨y,hy,Ex.iH.2 ⟨by dsimp only;omega,by dsimp only;omega,by dsimp only;omega⟩⟩;unfold joF at h4;rw[p2,SJ]at h4;obtain⟨x,hx,h5⟩:=Uh.1 h4;have h6:=Ex.iH.1 h5;obtain⟨i,hi',rfl⟩:=List.getElem_of_mem hx;rw[Vp]at hi';have:=List.pairwise_iff_getElem.1 hV.2 i j (by omega) (by omega) (by omega);rw[List.getElem_take]at h6;dsimp only at h6;omega
  refine gA (L:=xN) (b:=sj) rfl ?_;simp only[sj];simp(disch:=omega)only[W_,eu,U5,to,AS,By,BY,IS,hi j (by omega),hmM,c1,oo];have hps:=J0 (Y:=Y) (x:=L[j]) (hO.frame (N':=N+1) (M':=If M N (some (.cells [.int .i64 (L[j].a:Int),.int .i64 (L[j].n:Int),.int .i64 (L[j].s:Int)] 0 false true))) (by omega) λb _ hb=>gu) p1 (hV.1 _ (List.getElem_mem _)) hle (by unfold joF;rw[Tn,Vp]at p3;omega) (by omega);unfold Ex.cs at hps;refine fI hps λv1 M1 n1 r1 w1 ⟨k1,f1,g1,S1⟩=>?_;rw[<-NK]at S1;have o1:=S1.one;simp(disch:=omega)only[W_,eu,U5,to,AS,By,BY,IS,o1];refine gR (ih (j+1) (by omega) _ _ _ _ (by omega) (λb hb=>(f1 b hb).trans ((en _ _ _ _ (by omega)).trans (hf b hb))) S1) λX e m n w ⟨p1,p2,p3,p4⟩=>⟨p1,by omega,p3,(by simp(disch:=omega)only[fB,eS,eR,and_self,g1,p4])⟩
theorem GO(h:Exs m n lv L)(hV:VL L)(hB:L.length<=70000):Kp (fL PG EL Y 192 [lv] m n) m n λr m' n'=>∃v',r=.tuple #[v',.int .i64 0]/\Exs m' n' v' (joF L):=by
 refine gN (R:=λr m' n'=>∃v',r=.tuple #[v',.int .i64 0]/\Exs m' n' v' (joF L)) e192 rfl ?_ λQ hQ=>?_
 ·rintro r m' n' hv ⟨v',rfl,h'⟩;refine⟨v',rfl,?_⟩;rcases h' with h'|⟨b,k,rest,opn,wr,rfl,_⟩
  ·exact .inl h'
  ·cases hv
 simp only[Qy];have o:=h.one;have l:=h.len;simp(disch:=omega)only[W_,eu,U5,to,AS,By,BY,IS,o];refine fF (yf h hV) λr1=>?_;simp(disch:=omega)only[W_,eu,U5,to,AS,By,BY,IS,o,l];refine ic (aaM h hV hB _ _ _ _ L.length 0 (by omega) _ _ m n (IN _) (λ_ _=>rfl) (.inl ⟨rfl,rfl,rfl⟩)) λX e M' N' r w ⟨⟨ov,z1,z2,hX,he,hS⟩,p2,p3,p4⟩=>?_;subst hX he;have so:=hS.one;simp(disch:=omega)only[W_,eu,U5,to,AS,By,BY,IS,so];exact hQ _ _ _ _ _ p2 p3 (by simp(disch:=omega)only[fB,eS,eR,and_self,p4]) ⟨ov,rfl,SlZ.exs hS⟩
theorem ad3(h:VL L):VL (joF L)/\prs (joF L)=prs L/\(joF L).length<=L.length:=by obtain⟨p1,p2,p3⟩:=NL L [] (by rw[SJ];exact h);exact⟨p1,by rw[joF,p2,SJ],by simpa[joF]using p3⟩
abbrev Wt:=Nat×List Int
def wrC(L:List Wt):List AT:=L.flatMap λp=>Value.int .i64 (p.1:Int)::u8s p.2
def OkD(ds:List (List Int)):Prop:=∀d∈ds,d.length=8
theorem BB(A B:List Wt):wrC (A++B)=wrC A++wrC B:=List.flatMap_append
theorem BA(p:Wt):wrC [p]=Value.int .i64 (p.1:Int)::u8s p.2:=by simp[wrC]
def Tl(M:FM)(N:Nat)(v:AT)(full:List Nat)(i:Nat):Prop:=(full=[]/\i=0/\v=.slice none 0 0)\/∃b o w,b<N/\M b=some (.cells (inC full) 1 o w)/\((i<full.length/\v=.slice (some ⟨b,i,none⟩) (full.length-i) UNK)\/(i=full.length/\∃o,v=.slice (some ⟨b,o,none⟩) 0 VAG))
theorem Tl.one(h:Tl M N v full i):Am.one v=true:=by rcases h with⟨_,_,rfl⟩|⟨b,o,w,_,_,⟨_,rfl⟩|⟨_,o,rfl⟩⟩<;>rfl
theorem Own.tl{l:List Nat}(h:Own M n0 N v l):Tl M N v l 0:=by
 rcases h with⟨h1,_,rfl⟩|⟨h1,_,b,rfl,_,h4,h5⟩
 ·exact .inl ⟨List.length_eq_zero_iff.1 h1,rfl,rfl⟩
 ·exact .inr ⟨b,_,_,h4,h5,.inl ⟨h1,by rw[Nat.sub_zero]⟩⟩
theorem OG{v:Vo}(h:v∈vs):ix vs v<=jg vs:=by unfold jg;obtain⟨A,B,rfl⟩:=List.append_of_mem h;rw[Uu,Uc,List.sum_append,List.sum_cons];omega
theorem Ml(hY:jf Y){t:Nat}{rv:AT}{R:List Ex}(hR:Exs m n rv R)(hl:RL R)(hn:(sL R).Nodup)(hr:lens R<=S)(hRS:∀s∈sL R,s<S)(hS:S<=65536)(ht:t<=S)(hk:k<=lens R):Kp (fL PG EL Y 188 [.agg #[.int .i64 (S:Int),rv],.int .i64 (k:Int),.int .i64 (t:Int)] m n) m n λv m' n'=>∃lv W rv' R',v=.tuple #[lv,.agg #[.int .i64 (S:Int),rv'],.int .i64 0]/\Exs m' n' lv W/\Exs m' n' rv' R'/\Of k W R:=by
 rcases Nat.eq_zero_or_pos k with rfl|h1
 ·refine Rt.mono (take_zero hR hl hr hS ht) λv m' n' w ⟨k1,f1,g1,h⟩=>⟨k1,f1,g1,.slice none 0 0,[],rv,R,h,Exs.nil _ _,hR.frame k1 f1,λx hx=>(by cases hx),rfl,List.nodup_nil,λs hs=>(by cases hs)⟩
 ·refine Rt.mono (JE hY hR hl hn hr hRS hS ht hk h1) λv m' n' w ⟨k1,f1,g1,lv,W,rv',R',h2,h3,h4,h5,_,_⟩=>⟨k1,f1,g1,lv,W,rv',R',h2,h3,h4,h5⟩
theorem uV{sz:Nat}{bytes:Nat}{zs:List AT}(h:SlZ sz M n0 N v len cs)(ya:Option Addr)(yc ry:Nat)(h0:n0<=N)(hsz:0<sz)(hzl:zs.length=sz)(hz:zs.all Am.one=true)(hby:0<bytes)(hl:(len+1)*bytes<=140737488355328):
  Rt (nl sz bytes M N v (.slice ya 1 yc) (shown M N sz v) (some (zs,ry))) λv' M' N' w=>AppZ sz M n0 N (len+1) (cs++zs) v' M' N' w/\∀b,b<N->(∀c,M b≠some (.cells c sz true true))->M' b=M b:=by
 have h1:=CO h ya yc ry h0 hsz hzl hz hby hl;obtain⟨v',M',N',r,w,hx,hA⟩:=h1.some;rw[hx];refine⟨hA,λb hb hk=>?_⟩;rcases h with⟨rfl,rfl,rfl⟩|⟨hp,hcl,bx,rfl,hbx,hbN,hM⟩
 ·have hl':(0+1)*bytes<=140737488355328:=by simpa using hl
  rw[mg,j9,j8,hz,gI hsz,gI hby,iq hl',nu (by omega)]at hx;injection hx with e1 e2 e3 e4 e5
  rw[<-e2];exact en _ _ _ _ (by omega)
 ·rw[jL hp,ig hbN,hM,jr,UA,ja,kT,lD hcl.symm]at hx;replace hx:nl sz bytes M N _ _ (some (cs,bit bx)) _=_:=hx;rw[j9,j8,hz,gI hsz,gI hby,iq hl,np,ig hbN,hM,pd]at hx;injection hx with e1 e2 e3 e4 e5
  rw[<-e2,en _ _ _ _ (by omega),en _ _ _ _ (by rintro rfl;exact hk _ hM)]
theorem SlZ.stay{sz sz':Nat}{M':FM}{N':Nat}(h:SlZ sz M n0 N v len cs)(hs:sz≠sz')(hN:N<=N')(hf:∀b,b<N->(∀c,M b≠some (.cells c sz' true true))->M' b=M b):SlZ sz M' n0 N' v len cs:=by
 rcases h with h|⟨h0,hl,b,rfl,h2,h3,h4⟩
 ·exact .inl h
 ·refine .inr ⟨h0,hl,b,rfl,h2,by omega,(hf b h3 λc e=>hs ?_).trans h4⟩;rw[h4]at e;injection e with e
  injection e with _ e
theorem Tl.cut(h:Tl M N v fr i)(hi:i<fr.length):∃b o w,v=.slice (some ⟨b,i,none⟩) (fr.length-i) UNK/\b<N/\M b=some (.cells (inC fr) 1 o w)/\lC (inC fr) i=some (.int .i64 (fr[i]:Int)):=by
 rcases h with⟨rfl,_⟩|⟨b,o,w,h1,h2,h3⟩
 ·cases hi
 ·rcases h3 with⟨_,rfl⟩|⟨h3,_⟩
  ·refine⟨b,o,w,rfl,h1,h2,?_⟩;rw[kD,inC,List.getElem?_map,List.getElem?_eq_getElem hi];rfl
  ·omega
theorem Tl.next{M':FM}{N':Nat}{i:Nat}(hi:i<fr.length)(hb:b<N)(hm:M b=some (.cells (inC fr) 1 o w))(hb':b<N')(hm':M' b=M b):∃v' r,wV M' N' 1 (wU 1 (some (.int .i64 1)) none (.slice (some ⟨b,i,none⟩) (fr.length-i) UNK)) (.slice (some ⟨b,i,none⟩) (fr.length-i) UNK)=.ok v' M' N' r 0/\Tl M N v' fr (i+1)/\Am.one v'=true:=by
 have e1:wU 1 (some (.int .i64 1)) none (.slice (some ⟨b,i,none⟩) (fr.length-i) UNK)=cond (Te 1 (fr.length-i) || SF 1 0) (some (.slice (some ⟨b,Nat.add i (Nat.mul 1 1),none⟩) (fr.length-i-1) UNK)) (some (.slice (some ⟨b,i,none⟩) 0 VAG)):=by show cond (Tj 1 (fr.length-i)&&Tj (fr.length-i) (fr.length-i)) (RR 1 1 (fr.length-i) (fr.length-i) UNK (some ⟨b,i,none⟩)) none=_;rw[iq (show 1<=fr.length-i by omega),iq (IN _)];rfl
 have e2:∀v:AT,wV M' N' 1 (some v) (.slice (some ⟨b,i,none⟩) (fr.length-i) UNK)=.ok v M' N' (bit b) 0:=λv=>by show cond (SF UNK UNK) (cond (BJ 1 (jc M' N' b)) (py M' N' b (some v)) .no) (iK M' N' (some v))=_;rw[UA,ig hb',hm',hm];rfl
 by_cases c:1<fr.length-i
 ·rw[gI c]at e1;refine⟨_,_,by rw[e1];exact e2 _,.inr ⟨b,o,w,hb,hm,.inl ⟨by omega,?_⟩⟩,rfl⟩;show Value.slice (some ⟨b,i+1*1,none⟩) _ _=_;rw[Nat.mul_one,Nat.sub_sub]
 ·have hf:(Te 1 (fr.length-i) || SF 1 0)=false:=by
   rw[Bool.or_eq_false_iff];constructor
   ·cases h:Te 1 (fr.length-i)
    ·rfl
    ·exact absurd (Nat.le_of_ble_eq_true h) (by omega)
   ·rfl
  rw[hf]at e1;exact⟨_,_,by rw[e1];exact e2 _,.inr ⟨b,o,w,hb,hm,.inr ⟨by omega,i,rfl⟩⟩,rfl⟩
set_option maxHeartbeats 4000000 in
theorem Sp(hb:b<n)(hm:m b=some (.cells [cv,mv] 0 false true))(hF:FamR S m n cv mv vs)(hI:Inv S vs)(hS:S<=65536){s:ByteArray}{v:Vo}(hv:gK vs s=some v){dv:AT}{ds:List (List Int)}(hd:jn m n dv ds)(h2:ds.length<=16)(ha:a+ds.length<=v.n)(hfr:fr.length<=65536)
  (u6 u7 u8 u9 u10 u11 u12 u13 u14 u15 u16 u17 u18 u19 u20 u21 u22 u23 u24 u25 u26:AT):
  ∀(d j i:Nat) (C:List Ex) (Wl:List Wt) (fv kv wv x4:AT) (M:FM) (N:Nat),j+d=ds.length->fr.length=i+ndN vs v (a+j) d->C.length<=j->Wl.length=j->n<=N->(∀b,b<n->M b=m b)->Tl m n fv fr i->SlZ 3 M n N wv C.length (exC C)->SlZ 9 M n N kv Wl.length (wrC Wl)->
  Gv (gD PG EL Y xX [fv,kv,wv,.int .i64 (j:Int),x4,.int .i64 (ds.length:Int),u6,u7,u8,u9,u10,u11,u12,u13,u14,u15,u16,u17,u18,u19,u20,u21,u22,u23,u24,u25,u26,.pointer (some ⟨b,0,none⟩),.string s,.int .i64 (a:Int),dv] M N) λX e M' N' w=>(∃kv' wv' z,X=.exit 0/\e=[kv',wv',z,.int .i64 (ds.length:Int),u6,u7,u8,u9,u10,u11,u12,u13,u14,u15,u16,u17,u18,u19,u20,u21,u22,u23,u24,u25,u26,.pointer (some ⟨b,0,none⟩),.string s,.int .i64 (a:Int),dv]/\SlZ 3 M' n N' wv' (C++plC vs v (a+j) d (fr.drop i)).length (exC (C++plC vs v (a+j) d (fr.drop i)))/\SlZ 9 M' n N' kv' (Wl++(plW vs v (a+j) d (fr.drop i)).zip (ds.drop j)).length (wrC (Wl++(plW vs v (a+j) d (fr.drop i)).zip (ds.drop j))))/\N<=N'/\(∀b,b<n->M' b=m b)/\SL w (bit n)=0:=by
 have hvo:=hI.found hv;have hvn:=hvo.n2;have od:=hd.one;intro d
 induction d with
 |zero=>
  intro j i C Wl fv kv wv x4 M N hj hfi hCl hWl hN hf hT hK hW;have o1:=hT.one;have o2:=hK.one;have o3:=hW.one;refine gA (L:=xX) (b:=sD) rfl ?_;simp only[sD];simp(disch:=omega)only[W_,eu,to,IS];refine⟨⟨kv,wv,x4,rfl,?_,?_⟩,IN _,hf⟩
  ·rw[show plC vs v (a+j) 0 (fr.drop i)=[]from rfl,SN];exact hK
  ·rw[show plW vs v (a+j) 0 (fr.drop i)=[]from rfl,List.zip_nil_left,SN];exact hW
 |succ d ih=>
  intro j i C Wl fv kv wv x4 M N hj hfi hCl hWl hN hf hT hK hW;have o1:=hT.one;have o2:=hK.one;have o3:=hW.one;have c1:=hF.c.one;have c2:=hF.m.one;obtain⟨db,dof,dcs,dop,dwr,i1,i2,i3,i4,i5⟩:=hd.at (i:=j) (by omega);have i3M:=(hf db i2).trans i3;have hmM:=(hf b hb).trans hm;refine gA (L:=xX) (b:=sD) rfl ?_;simp only[sD];simp(disch:=omega)only[W_,eu,to,IS,i1,i3M,i5,lO i4,li,oK i4,oL i4,ua,hmM,c1,c2];have f1:∀c,c<N->(If M N (some (.cells (u8s ds[j]) 0 false true)):FM) c=M c:=λc hc=>gu;have t1:=eB M N (some (.cells (u8s ds[j]) 0 false true));have K1:=hK.frame (N':=N+1) (by omega) λc _ hc=>f1 c hc;have W1:=hW.frame (N':=N+1) (by omega) λc _ hc=>f1 c hc;revert f1 t1 K1 W1;generalize (If M N (some (.cells (u8s ds[j]) 0 false true)):FM)=M1;intro f1 t1 K1 W1;have fn1:∀c,c<n->M1 c=m c:=λc hc=>(f1 c (by omega)).trans (hf c hc);have F1:=hF.frame (N':=N+1) (by omega) fn1;have m1:=(fn1 b hb).trans hm;have hlk:=rE (Y:=Y) F1 hv hvn (a:=a+j) (by omega);unfold fV at hlk;refine fF hlk λr1=>?_
  cases hl:lk v.P (a+j)with
  |none=>
   have hnd:ndS vs v (a+j)=true:=by unfold ndS;rw[hl]
   rw[nZ,if_pos hnd]at hfi;obtain⟨fb,fo,fw,rfl,g1,g2,g3⟩:=hT.cut (by omega);have g2M:=(fn1 fb g1).trans g2;obtain⟨fv',r2,g4,g5,g6⟩:=Tl.next (M':=M1) (N':=N+1) (i:=i) (by omega) g1 g2 (by omega) (fn1 fb g1);simp(disch:=omega)only[W_,eu,to,IS,zg,t1,g2M,g3,MC,yY,yZ,Option.toList_some,Option.toList_none,g4,o2,o3,g6];refine fI (uV (sz:=3) (zs:=[.int .i64 ((a+j:Nat):Int),.int .i64 1,.int .i64 (fr[i]:Int)]) (K1.frame (N':=N+2) (by omega) λc _ hc=>gu) _ _ _ (by omega) (by omega) rfl rfl (by omega) (by omega)) λv2 M2 n2 r3 w2 ⟨A2,B2⟩=>?_;have hn2:=A2.n;subst hn2;have b2:∀c,c<N+1->(∀e,M1 c≠some (.cells e 3 true true))->M2 c=M1 c:=λc hc he=>by rw[B2 c (by omega) λe=>by rw[en _ _ _ _ (by omega)];exact he e,en _ _ _ _ (by omega)]
   have t2:=(b2 N (by omega) λe he=>by rw[t1]at he;cases he).trans t1;have W2:=SlZ.stay (sz:=9) W1 (N':=N+3) (M':=M2) (sz':=3) (by decide) (by omega) b2;have o4:=A2.s.one;simp(disch:=omega)only[W_,eu,to,IS,o4,t2,lO i4,oK i4,oL i4,li];refine fI (uV (sz:=9) (zs:=.int .i64 (fr[i]:Int)::u8s ds[j]) (W2.frame (N':=N+4) (by omega) λc _ hc=>gu) _ _ _ (by omega) (by omega) (by rw[SA,u8s,SC,i4]) (by rw[WZ,li];rfl) (by omega) (by omega)) λv3 M3 n3 r4 w3 ⟨A3,B3⟩=>?_;have hn3:=A3.n;subst hn3;have b3:∀c,c<N+3->(∀e,M2 c≠some (.cells e 9 true true))->M3 c=M2 c:=λc hc he=>by rw[B3 c (by omega) λe=>by rw[en _ _ _ _ (by omega)];exact he e,en _ _ _ _ (by omega)]
   have K3:=SlZ.stay (sz:=3) A2.s (N':=N+5) (M':=M3) (sz':=9) (by decide) (by omega) b3;have o5:=A3.s.one;simp(disch:=omega)only[W_,eu,to,IS,o5];have K3':SlZ 3 M3 n (N+5) v2 (C++[(⟨a+j,1,fr[i]⟩:Ex)]).length (exC (C++[(⟨a+j,1,fr[i]⟩:Ex)])):=by rw[IT,Tu,nM];exact K3
   have W3':SlZ 9 M3 n (N+5) v3 (Wl++[(fr[i],ds[j])]).length (wrC (Wl++[(fr[i],ds[j])])):=by rw[IT,Tu,BB,BA];exact A3.s
   have fn3:∀c,c<n->M3 c=m c:=λc hc=>by rw[A3.low c hc,en _ _ _ _ (by omega),A2.low c hc,en _ _ _ _ (by omega)];exact fn1 c hc
   have hdr:fr.drop i=fr[i]::fr.drop (i+1):=Tx (by omega);have hdd:ds.drop j=ds[j]::ds.drop (j+1):=Tx (by omega)
   have ePC:C++plC vs v (a+j) (d+1) (fr.drop i)=C++[(⟨a+j,1,fr[i]⟩:Ex)]++plC vs v (a+(j+1)) d (fr.drop (i+1)):=by
    rw[hdr]
    conv=>lhs;unfold plC
    rw[if_pos hnd,S6];rfl
   have ePW:Wl++(plW vs v (a+j) (d+1) (fr.drop i)).zip (ds.drop j)=Wl++[(fr[i],ds[j])]++(plW vs v (a+(j+1)) d (fr.drop (i+1))).zip (ds.drop (j+1)):=by
    rw[hdr,hdd]
    conv=>lhs;unfold plW
    rw[if_pos hnd,S6];rfl
   rw[ePC,ePW];exact gR (ih (j+1) (i+1) (C++[(⟨a+j,1,fr[i]⟩:Ex)]) (Wl++[(fr[i],ds[j])]) fv' v3 v2 _ M3 (N+5) (by omega) (by rw[<-Ux];omega) (by rw[IT,Tu];omega) (by rw[IT,Tu];omega) (by omega) fn3 g5 K3' W3') λX e m' n' w ⟨p1,p2,p3,p4⟩=>⟨p1,by omega,p3,(by simp(disch:=omega)only[fB,eS,eR,and_self,A2.w n (IN _),A3.w n (IN _),p4])⟩
  |some z=>
   have hcnt:=zC (Y:=Y) F1 hS (s:=z) (hvo.sl _ ((oU hvo.sp).1 hl));unfold fV at hcnt;by_cases hc:(slv vs).count z=1
   ·have hnd:ndS vs v (a+j)=false:=by unfold ndS;rw[hl];simp[hc]
    rw[nZ,if_neg (by simp[hnd])]at hfi;rw[hc]at hcnt;simp(disch:=omega)only[W_,eu,to,IS,zg,m1,c1,c2];refine fF hcnt λr9=>?_;simp(disch:=omega)only[W_,eu,to,IS,t1,o1,o2,o3,lO i4,oK i4,oL i4,li];refine fI (uV (sz:=9) (zs:=.int .i64 (z:Int)::u8s ds[j]) (W1.frame (N':=N+2) (by omega) λc _ hc=>gu) _ _ _ (by omega) (by omega) (by rw[SA,u8s,SC,i4]) (by rw[WZ,li];rfl) (by omega) (by omega)) λv3 M3 n3 r4 w3 ⟨A3,B3⟩=>?_;have hn3:=A3.n;subst hn3;have b3:∀c,c<N+1->(∀e,M1 c≠some (.cells e 9 true true))->M3 c=M1 c:=λc hc he=>by rw[B3 c (by omega) λe=>by rw[en _ _ _ _ (by omega)];exact he e,en _ _ _ _ (by omega)]
    have K3:=SlZ.stay (sz:=3) K1 (N':=N+3) (M':=M3) (sz':=9) (by decide) (by omega) b3;have o5:=A3.s.one;simp(disch:=omega)only[W_,eu,to,IS,o5];have W3':SlZ 9 M3 n (N+3) v3 (Wl++[(z,ds[j])]).length (wrC (Wl++[(z,ds[j])])):=by rw[IT,Tu,BB,BA];exact A3.s
    have fn3:∀c,c<n->M3 c=m c:=λc hc=>by rw[A3.low c hc,en _ _ _ _ (by omega)];exact fn1 c hc
    have hdd:ds.drop j=ds[j]::ds.drop (j+1):=Tx (by omega)
    have ePC:C++plC vs v (a+j) (d+1) (fr.drop i)=C++plC vs v (a+(j+1)) d (fr.drop i):=by
     conv=>lhs;unfold plC
     rw[if_neg (by simp[hnd])];rfl
    have ePW:Wl++(plW vs v (a+j) (d+1) (fr.drop i)).zip (ds.drop j)=Wl++[(z,ds[j])]++(plW vs v (a+(j+1)) d (fr.drop i)).zip (ds.drop (j+1)):=by
     rw[hdd]
     conv=>lhs;unfold plW
     rw[if_neg (by simp[hnd]),hl,S6];rfl
    rw[ePC,ePW];exact gR (ih (j+1) i C (Wl++[(z,ds[j])]) fv v3 wv _ M3 (N+3) (by omega) (by rw[<-Ux];omega) (by omega) (by rw[IT,Tu];omega) (by omega) fn3 hT K3 W3') λX e m' n' w ⟨p1,p2,p3,p4⟩=>⟨p1,by omega,p3,(by simp(disch:=omega)only[fB,eS,eR,and_self,A3.w n (IN _),p4])⟩
   ·have hnd:ndS vs v (a+j)=true:=by unfold ndS;rw[hl];simp[hc]
    rw[nZ,if_pos hnd]at hfi;obtain⟨fb,fo,fw,rfl,g1,g2,g3⟩:=hT.cut (by omega);have g2M:=(fn1 fb g1).trans g2;obtain⟨fv',r2,g4,g5,g6⟩:=Tl.next (M':=M1) (N':=N+1) (i:=i) (by omega) g1 g2 (by omega) (fn1 fb g1);simp(disch:=omega)only[W_,eu,to,IS,zg,m1,c1,c2];refine fF hcnt λr9=>?_;simp(disch:=omega)only[W_,eu,to,IS,zg,t1,g2M,g3,MC,yY,yZ,Option.toList_some,Option.toList_none,g4,o2,o3,g6];refine fI (uV (sz:=3) (zs:=[.int .i64 ((a+j:Nat):Int),.int .i64 1,.int .i64 (fr[i]:Int)]) (K1.frame (N':=N+2) (by omega) λc _ hc=>gu) _ _ _ (by omega) (by omega) rfl rfl (by omega) (by omega)) λv2 M2 n2 r3 w2 ⟨A2,B2⟩=>?_;have hn2:=A2.n;subst hn2;have b2:∀c,c<N+1->(∀e,M1 c≠some (.cells e 3 true true))->M2 c=M1 c:=λc hc he=>by rw[B2 c (by omega) λe=>by rw[en _ _ _ _ (by omega)];exact he e,en _ _ _ _ (by omega)]
    have t2:=(b2 N (by omega) λe he=>by rw[t1]at he;cases he).trans t1;have W2:=SlZ.stay (sz:=9) W1 (N':=N+3) (M':=M2) (sz':=3) (by decide) (by omega) b2;have o4:=A2.s.one;simp(disch:=omega)only[W_,eu,to,IS,o4,t2,lO i4,oK i4,oL i4,li];refine fI (uV (sz:=9) (zs:=.int .i64 (fr[i]:Int)::u8s ds[j]) (W2.frame (N':=N+4) (by omega) λc _ hc=>gu) _ _ _ (by omega) (by omega) (by rw[SA,u8s,SC,i4]) (by rw[WZ,li];rfl) (by omega) (by omega)) λv3 M3 n3 r4 w3 ⟨A3,B3⟩=>?_;have hn3:=A3.n;subst hn3;have b3:∀c,c<N+3->(∀e,M2 c≠some (.cells e 9 true true))->M3 c=M2 c:=λc hc he=>by rw[B3 c (by omega) λe=>by rw[en _ _ _ _ (by omega)];exact he e,en _ _ _ _ (by omega)]
    have K3:=SlZ.stay (sz:=3) A2.s (N':=N+5) (M':=M3) (sz':=9) (by decide) (by omega) b3;have o5:=A3.s.one;simp(disch:=omega)only[W_,eu,to,IS,o5];have K3':SlZ 3 M3 n (N+5) v2 (C++[(⟨a+j,1,fr[i]⟩:Ex)]).length (exC (C++[(⟨a+j,1,fr[i]⟩:Ex)])):=by rw[IT,Tu,nM];exact K3
    have W3':SlZ 9 M3 n (N+5) v3 (Wl++[(fr[i],ds[j])]).length (wrC (Wl++[(fr[i],ds[j])])):=by rw[IT,Tu,BB,BA];exact A3.s
    have fn3:∀c,c<n->M3 c=m c:=λc hc=>by rw[A3.low c hc,en _ _ _ _ (by omega),A2.low c hc,en _ _ _ _ (by omega)];exact fn1 c hc
    have hdr:fr.drop i=fr[i]::fr.drop (i+1):=Tx (by omega);have hdd:ds.drop j=ds[j]::ds.drop (j+1):=Tx (by omega)
    have ePC:C++plC vs v (a+j) (d+1) (fr.drop i)=C++[(⟨a+j,1,fr[i]⟩:Ex)]++plC vs v (a+(j+1)) d (fr.drop (i+1)):=by
     rw[hdr]
     conv=>lhs;unfold plC
     rw[if_pos hnd,S6];rfl
    have ePW:Wl++(plW vs v (a+j) (d+1) (fr.drop i)).zip (ds.drop j)=Wl++[(fr[i],ds[j])]++(plW vs v (a+(j+1)) d (fr.drop (i+1))).zip (ds.drop (j+1)):=by
     rw[hdr,hdd]
     conv=>lhs;unfold plW
     rw[if_pos hnd,S6];rfl
    rw[ePC,ePW];exact gR (ih (j+1) (i+1) (C++[(⟨a+j,1,fr[i]⟩:Ex)]) (Wl++[(fr[i],ds[j])]) fv' v3 v2 _ M3 (N+5) (by omega) (by rw[<-Ux];omega) (by rw[IT,Tu];omega) (by rw[IT,Tu];omega) (by omega) fn3 g5 K3' W3') λX e m' n' w ⟨p1,p2,p3,p4⟩=>⟨p1,by omega,p3,(by simp(disch:=omega)only[fB,eS,eR,and_self,A2.w n (IN _),A3.w n (IN _),p4])⟩
end Go.Am.CR
